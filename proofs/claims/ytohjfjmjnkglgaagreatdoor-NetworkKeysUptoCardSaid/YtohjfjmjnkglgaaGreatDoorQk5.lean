/- Parts, merged. -/
import Derived.Test.YtohjfjmjnkglgaaGreatDoorQk4
namespace Go.Proofs.YtohjfjmjnkglgaaGreatDoor
open _root_.Go.Proofs.Tryz
noncomputable section
open Go.RowKit
attribute [local irreducible] AV.exact AV.top AV.row AV.ptr AV.agg AV.tup AV.eptr AV.fn AV.nilq AV.nilqn opA opB opM opR Quiet Loud Reads wpG awp den Sub SubU Pure Fun vecI vecT boxI CellsAll CellsOf OneC LEs LEss
set_option maxRecDepth 100000
set_option maxHeartbeats 4000000
theorem m_ref21_builder_under_F_ok {w0:Nat} (e:(((List ((List UInt8)×Int×Bool×(Int×Int)×(List (Int×Int×Int))))×(List ((List UInt8)×Int×(List Int)×(List (List UInt8))))×(List (Int×Int×Int×Int×(Int×Int)))×(List (List UInt8)))×(List ((List UInt8)×(List UInt8)×(List Int)×Bool))×Int)->Int->Option Bool) (hself_ref21_builder_under: ∀ ⦃w0:Nat⦄ (a0:((List ((List UInt8)×Int×Bool×(Int×Int)×(List (Int×Int×Int))))×(List ((List UInt8)×Int×(List Int)×(List (List UInt8))))×(List (Int×Int×Int×Int×(Int×Int)))×(List (List UInt8)))×(List ((List UInt8)×(List UInt8)×(List Int)×Bool))×Int) (a1:Int) (r:Bool),e a0 a1=some r->Fun Tryz.prog 21 [(pA w0 0),(.exact (.int .i64 a1))] [boxI 65 w0 [.row 6 zbu a0.1.1, .row 4 zbs a0.1.2.1, .row 6 zbh a0.1.2.2.1, .row 1 zab a0.1.2.2.2, .row 4 zas a0.2.1, .exact (.int .i64 a0.2.2)]] (λ a s=>a= .exact (.bool r)/\s=[boxI 65 w0 [.row 6 zbu a0.1.1, .row 4 zbs a0.1.2.1, .row 6 zbh a0.1.2.2.1, .row 1 zab a0.1.2.2.2, .row 4 zas a0.2.1, .exact (.int .i64 a0.2.2)]])) (a0:((List ((List UInt8)×Int×Bool×(Int×Int)×(List (Int×Int×Int))))×(List ((List UInt8)×Int×(List Int)×(List (List UInt8))))×(List (Int×Int×Int×Int×(Int×Int)))×(List (List UInt8)))×(List ((List UInt8)×(List UInt8)×(List Int)×Bool))×Int) (a1:Int) (r:Bool) (h:m_ref21_builder_under_F e a0 a1=some r):Fun Tryz.prog 21 [(pA w0 0),(.exact (.int .i64 a1))] [boxI 65 w0 [.row 6 zbu a0.1.1, .row 4 zbs a0.1.2.1, .row 6 zbh a0.1.2.2.1, .row 1 zab a0.1.2.2.2, .row 4 zas a0.2.1, .exact (.int .i64 a0.2.2)]] (λ a s=>a= .exact (.bool r)/\s=[boxI 65 w0 [.row 6 zbu a0.1.1, .row 4 zbs a0.1.2.1, .row 6 zbh a0.1.2.2.1, .row 1 zab a0.1.2.2.2, .row 4 zas a0.2.1, .exact (.int .i64 a0.2.2)]]):=by
 unfold m_ref21_builder_under_F at h
 refine zam func21 rfl ntmps21 (by simp) rfl (res1 rfl) λ E hE=>zca (sr (qa (.xb false) rfl (gc (zbw h ((pt AF0 0 (pA w0 0))) ([boxI 65 w0 [.row 6 zbu a0.1.1, .row 4 zbs a0.1.2.1, .row 6 zbh a0.1.2.2.1, .row 1 zab a0.1.2.2.2, .row 4 zas a0.2.1, .xi a0.2.2]]) (λ k1 h=> ?_) (λ  h=> ?_)))))
 .refine sr (qa (.xi 0) rfl (gc (zaq (zcr (zhu e a0 a1 k1) (zhr e a0 a1 k1) (λ _=>rfl) (λ m _=>rfl) h (λ(b:Int)=>(pt (pt (pt AF0 0 (pA w0 0)) 1 (.xi a1)) 5 (.xi b))) (λ(b:Int)=>[boxI 65 w0 [.row 6 zbu a0.1.1, .row 4 zbs a0.1.2.1, .row 6 zbh a0.1.2.2.1, .row 1 zab a0.1.2.2.2, .row 4 zas a0.2.1, .xi a0.2.2]]) ?_ (λ i b h=> ?_)))))
  .exact s3 rfl rfl rfl
  .unfold zhr at h
   refine zan (sr (qm (.xi b) rfl (qm (pA w0 0) rfl (gq (zes rfl (gq (zba (o:=4) (by kernel_rfl) rfl (G_r rfl (zaz (a:= .row 4 zas a0.2.1) (by kernel_rfl) rfl rfl (gq (zao (by kernel_rfl) rfl (gq (zbm rfl rfl (gc (kd (p:=b<(List.length a0.2.1:Int)) rfl h (λ hc h=> ?_) (λ hc h=> ?_))))))))))))))))
   .refine zap (zaf (zbw h ((pt (pt (pt AF0 0 (pA w0 0)) 1 (.xi a1)) 5 (.xi b))) ([boxI 65 w0 [.row 6 zbu a0.1.1, .row 4 zbs a0.1.2.1, .row 6 zbh a0.1.2.2.1, .row 1 zab a0.1.2.2.2, .row 4 zas a0.2.1, .xi a0.2.2]]) (λ k258 h=> ?_) (λ  h=> ?_)))
    .refine zaq (sr (qa (.xi 0) rfl (gc (zaq (zcr (zhh e a0 a1 b k258) (zhi e a0 a1 b k258) (λ _=>rfl) (λ m _=>rfl) h (λ(d:Int)=>(pt (pt (pt (pt AF0 0 (pA w0 0)) 1 (.xi a1)) 5 (.xi b)) 6 (.xi d))) (λ(d:Int)=>[boxI 65 w0 [.row 6 zbu a0.1.1, .row 4 zbs a0.1.2.1, .row 6 zbh a0.1.2.2.1, .row 1 zab a0.1.2.2.2, .row 4 zas a0.2.1, .xi a0.2.2]]) ?_ (λ j d h=> ?_))))))
     .exact s4 rfl rfl rfl rfl
     .unfold zhi at h
      refine zan (sr (qm (.xi d) rfl (qm (pA w0 0) rfl (gq (zes rfl (gq (zba (o:=4) (by kernel_rfl) rfl (G_r rfl (zaz (a:= .row 4 zas a0.2.1) (by kernel_rfl) rfl rfl (qm (.xi b) rfl ?_))))))))))
      obtain⟨n300,h⟩:=zad h
      refine gq (zai (by kernel_rfl) rfl rfl n300.1 n300.2 (gq (zaj (o:=2) (c':=(List.drop 2 (zas (gi a0.2.1 b)))) (by kernel_rfl) rfl rfl (gq (zak (a:= .row 1 zav ((gi a0.2.1 b).2.2.1)) (by kernel_rfl) rfl rfl (gq (zao (by kernel_rfl) rfl (gq (zbm rfl rfl (gc (kd (p:=d<(List.length ((gi a0.2.1 b).2.2.1):Int)) rfl h (λ hc h=> ?_) (λ hc h=> ?_))))))))))))
      .refine zap (zaf (zan (zaq (sr (qm (pA w0 0) rfl (gq (zes rfl (gq (zba (o:=4) (by kernel_rfl) rfl (G_r rfl (zaz (a:= .row 4 zas a0.2.1) (by kernel_rfl) rfl rfl (qm (.xi b) rfl ?_))))))))))))
       obtain⟨n301,h⟩:=zad h
       refine gq (zai (by kernel_rfl) rfl rfl n301.1 n301.2 (gq (zaj (o:=2) (c':=(List.drop 2 (zas (gi a0.2.1 b)))) (by kernel_rfl) rfl rfl (gq (zak (a:= .row 1 zav ((gi a0.2.1 b).2.2.1)) (by kernel_rfl) rfl rfl (qm (.xi d) rfl ?_))))))
       obtain⟨n302,h⟩:=zad h
       refine gq (zai (by kernel_rfl) rfl rfl n302.1 n302.2 (gq (zak (a:= .xi (gi ((gi a0.2.1 b).2.2.1) d)) (by kernel_rfl) rfl rfl (qm (.xi a1) rfl (gq (zbf rfl rfl (gc (kd (p:=(gi ((gi a0.2.1 b).2.2.1) d)=a1) rfl h (λ hc h=> ?_) (λ hc h=> ?_)))))))))
       .refine zax h (λ(f:Bool)=>(pt (pt AF0 0 (pA w0 0)) 4 (.xb f))) (λ(f:Bool)=>[boxI 65 w0 [.row 6 zbu a0.1.1, .row 4 zbs a0.1.2.1, .row 6 zbh a0.1.2.2.1, .row 1 zab a0.1.2.2.2, .row 4 zas a0.2.1, .xi a0.2.2]]) (λ k303 h=> ?_) (λ f h=> ?_)
        .refine kr (qm (pA w0 0) rfl (gq (zes rfl (gq (zba (o:=4) (by kernel_rfl) rfl (G_r rfl (zaz (a:= .row 4 zas a0.2.1) (by kernel_rfl) rfl rfl (qm (.xi b) rfl ?_))))))))
         obtain⟨n306,h⟩:=zad h
         refine gq (zai (by kernel_rfl) rfl rfl n306.1 n306.2 (gq (zaj (o:=3) (c':=(List.drop 3 (zas (gi a0.2.1 b)))) (by kernel_rfl) rfl rfl (gq (zak (a:= .xb ((gi a0.2.1 b).2.2.2)) (by kernel_rfl) rfl rfl (qm (.xb ((gi a0.2.1 b).2.2.2)) rfl (zfl (c:=(gi a0.2.1 b).2.2.2) 50 rfl (λ hc=> ?_) (λ hc=> ?_))))))))
         .replace h:=zcg h hc
          refine gy (zah (av:=pA w0 0) rfl (gy (zah (av:= .xi b) rfl ?_)))
          obtain⟨y307,g,h⟩:=zae h
          refine Gy_l rfl rfl rfl (zdg (hself_ref21_builder_under _ _ _ g) func21 (by kernel_rfl) (lc lf (lc lf ln)) (gq (zat rfl (av:= .xb y307) rfl (qa (.xb y307) rfl (zbc (zaa ⟨_,h,s2 rfl rfl⟩))))))
         .replace h:=zcf h hc
          refine gn (gn (gn (gq (zar rfl (av:= .xb false) rfl (qa (.xb false) rfl (zbc (zaa ⟨_,h,s2 rfl rfl⟩)))))))
        .refine zbn (zde (zdb (zek (zde (zde (zek (zek (zde (zek ?_)))))))))
         obtain rfl:=oi h
         refine ke (pt AF0 4 (.xb f)) [boxI 65 w0 [.row 6 zbu a0.1.1, .row 4 zbs a0.1.2.1, .row 6 zbh a0.1.2.2.1, .row 1 zab a0.1.2.2.2, .row 4 zas a0.2.1, .xi a0.2.2]] rfl (s1 rfl) ⟨rfl,rfl⟩
       .refine zap (zau (zaf (kr (qm (.xi d) rfl (gq (zbo rfl rfl rfl (qa (.xi (i64 (d+1))) rfl (zbc (zaa ⟨_,h,s4 rfl rfl rfl rfl⟩)))))))))
      .refine zbr (zbi (zbk (zbj (zau (zaa ⟨h,s3 rfl rfl rfl⟩)))))
    .refine kr (qm (.xi b) rfl (gq (zbo rfl rfl rfl (qa (.xi (i64 (b+1))) rfl (zbc (zaa ⟨_,h,s3 rfl rfl rfl⟩))))))
   .refine zbr (zbi (zbk (zbj (zaa ⟨h,s1 rfl⟩))))
 .refine sr (qa (.xb true) rfl (gc (zbn ?_)))
  obtain rfl:=oi h
  refine ke (pt AF0 4 (.xb true)) [boxI 65 w0 [.row 6 zbu a0.1.1, .row 4 zbs a0.1.2.1, .row 6 zbh a0.1.2.2.1, .row 1 zab a0.1.2.2.2, .row 4 zas a0.2.1, .xi a0.2.2]] rfl (s1 rfl) ⟨rfl,rfl⟩
theorem m_ref21_builder_under_S_ok: ∀n:Nat,(∀ ⦃w0:Nat⦄ (a0:((List ((List UInt8)×Int×Bool×(Int×Int)×(List (Int×Int×Int))))×(List ((List UInt8)×Int×(List Int)×(List (List UInt8))))×(List (Int×Int×Int×Int×(Int×Int)))×(List (List UInt8)))×(List ((List UInt8)×(List UInt8)×(List Int)×Bool))×Int) (a1:Int) (r:Bool),zgl n a0 a1=some r->Fun Tryz.prog 21 [(pA w0 0),(.exact (.int .i64 a1))] [boxI 65 w0 [.row 6 zbu a0.1.1, .row 4 zbs a0.1.2.1, .row 6 zbh a0.1.2.2.1, .row 1 zab a0.1.2.2.2, .row 4 zas a0.2.1, .exact (.int .i64 a0.2.2)]] (λ a s=>a= .exact (.bool r)/\s=[boxI 65 w0 [.row 6 zbu a0.1.1, .row 4 zbs a0.1.2.1, .row 6 zbh a0.1.2.2.1, .row 1 zab a0.1.2.2.2, .row 4 zas a0.2.1, .exact (.int .i64 a0.2.2)]]))
  |0=>(λ _ _ _ _ h=>by have h':(none:Option _)=some _:=h;cases h')
  |n+1=>by
    have ih:=m_ref21_builder_under_S_ok n
    exact λ w0 a0 a1 r h=>m_ref21_builder_under_F_ok (zgl n) ih a0 a1 r h
theorem m_ref21_builder_under_ok {w0:Nat} (a0:((List ((List UInt8)×Int×Bool×(Int×Int)×(List (Int×Int×Int))))×(List ((List UInt8)×Int×(List Int)×(List (List UInt8))))×(List (Int×Int×Int×Int×(Int×Int)))×(List (List UInt8)))×(List ((List UInt8)×(List UInt8)×(List Int)×Bool))×Int) (a1:Int) (r:Bool) (h:m_ref21_builder_under a0 a1=some r):Fun Tryz.prog 21 [(pA w0 0),(.exact (.int .i64 a1))] [boxI 65 w0 [.row 6 zbu a0.1.1, .row 4 zbs a0.1.2.1, .row 6 zbh a0.1.2.2.1, .row 1 zab a0.1.2.2.2, .row 4 zas a0.2.1, .exact (.int .i64 a0.2.2)]] (λ a s=>a= .exact (.bool r)/\s=[boxI 65 w0 [.row 6 zbu a0.1.1, .row 4 zbs a0.1.2.1, .row 6 zbh a0.1.2.2.1, .row 1 zab a0.1.2.2.2, .row 4 zas a0.2.1, .exact (.int .i64 a0.2.2)]]):=(m_ref21_builder_under_S_ok FU) a0 a1 r h
theorem m_ref21_b2i_ok (a0:Bool) (r:Int) (h:m_ref21_b2i a0=some r):Pure Tryz.prog 20 [(.exact (.bool a0))] (.exact (.int .i64 r)):=by
 unfold m_ref21_b2i at h
 refine Pure.ofFun (zam func20 rfl ntmps20 (by simp) rfl (res1 rfl) λ E hE=>zca (sr (qa (.xi 0) rfl (gc (zan (sr (qm (.xb a0) rfl (gc (kb (p:=a0) rfl h (λ hc h=> ?_) (λ hc h=> ?_))))))))))
 .refine sr (qa (.xi 1) rfl (gc (zbn (zdb ?_))))
  obtain rfl:=oi h
  refine ke (pt AF0 2 (.xi 1)) [] rfl (s1 rfl) ⟨rfl,rfl⟩
 .refine zap (zaf (sr (qa (.xi 0) rfl (gc (zbn ?_)))))
  obtain rfl:=oi h
  refine ke (pt AF0 2 (.xi 0)) [] rfl (s1 rfl) ⟨rfl,rfl⟩
theorem m_ref21_Hole_ok (a0:Int) (r:(List UInt8)) (h:m_ref21_Hole a0=some r):Pure Tryz.prog 50 [(.exact (.int .i64 a0))] (.exact (.string (bs r))):=by
 unfold m_ref21_Hole at h
 refine Pure.ofFun (zam func50 rfl ntmps50 (by simp) rfl (res1 rfl) λ E hE=>zca (sr (qa (.xs ([]:List UInt8)) rfl (gd (qm (.xi a0) rfl ?_)))))
 obtain⟨y1,a,h⟩:=zae h
 refine gq (zal (m_ref9_Int_ok _ _ a) func68 (by kernel_rfl) (lc lf ln) (gq (zcd (n:=1) (enc:=zab) [y1] (CellsAll.cons rfl CellsOf.str CellsAll.nil) rfl (by kernel_rfl) (LEss.cons (lc lf ln) LEss.nil) ?_)))
 obtain⟨y2,b,h⟩:=zae h
 refine gq (zal (zhv _ _ _ b) func31 (by kernel_rfl) (lc lf (lc lf ln)) (qa (.xs y2) rfl (gc (zbn ?_))))
 obtain rfl:=oi h
 refine ke (pt AF0 2 (.xs y2)) [] rfl (s1 rfl) ⟨rfl,rfl⟩
theorem m_ref16_With_ok (a0:List UInt8) (a1:List (List UInt8)) (r:(List UInt8)) (h:m_ref16_With a0 a1=some r):Pure Tryz.prog 51 [(.exact (.string (bs a0))),(.row 1 zab a1)] (.exact (.string (bs r))):=by
 unfold m_ref16_With at h
 refine Pure.ofFun (zam func51 rfl ntmps51 (by simp) rfl (res1 rfl) λ E hE=>zca (sr (qa (.xs ([]:List UInt8)) rfl (gd (qm (.xs a0) rfl ?_)))))
 obtain⟨y1,k,h⟩:=zae h
 refine gq (zal (zdm _ _ k) func45 (by kernel_rfl) (lc lf ln) (qa (.xi y1) rfl (gd (qm (.xs a0) rfl ?_))))
 obtain⟨y2,l,h⟩:=zae h
 refine gq (zal (zeg _ _ l) func42 (by kernel_rfl) (lc lf ln) ?_)
 obtain⟨n3,h⟩:=zad h
 refine G_l rfl (op_appN (enc:=zab) (by kernel_rfl) rfl rfl zco n3 (λ v4=>qa (.exact v4) rfl (gd (qa (.xi 0) rfl (gc (zbw h ((pt (pt (pt (pt AF0 1 (.row 1 zab a1)) 5 (.xi y1)) 6 (.exact v4)) 7 (.xi 0))) ([vecT Tryz.prog 36 1 zab v4 y2]) (λ k5 h=> ?_) (λ  h=> ?_)))))))
 .refine sr (qm (.xi y1) rfl (gq (zbf rfl rfl (gc (kd (p:=y1=6) rfl h (λ hc h=> ?_) (λ hc h=> ?_))))))
  .refine zan ?_
   cases h
  .refine zap (zaa ⟨h,s4 rfl rfl rfl rfl⟩)
 .refine sr (qm (.xi y1) rfl ?_)
  obtain⟨y6,n,h⟩:=zae h
  refine gq (zal (zgq _ _ n) func30 (by kernel_rfl) (lc lf ln) (qa (.xs y6) rfl (gc (zax h (λ(e:List (List UInt8))=>(pt (pt AF0 5 (.xi y1)) 6 (.exact v4))) (λ(e:List (List UInt8))=>[vecT Tryz.prog 36 1 zab v4 e]) (λ k7 h=> ?_) (λ e h=> ?_)))))
  .refine sr (qa (.xi 0) rfl (gc (zaq (k_loop3_0 (m_ref16_With_L2 a1 y6 k7) (m_ref16_With_B2 a1 y6 k7) (λ _ _ _=>rfl) (λ m _ _ _=>rfl) h (λ(f:List (List UInt8)) (d:Int) (c:Int)=>(pt (pt (pt (pt (pt (pt AF0 1 (.row 1 zab a1)) 5 (.xi y1)) 6 (.exact v4)) 7 (.xi d)) 11 (.xs y6)) 12 (.xi c))) (λ(f:List (List UInt8)) (d:Int) (c:Int)=>[vecT Tryz.prog 36 1 zab v4 f]) ?_ (λ s f d c h=> ?_)))))
   .exact so (l4 rfl rfl rfl rfl (lq rfl (lq rfl lt0)))
   .unfold m_ref16_With_B2 at h
    refine zan (sr (qm (.xi c) rfl (qm (.xs y6) rfl (gq (op_lenS (by kernel_rfl) rfl (gq (zbm rfl rfl (gc (kd (p:=c<(List.length y6:Int)) rfl h (λ hc h=> ?_) (λ hc h=> ?_))))))))))
    .refine zap (zaf (k_join2_0 h (λ(g:List (List UInt8)) (j:Int)=>(pt (pt (pt (pt (pt (pt AF0 1 (.row 1 zab a1)) 5 (.xi y1)) 6 (.exact v4)) 7 (.xi j)) 11 (.xs y6)) 12 (.xi c))) (λ(g:List (List UInt8)) (j:Int)=>[vecT Tryz.prog 36 1 zab v4 g]) (λ k44 h=> ?_) (λ g j h=> ?_)))
     .refine zaq (sr (qm (.xs y6) rfl (qm (.xi c) rfl ?_)))
      obtain⟨n48,h⟩:=zad h
      refine gq (zct (by kernel_rfl) rfl rfl n48.1 n48.2 (gq (zgr (a:=(gi y6 c)) (b:=80) rfl rfl (gc (kd (p:=(gi y6 c)=80) rfl h (λ hc h=> ?_) (λ hc h=> ?_))))))
      .refine sr (qm (.exact v4) rfl (qm (.xi c) rfl (gq (zbo rfl rfl rfl (qm (.row 1 zab a1) rfl (qm (.xi d) rfl ?_))))))
       obtain⟨n49,h⟩:=zad h
       refine gq (zai (by kernel_rfl) rfl rfl n49.1 n49.2 (gq (zak (a:= .xs (gi a1 d)) (by kernel_rfl) rfl rfl ?_)))
       obtain⟨n50,h⟩:=zad h
       refine G_r rfl (zbl (by kernel_rfl) rfl rfl n50.1 n50.2 (G_l rfl (zcm (i:=i64 (c+1)) (o:=0) (z:=gi a1 d) (c':=[.xs (gi a1 d)]) (by kernel_rfl) zbt rfl n50.1 n50.2 rfl CellsOf.str (lc lf ln) (OneC.str OneC.nil) (by kernel_rfl) (Nat.le_of_ble_eq_true rfl) rfl (gc (kr (qm (.xi d) rfl (gq (zbo rfl rfl rfl (qa (.xi (i64 (d+1))) rfl (zbc (zau (zaa ⟨_,_,h,so (l4 rfl rfl rfl rfl (lq rfl (lq rfl lt0)))⟩))))))))))))
      .refine zap (zau (zaa ⟨_,_,h,so (l4 rfl rfl rfl rfl (lq rfl (lq rfl lt0)))⟩))
     .refine kr (qm (.xi c) rfl (gq (zbo rfl rfl rfl (qa (.xi (i64 (c+1))) rfl (zbc (zaa ⟨_,_,_,h,so (l4 rfl rfl rfl rfl (lq rfl (lq rfl lt0)))⟩))))))
    .refine zbr (zbi (zbk (zbj (zaa ⟨_,h,s2 rfl rfl⟩))))
  .refine sr (qm (.xi y1) rfl (qm (.exact v4) rfl (G_sub rfl (SubU.freezeT2 (s1:=6) (s2:=66) rfl rfl zbt) ?_)))
   obtain⟨n51,h⟩:=zad h
   refine gq (op_slice_rowd (by kernel_rfl) rfl (zdn rfl) zdu (by decide) n51 (Int.le_refl _) ?_)
   obtain⟨y52,q,h⟩:=zae h
   refine gq (zal (zhv _ _ _ q) func31 (by kernel_rfl) (lc lf (lc lf ln)) (qa (.xs y52) rfl (gc (zbn ?_))))
   obtain rfl:=oi h
   refine ke (pt AF0 4 (.xs y52)) [] rfl (s1 rfl) ⟨rfl,rfl⟩
theorem m_ref21_builder_shape_F_ok {w0:Nat} {w2:Nat} {w2v0:Value} (d:(((List ((List UInt8)×Int×Bool×(Int×Int)×(List (Int×Int×Int))))×(List ((List UInt8)×Int×(List Int)×(List (List UInt8))))×(List (Int×Int×Int×Int×(Int×Int)))×(List (List UInt8)))×(List ((List UInt8)×(List UInt8)×(List Int)×Bool))×Int)->Int->(List (List UInt8))->Option ((List UInt8)×(List (List UInt8)))) (hself_ref21_builder_shape: ∀ ⦃w0:Nat⦄ ⦃w2:Nat⦄ ⦃w2v0:Value⦄ (a0:((List ((List UInt8)×Int×Bool×(Int×Int)×(List (Int×Int×Int))))×(List ((List UInt8)×Int×(List Int)×(List (List UInt8))))×(List (Int×Int×Int×Int×(Int×Int)))×(List (List UInt8)))×(List ((List UInt8)×(List UInt8)×(List Int)×Bool))×Int) (a1:Int) (a2:List (List UInt8)) (r:(List UInt8)×(List (List UInt8))),d a0 a1 a2=some r->Fun Tryz.prog 22 [(pA w0 0),(.exact (.int .i64 a1)),(pA w2 0)] [boxI 65 w0 [.row 6 zbu a0.1.1, .row 4 zbs a0.1.2.1, .row 6 zbh a0.1.2.2.1, .row 1 zab a0.1.2.2.2, .row 4 zas a0.2.1, .exact (.int .i64 a0.2.2)],boxI 36 w2 [.exact w2v0],vecT Tryz.prog 36 1 zab w2v0 a2] (λ a s=> ∃zw2v0,a= .exact (.string (bs r.1))/\s=[boxI 65 w0 [.row 6 zbu a0.1.1, .row 4 zbs a0.1.2.1, .row 6 zbh a0.1.2.2.1, .row 1 zab a0.1.2.2.2, .row 4 zas a0.2.1, .exact (.int .i64 a0.2.2)],boxI 36 w2 [.exact zw2v0],vecT Tryz.prog 36 1 zab zw2v0 r.2])) (a0:((List ((List UInt8)×Int×Bool×(Int×Int)×(List (Int×Int×Int))))×(List ((List UInt8)×Int×(List Int)×(List (List UInt8))))×(List (Int×Int×Int×Int×(Int×Int)))×(List (List UInt8)))×(List ((List UInt8)×(List UInt8)×(List Int)×Bool))×Int) (a1:Int) (a2:List (List UInt8)) (r:(List UInt8)×(List (List UInt8))) (h:m_ref21_builder_shape_F d a0 a1 a2=some r):Fun Tryz.prog 22 [(pA w0 0),(.exact (.int .i64 a1)),(pA w2 0)] [boxI 65 w0 [.row 6 zbu a0.1.1, .row 4 zbs a0.1.2.1, .row 6 zbh a0.1.2.2.1, .row 1 zab a0.1.2.2.2, .row 4 zas a0.2.1, .exact (.int .i64 a0.2.2)],boxI 36 w2 [.exact w2v0],vecT Tryz.prog 36 1 zab w2v0 a2] (λ a s=> ∃zw2v0,a= .exact (.string (bs r.1))/\s=[boxI 65 w0 [.row 6 zbu a0.1.1, .row 4 zbs a0.1.2.1, .row 6 zbh a0.1.2.2.1, .row 1 zab a0.1.2.2.2, .row 4 zas a0.2.1, .exact (.int .i64 a0.2.2)],boxI 36 w2 [.exact zw2v0],vecT Tryz.prog 36 1 zab zw2v0 r.2]):=by
 unfold m_ref21_builder_shape_F at h
 refine zam func22 rfl ntmps22 (by simp) rfl (res1 rfl) λ E hE=>zca (sr (qa (.xs ([]:List UInt8)) rfl (gd (qm (pA w0 0) rfl (gq (zes rfl (gq (zba (o:=4) (by kernel_rfl) rfl (G_r rfl (zaz (a:= .row 4 zas a0.2.1) (by kernel_rfl) rfl rfl (qm (.xi a1) rfl ?_)))))))))))
 obtain⟨n1,h⟩:=zad h
 refine gq (zai (by kernel_rfl) rfl rfl n1.1 n1.2 (gq (zbx (m:=4) (c':=zas (gi a0.2.1 a1)) (by kernel_rfl) rfl rfl rfl (G_l rfl (zel (c:=[.xs ((([],[],[],false):(List UInt8)×(List UInt8)×(List Int)×Bool).1), .xs ((([],[],[],false):(List UInt8)×(List UInt8)×(List Int)×Bool).2.1), .row 1 zav ((([],[],[],false):(List UInt8)×(List UInt8)×(List Int)×Bool).2.2.1), .xb ((([],[],[],false):(List UInt8)×(List UInt8)×(List Int)×Bool).2.2.2)]) rfl (lc lf (lc lf (lc (zcy (by decide)) (lc lf ln)))) (λ b2=>G_l rfl (zbz (c':=[.xs ((gi a0.2.1 a1).1), .xs ((gi a0.2.1 a1).2.1), .row 1 zav ((gi a0.2.1 a1).2.2.1), .xb ((gi a0.2.1 a1).2.2.2)]) (c3:=[.xs ((gi a0.2.1 a1).1), .xs ((gi a0.2.1 a1).2.1), .row 1 zav ((gi a0.2.1 a1).2.2.1), .xb ((gi a0.2.1 a1).2.2.2)]) rfl rfl CellsOf.agg (lc lf (lc lf (lc lf (lc lf ln)))) (oc_c_cspcheckref21_place _) (by kernel_rfl) (Nat.le_of_ble_eq_true rfl) rfl (gc (zan (sr (gq (zba (o:=3) (by kernel_rfl) rfl (G_r rfl (zaz (a:= .xb ((gi a0.2.1 a1).2.2.2)) (by kernel_rfl) rfl rfl (gq (zdh rfl (gc (kb (p:= !((gi a0.2.1 a1).2.2.2)) rfl h (λ hc h=> ?_) (λ hc h=> ?_)))))))))))))))))))
 .refine zan (zck [] [(0,0),(0,1),(0,2),(0,4),(1,3),(1,5),(0,6),(2,7),(0,8),(2,9)] hmixP (by kernel_rfl) (pq rfl (zah (av:=pA w2 0) rfl (pq rfl (zah (av:=pA w2 0) rfl (pq rfl (zes rfl (pq rfl (zba (o:=0) (by kernel_rfl) rfl (P_r rfl (opR_f2 (zaz (a:= .exact w2v0) (by kernel_rfl) rfl rfl (P_r rfl (zaz (a:= .xs ((gi a0.2.1 a1).1)) (by kernel_rfl) rfl rfl (pq rfl (zcd (n:=1) (enc:=zab) [(gi a0.2.1 a1).1] (CellsAll.cons rfl CellsOf.str CellsAll.nil) rfl (by kernel_rfl) (LEss.cons (lc lf ln) LEss.nil) ?_))))))))))))))))
  obtain⟨n3,h⟩:=zad h
  refine P_l rfl (opB_f3 (zcu (by kernel_rfl) rfl rfl zco n3 (λ v4=>pq rfl (zes rfl (P_l rfl (opB_sl (List.Mem.head _) (λ hsl=>(opB_f3 (zbz (c':=[.exact v4]) (c3:=[.exact v4]) rfl rfl (CellsOf.sl hsl) (lc lf ln) (OneC.sl hsl OneC.nil) (by kernel_rfl) (Nat.le_of_ble_eq_true rfl) rfl (zcn (zaf (sr (qm (pA w2 0) rfl (gq (zes rfl (G_r rfl (zaz (a:= .exact v4) (by kernel_rfl) rfl rfl (G_r rfl (opR_f1 (zcl (by kernel_rfl) rfl (gq (op_sub rfl rfl rfl ?_))))))))))))))))))))))
  obtain⟨y5,j,h⟩:=zae h
  refine gq (zal (m_ref21_Hole_ok _ _ j) func50 (by kernel_rfl) (lc lf ln) (qa (.xs y5) rfl (gc (zbn (zdb ?_)))))
  obtain rfl:=oi h
  refine ke (pt AF0 6 (.xs y5)) [boxI 65 w0 [.row 6 zbu a0.1.1, .row 4 zbs a0.1.2.1, .row 6 zbh a0.1.2.2.1, .row 1 zab a0.1.2.2.2, .row 4 zas a0.2.1, .xi a0.2.2],boxI 36 w2 [.exact v4],vecT Tryz.prog 36 1 zab v4 (a2++[(gi a0.2.1 a1).1])] rfl (Sub.trans (SubU.to SubU.f2) (Sub.trans (SubU.to SubU.drop) (Sub.trans (SubU.to SubU.f1) (Sub.trans (SubU.to SubU.f1) (Sub.trans (SubU.to SubU.f2) (s1 rfl)))))) ⟨v4,rfl,rfl⟩
 .refine zap (zaf (sr (qa (.exact (.slice none 0 0)) rfl (gc (k_join2_2 h (λ(e:List (List UInt8)) (f:List (List UInt8)) (v2_0_j6:Value) (v8_j6:Value)=>(pt (pt (pt (pt AF0 0 (pA w0 0)) 2 (pA w2 0)) 7 (pA b2 0)) 8 (.exact v8_j6))) (λ(e:List (List UInt8)) (f:List (List UInt8)) (v2_0_j6:Value) (v8_j6:Value)=>[boxI 65 w0 [.row 6 zbu a0.1.1, .row 4 zbs a0.1.2.1, .row 6 zbh a0.1.2.2.1, .row 1 zab a0.1.2.2.2, .row 4 zas a0.2.1, .xi a0.2.2],vecT Tryz.prog 36 1 zab v2_0_j6 e,boxI 36 w2 [.exact v2_0_j6],boxI 69 b2 [.xs ((gi a0.2.1 a1).1), .xs ((gi a0.2.1 a1).2.1), .row 1 zav ((gi a0.2.1 a1).2.2.1), .xb ((gi a0.2.1 a1).2.2.2)],vecT Tryz.prog 36 1 zab v8_j6 f]) (λ k6 h=> ?_) (λ e f v2_0_j6 v8_j6 h=> ?_))))))
  .refine sr (qa (.xi 0) rfl (gc (zaq (k_loop3_2 (zhx d a0 a1 k6) (zib d a0 a1 k6) (λ _ _ _=>rfl) (λ m _ _ _=>rfl) h (λ(g:List (List UInt8)) (i:List (List UInt8)) (b:Int) (v2_0_l2:Value) (v8_l2:Value)=>(pt (pt (pt (pt (pt AF0 0 (pA w0 0)) 2 (pA w2 0)) 7 (pA b2 0)) 8 (.exact v8_l2)) 9 (.xi b))) (λ(g:List (List UInt8)) (i:List (List UInt8)) (b:Int) (v2_0_l2:Value) (v8_l2:Value)=>[boxI 65 w0 [.row 6 zbu a0.1.1, .row 4 zbs a0.1.2.1, .row 6 zbh a0.1.2.2.1, .row 1 zab a0.1.2.2.2, .row 4 zas a0.2.1, .xi a0.2.2],vecT Tryz.prog 36 1 zab v2_0_l2 g,boxI 36 w2 [.exact v2_0_l2],boxI 69 b2 [.xs ((gi a0.2.1 a1).1), .xs ((gi a0.2.1 a1).2.1), .row 1 zav ((gi a0.2.1 a1).2.2.1), .xb ((gi a0.2.1 a1).2.2.2)],vecT Tryz.prog 36 1 zab v8_l2 i]) w2v0 (.slice none 0 0) ?_ (λ q g i b v2_0_l2 v8_l2 h=> ?_)))))
   .refine Sub.trans (SubU.to (SubU.nilT (P:=Tryz.prog) (t:=36) (n:=1) (enc:=zab))) (Sub.trans (SubU.to SubU.f1) (Sub.trans (SubU.to SubU.f3) (Sub.trans (SubU.to SubU.f4) (Sub.trans (SubU.to SubU.f4) (so (l4 rfl rfl rfl rfl (lq rfl lt0)))))))
   .unfold zib at h
    refine zan (sr (qm (.xi b) rfl (gq (zba (o:=2) (by kernel_rfl) rfl (G_r rfl (opR_f3 (zaz (a:= .row 1 zav ((gi a0.2.1 a1).2.2.1)) (by kernel_rfl) rfl rfl (gq (zao (by kernel_rfl) rfl (gq (zbm rfl rfl (gc (kd (p:=b<(List.length ((gi a0.2.1 a1).2.2.1):Int)) rfl h (λ hc h=> ?_) (λ hc h=> ?_))))))))))))))
    .refine zap (zaf (zan (zaq (kr (qm (.exact v8_l2) rfl (qm (pA w0 0) rfl (gq (zba (o:=2) (by kernel_rfl) rfl (G_r rfl (opR_f3 (zaz (a:= .row 1 zav ((gi a0.2.1 a1).2.2.1)) (by kernel_rfl) rfl rfl (qm (.xi b) rfl ?_))))))))))))
     obtain⟨n33,h⟩:=zad h
     refine gq (zai (by kernel_rfl) rfl rfl n33.1 n33.2 (gq (zak (a:= .xi (gi ((gi a0.2.1 a1).2.2.1) b)) (by kernel_rfl) rfl rfl (qm (pA w2 0) rfl ?_))))
     obtain⟨y34,k,h⟩:=zae h
     refine G_l rfl (opB_f1 (opB_f2 (opB_f2 (op_fun_3_1_3 (hself_ref21_builder_shape _ _ _ _ k) func22 (by kernel_rfl) (lc lf (lc lf (lc lf ln))) (λ q35v0=>gq (zcd (n:=1) (enc:=zab) [y34.1] (CellsAll.cons rfl CellsOf.str CellsAll.nil) rfl (by kernel_rfl) (LEss.cons (lc lf ln) LEss.nil) ?_))))))
     obtain⟨n36,h⟩:=zad h
     refine G_l rfl (opB_f4 (zcu (by kernel_rfl) rfl rfl zco n36 (λ v37=>qa (.exact v37) rfl (zbc (zau (zaf (kr (qm (.xi b) rfl (gq (zbo rfl rfl rfl (qa (.xi (i64 (b+1))) rfl (zbc (zaa ⟨_,_,_,q35v0,v37,h, ?_⟩)))))))))))))
     refine Sub.trans (SubU.to SubU.f4) (Sub.trans (SubU.to SubU.f3) (Sub.trans (SubU.to SubU.f4) (Sub.trans (SubU.to SubU.f4) (so (l4 rfl rfl rfl rfl (lq rfl lt0))))))
    .refine zbr (zbi (zbk (zbj (zaa ⟨_,_,v2_0_l2,v8_l2,h,s4 rfl rfl rfl rfl⟩))))
  .refine sr (gq (zba (o:=1) (by kernel_rfl) rfl (G_r rfl (opR_f3 (zaz (a:= .xs ((gi a0.2.1 a1).2.1)) (by kernel_rfl) rfl rfl (qm (.exact v8_j6) rfl (G_sub rfl (SubU.trans SubU.f4 (SubU.freezeT2 (s1:=8) (s2:=55) rfl rfl zbt)) ?_)))))))
   obtain⟨y38,l,h⟩:=zae h
   refine gq (zal (m_ref16_With_ok _ _ _ l) func51 (by kernel_rfl) (lc lf (lc lf ln)) (qa (.xs y38) rfl (gc (zbn ?_))))
   obtain rfl:=oi h
   refine ke (pt AF0 6 (.xs y38)) [boxI 65 w0 [.row 6 zbu a0.1.1, .row 4 zbs a0.1.2.1, .row 6 zbh a0.1.2.2.1, .row 1 zab a0.1.2.2.2, .row 4 zas a0.2.1, .xi a0.2.2],boxI 36 w2 [.exact v2_0_j6],vecT Tryz.prog 36 1 zab v2_0_j6 e] rfl (Sub.trans (SubU.to SubU.f3) (Sub.trans (SubU.to SubU.drop) (Sub.trans (SubU.to SubU.f1) (Sub.trans (SubU.to SubU.f2) (Sub.trans (SubU.to SubU.f2) (s1 rfl)))))) ⟨v2_0_j6,rfl,rfl⟩
theorem m_ref21_builder_shape_S_ok: ∀n:Nat,(∀ ⦃w0:Nat⦄ ⦃w2:Nat⦄ ⦃w2v0:Value⦄ (a0:((List ((List UInt8)×Int×Bool×(Int×Int)×(List (Int×Int×Int))))×(List ((List UInt8)×Int×(List Int)×(List (List UInt8))))×(List (Int×Int×Int×Int×(Int×Int)))×(List (List UInt8)))×(List ((List UInt8)×(List UInt8)×(List Int)×Bool))×Int) (a1:Int) (a2:List (List UInt8)) (r:(List UInt8)×(List (List UInt8))),zgj n a0 a1 a2=some r->Fun Tryz.prog 22 [(pA w0 0),(.exact (.int .i64 a1)),(pA w2 0)] [boxI 65 w0 [.row 6 zbu a0.1.1, .row 4 zbs a0.1.2.1, .row 6 zbh a0.1.2.2.1, .row 1 zab a0.1.2.2.2, .row 4 zas a0.2.1, .exact (.int .i64 a0.2.2)],boxI 36 w2 [.exact w2v0],vecT Tryz.prog 36 1 zab w2v0 a2] (λ a s=> ∃zw2v0,a= .exact (.string (bs r.1))/\s=[boxI 65 w0 [.row 6 zbu a0.1.1, .row 4 zbs a0.1.2.1, .row 6 zbh a0.1.2.2.1, .row 1 zab a0.1.2.2.2, .row 4 zas a0.2.1, .exact (.int .i64 a0.2.2)],boxI 36 w2 [.exact zw2v0],vecT Tryz.prog 36 1 zab zw2v0 r.2]))
  |0=>(λ _ _ _ _ _ _ _ h=>by have h':(none:Option _)=some _:=h;cases h')
  |n+1=>by
    have ih:=m_ref21_builder_shape_S_ok n
    exact λ w0 w2 w2v0 a0 a1 a2 r h=>m_ref21_builder_shape_F_ok (zgj n) ih a0 a1 a2 r h
theorem m_ref21_builder_shape_ok {w0:Nat} {w2:Nat} {w2v0:Value} (a0:((List ((List UInt8)×Int×Bool×(Int×Int)×(List (Int×Int×Int))))×(List ((List UInt8)×Int×(List Int)×(List (List UInt8))))×(List (Int×Int×Int×Int×(Int×Int)))×(List (List UInt8)))×(List ((List UInt8)×(List UInt8)×(List Int)×Bool))×Int) (a1:Int) (a2:List (List UInt8)) (r:(List UInt8)×(List (List UInt8))) (h:m_ref21_builder_shape a0 a1 a2=some r):Fun Tryz.prog 22 [(pA w0 0),(.exact (.int .i64 a1)),(pA w2 0)] [boxI 65 w0 [.row 6 zbu a0.1.1, .row 4 zbs a0.1.2.1, .row 6 zbh a0.1.2.2.1, .row 1 zab a0.1.2.2.2, .row 4 zas a0.2.1, .exact (.int .i64 a0.2.2)],boxI 36 w2 [.exact w2v0],vecT Tryz.prog 36 1 zab w2v0 a2] (λ a s=> ∃zw2v0,a= .exact (.string (bs r.1))/\s=[boxI 65 w0 [.row 6 zbu a0.1.1, .row 4 zbs a0.1.2.1, .row 6 zbh a0.1.2.2.1, .row 1 zab a0.1.2.2.2, .row 4 zas a0.2.1, .exact (.int .i64 a0.2.2)],boxI 36 w2 [.exact zw2v0],vecT Tryz.prog 36 1 zab zw2v0 r.2]):=(m_ref21_builder_shape_S_ok FU) a0 a1 a2 r h
theorem m_ref18_need_ok (a0:Int) (r:Int) (h:m_ref18_need a0=some r):Pure Tryz.prog 146 [(.exact (.int .i64 a0))] (.exact (.int .i64 r)):=by
 unfold m_ref18_need at h
 refine Pure.ofFun (zam func146 rfl ntmps146 (by simp) rfl (res1 rfl) λ E hE=>zca (sr (qa (.xi 0) rfl (gc (zan (sr (qm (.xi a0) rfl (gc (zaq (zax h (λ(a:Bool)=>(pt (pt AF0 3 (.xi a0)) 4 (.xb a))) (λ(a:Bool)=>[]) (λ k4 h=> ?_) (λ a h=> ?_)))))))))))
 .refine sr (gq (zbf rfl rfl (qa (.xb (decide (a0=9))) rfl (gc (kd (p:=a0=9) rfl h (λ hc h=> ?_) (λ hc h=> ?_))))))
  .refine zap (zaa ⟨_,h,s2 rfl rfl⟩)
  .refine sr (gq (zbf rfl rfl (qa (.xb (decide (a0=11))) rfl (gc (kd (p:=a0=11) rfl h (λ hc h=> ?_) (λ hc h=> ?_))))))
   .refine zap (zaa ⟨_,h,s2 rfl rfl⟩)
   .refine sr (gq (zbf rfl rfl (qa (.xb (decide (a0=12))) rfl (gc (kd (p:=a0=12) rfl h (λ hc h=> ?_) (λ hc h=> ?_))))))
    .refine zap (zaa ⟨_,h,s2 rfl rfl⟩)
    .refine sr (gq (zbf rfl rfl (qa (.xb (decide (a0=14))) rfl (gc (kd (p:=a0=14) rfl h (λ hc h=> ?_) (λ hc h=> ?_))))))
     .refine zap (zaa ⟨_,h,s2 rfl rfl⟩)
     .refine sr (gq (zbf rfl rfl (qa (.xb (decide (a0=15))) rfl (gc (kd (p:=a0=15) rfl h (λ hc h=> ?_) (λ hc h=> ?_))))))
      .refine zap (zaa ⟨_,h,s2 rfl rfl⟩)
      .refine sr (gq (zbf rfl rfl (qa (.xb (decide (a0=18))) rfl (gc (kd (p:=a0=18) rfl h (λ hc h=> ?_) (λ hc h=> ?_))))))
       .refine zap (zaa ⟨_,h,s2 rfl rfl⟩)
       .refine kr (gq (zbf rfl rfl (qa (.xb (decide (a0=19))) rfl (zbc (zaa ⟨_,h,s2 rfl rfl⟩)))))
 .refine kb (p:=a) rfl h (λ hc h=> ?_) (λ hc h=> ?_)
  .refine zan ?_
   cases h
  .refine zax h (λ(b:Bool)=>(pt AF0 12 (.xb b))) (λ(b:Bool)=>[]) (λ k5 h=> ?_) (λ b h=> ?_)
   .refine sr (gq (zbf rfl rfl (qa (.xb (decide (a0=7))) rfl (gc (kd (p:=a0=7) rfl h (λ hc h=> ?_) (λ hc h=> ?_))))))
    .refine zap (zaa ⟨_,h,s1 rfl⟩)
    .refine sr (gq (zbf rfl rfl (qa (.xb (decide (a0=10))) rfl (gc (kd (p:=a0=10) rfl h (λ hc h=> ?_) (λ hc h=> ?_))))))
     .refine zap (zaa ⟨_,h,s1 rfl⟩)
     .refine sr (gq (zbf rfl rfl (qa (.xb (decide (a0=13))) rfl (gc (kd (p:=a0=13) rfl h (λ hc h=> ?_) (λ hc h=> ?_))))))
      .refine zap (zaa ⟨_,h,s1 rfl⟩)
      .refine sr (gq (zbf rfl rfl (qa (.xb (decide (a0=16))) rfl (gc (kd (p:=a0=16) rfl h (λ hc h=> ?_) (λ hc h=> ?_))))))
       .refine zap (zaa ⟨_,h,s1 rfl⟩)
       .refine sr (gq (zbf rfl rfl (qa (.xb (decide (a0=17))) rfl (gc (kd (p:=a0=17) rfl h (λ hc h=> ?_) (λ hc h=> ?_))))))
        .refine zap (zaa ⟨_,h,s1 rfl⟩)
        .refine kr (gq (zbf rfl rfl (qa (.xb (decide (a0=20))) rfl (zbc (zaa ⟨_,h,s1 rfl⟩)))))
   .refine kb (p:=b) rfl h (λ hc h=> ?_) (λ hc h=> ?_)
    .refine zan ?_
     cases h
    .refine zap (zau (zaf (sr (qa (.xi 0) rfl (gc (zbn ?_))))))
     obtain rfl:=oi h
     refine ke (pt AF0 2 (.xi 0)) [] rfl (s1 rfl) ⟨rfl,rfl⟩
theorem m_ref16_Omega_ok  (r:(List UInt8)) (h:m_ref16_Omega=some r):Pure Tryz.prog 99 [] (.exact (.string (bs r))):=by
 unfold m_ref16_Omega at h
 refine Pure.ofFun (zam func99 rfl ntmps99 (by simp) rfl (res1 rfl) λ E hE=>zca (sr (qa (.xs ([]:List UInt8)) rfl (gd ?_))))
 obtain⟨y1,a,h⟩:=zae h
 refine gq (zal (zhv _ _ _ a) func31 (by kernel_rfl) (lc lf (lc (zcy (by decide)) ln)) (qa (.xs y1) rfl (gc (zbn ?_))))
 obtain rfl:=oi h
 refine ke (pt AF0 0 (.xs y1)) [] rfl (s1 rfl) ⟨rfl,rfl⟩
theorem m_ref16_Offers_ok (a0:List UInt8) (r:(List (Int×(List UInt8)))) (h:m_ref16_Offers a0=some r):Pure Tryz.prog 94 [(.exact (.string (bs a0)))] (.row 2 zbg r):=by
 unfold m_ref16_Offers at h
 refine Pure.ofFun (zam func94 rfl ntmps94 (by simp) rfl (res1 rfl) λ E hE=>zca (sr (qa (.exact (.slice none 0 0)) rfl (gc (zan (sr (qm (.xs a0) rfl ?_)))))))
 obtain⟨y1,e,h⟩:=zae h
 refine gq (zal (zdm _ _ e) func45 (by kernel_rfl) (lc lf ln) (gq (zfr rfl rfl (gc (kd (p:= ¬y1=6) rfl h (λ hc h=> ?_) (λ hc h=> ?_))))))
 .refine zan ?_
  cases h
 .refine zap (zaf (sr (qa (.exact (.slice none 0 0)) rfl (gd (qm (.xs a0) rfl ?_)))))
  obtain⟨y2,f,h⟩:=zae h
  refine gq (zal (zeg _ _ f) func42 (by kernel_rfl) (lc lf ln) (qa (.row 1 zab y2) rfl (gc (zcb h (λ(c:List (Int×(List UInt8))) (v3_j3:Value)=>(pt AF0 3 (.exact v3_j3))) (λ(c:List (Int×(List UInt8))) (v3_j3:Value)=>[vecT Tryz.prog 109 2 zbg v3_j3 c]) (λ k3 h=> ?_) (λ c v3_j3 h=> ?_)))))
  .refine sr (qa (.xi 1) rfl (gc (zaq (zcz (m_ref16_Offers_L2 y2 k3) (m_ref16_Offers_B2 y2 k3) (λ _ _=>rfl) (λ m _ _=>rfl) h (λ(d:List (Int×(List UInt8))) (b:Int) (v3_l2:Value)=>(pt (pt (pt AF0 3 (.exact v3_l2)) 4 (.row 1 zab y2)) 5 (.xi b))) (λ(d:List (Int×(List UInt8))) (b:Int) (v3_l2:Value)=>[vecT Tryz.prog 109 2 zbg v3_l2 d]) (.slice none 0 0) ?_ (λ i d b v3_l2 h=> ?_)))))
   .refine Sub.trans (SubU.to (SubU.nilT (P:=Tryz.prog) (t:=109) (n:=2) (enc:=zbg))) (s3 rfl rfl rfl)
   .unfold m_ref16_Offers_B2 at h
    refine zan (sr (qm (.xi b) rfl (qm (.row 1 zab y2) rfl (gq (zao (by kernel_rfl) rfl (gq (zbm rfl rfl (gc (kd (p:=b<(List.length y2:Int)) rfl h (λ hc h=> ?_) (λ hc h=> ?_))))))))))
    .refine zap (zaf (zan (zaq (zck [] [(0,0),(0,1),(0,2),(0,3),(0,4),(0,5),(0,6),(0,7),(0,8),(0,9),(0,10),(0,11),(0,12),(2,13),(0,14)] hmixP (by kernel_rfl) (pq rfl (zah (av:= .exact v3_l2) rfl (pq rfl (zah (av:= .row 1 zab y2) rfl (pq rfl (zah (av:= .xi b) rfl ?_))))))))))
     obtain⟨n30,h⟩:=zad h
     refine pq rfl (zai (by kernel_rfl) rfl rfl n30.1 n30.2 (pq rfl (zak (a:= .xs (gi y2 b)) (by kernel_rfl) rfl rfl ?_)))
     obtain⟨y31,g,h⟩:=zae h
     refine pq rfl (zal (zdo _ _ g) func44 (by kernel_rfl) (lc lf ln) (pq rfl (zah (av:= .row 1 zab y2) rfl (pq rfl (zah (av:= .xi b) rfl (pq rfl (zbo rfl rfl rfl ?_)))))))
     obtain⟨n32,h⟩:=zad h
     refine pq rfl (zai (by kernel_rfl) rfl rfl n32.1 n32.2 (pq rfl (zak (a:= .xs (gi y2 (i64 (b+1)))) (by kernel_rfl) rfl rfl (pq rfl (zft (c':=zbg (y31,gi y2 (i64 (b+1)))) (CellsAll.cons rfl CellsOf.int (CellsAll.cons rfl CellsOf.str CellsAll.nil)) rfl (lc lf (lc lf ln)) (pq rfl (zcd (n:=2) (enc:=zbg) [(y31,gi y2 (i64 (b+1)))] (CellsAll.cons rfl CellsOf.agg CellsAll.nil) rfl (by kernel_rfl) (LEss.cons (lc lf (lc lf ln)) LEss.nil) ?_)))))))
     obtain⟨n33,h⟩:=zad h
     refine P_l rfl (zcu (by kernel_rfl) rfl rfl oc_c_api_Offer n33 (λ v34=>pq rfl (zcj (av:= .exact v34) rfl (zcn (zau (zaf (kr (qm (.xi b) rfl (gq (zbo rfl rfl rfl (qa (.xi (i64 (b+2))) rfl (zbc (zaa ⟨_,_,v34,h,s3 rfl rfl rfl⟩)))))))))))))
    .refine zbr (zbi (zbk (zbj (zaa ⟨_,v3_l2,h,s1 rfl⟩))))
  .refine sr (qm (.exact v3_j3) rfl (qa (.exact v3_j3) rfl (gc (zbn ?_))))
   obtain rfl:=oi h
   refine ke (pt AF0 2 (.row 2 zbg c)) [] rfl (Sub.trans (SubU.to (SubU.freezeT (s:=2) rfl zez)) (s1 rfl)) ⟨rfl,rfl⟩
theorem m_ref18_left_ok (a0:List UInt8) (a1:List UInt8) (r:(List UInt8)) (h:m_ref18_left a0 a1=some r):Pure Tryz.prog 192 [(.exact (.string (bs a0))),(.exact (.string (bs a1)))] (.exact (.string (bs r))):=by
 unfold m_ref18_left at h
 refine Pure.ofFun (zam func192 rfl ntmps192 (by simp) rfl (res1 rfl) λ E hE=>zca (sr (qa (.xs ([]:List UInt8)) rfl (gd (qm (.xs a0) rfl ?_)))))
 obtain⟨y1,a,h⟩:=zae h
 refine G_l rfl (op_fun_0_1_1 (m_ref16_Operands_ok _ _ a) func49 (by kernel_rfl) (lc lf ln) (λ v2=>qa (.exact v2) rfl (gd (qm (.exact v2) rfl (qm (.xs a1) rfl ?_)))))
 obtain⟨n3,h⟩:=zad h
 refine G_r rfl (zbl (by kernel_rfl) rfl rfl n3.1 n3.2 (G_l rfl (zcm (i:=0) (o:=0) (z:=a1) (c':=[.xs a1]) (by kernel_rfl) zbt rfl n3.1 n3.2 rfl CellsOf.str (lc lf ln) (OneC.str OneC.nil) (by kernel_rfl) (Nat.le_of_ble_eq_true rfl) rfl (gd (qm (.xs a0) rfl (qm (.exact v2) rfl (G_sub rfl (SubU.freezeT3 (s1:=7) (s2:=8) (s3:=12) rfl rfl rfl zbt) ?_)))))))
 obtain⟨y4,b,h⟩:=zae h
 refine gq (zal (m_ref16_With_ok _ _ _ b) func51 (by kernel_rfl) (lc lf (lc lf ln)) (qa (.xs y4) rfl (gc (zbn ?_))))
 obtain rfl:=oi h
 refine ke (pt AF0 4 (.xs y4)) [] rfl (s1 rfl) ⟨rfl,rfl⟩
theorem m_ref16_Sets_ok (a0:List UInt8) (r:(List Int)×(List Int)) (h:m_ref16_Sets a0=some r):Pure Tryz.prog 191 [(.exact (.string (bs a0)))] (.tup [.row 1 zav r.1, .row 1 zav r.2]):=by
 unfold m_ref16_Sets at h
 refine Pure.ofFun (zam func191 rfl ntmps191 (by simp) rfl (res2 rfl) λ E hE=>zca (sr (qa (.exact (.slice none 0 0)) rfl (qa (.exact (.slice none 0 0)) rfl (gd (qm (.xs a0) rfl ?_))))))
 obtain⟨y1,q,h⟩:=zae h
 refine gq (zal (zeg _ _ q) func42 (by kernel_rfl) (lc lf ln) (qa (.row 1 zab y1) rfl (gd (qm (.xs a0) rfl ?_))))
 obtain⟨y2,s,h⟩:=zae h
 refine gq (zal (zdm _ _ s) func45 (by kernel_rfl) (lc lf ln) ?_)
 obtain⟨y3,t,h⟩:=zae h
 refine gq (zal (zgq _ _ t) func30 (by kernel_rfl) (lc lf ln) (qa (.xs y3) rfl (gd (G_l rfl (zel (c:=[.row 1 zav ((([],[]):(List Int)×(List Int)).1), .row 1 zav ((([],[]):(List Int)×(List Int)).2)]) rfl (lc (zcy (by decide)) (lc (zcy (by decide)) ln)) (λ b4=>gd (qa (.xi 0) rfl (gc (k_join2_0 h (λ(f:List Int) (g:List Int)=>(pt AF0 6 (pA b4 0))) (λ(f:List Int) (g:List Int)=>[boxI 301 b4 [.row 1 zav f, .row 1 zav g]]) (λ k5 h=> ?_) (λ f g h=> ?_))))))))))
 .refine sr (qa (.xi 0) rfl (gc (zaq (k_loop4_0 (m_ref16_Sets_L2 y1 y3 k5) (m_ref16_Sets_B2 y1 y3 k5) (λ _ _ _ _=>rfl) (λ m _ _ _ _=>rfl) h (λ(i:List Int) (j:List Int) (e:Int) (d:Int)=>(pt (pt (pt (pt (pt AF0 4 (.row 1 zab y1)) 5 (.xs y3)) 6 (pA b4 0)) 7 (.xi e)) 8 (.xi d))) (λ(i:List Int) (j:List Int) (e:Int) (d:Int)=>[boxI 301 b4 [.row 1 zav i, .row 1 zav j]]) ?_ (λ v i j e d h=> ?_)))))
  .exact so (l4 rfl rfl rfl rfl (lq rfl lt0))
  .unfold m_ref16_Sets_B2 at h
   refine zan (sr (qm (.xi d) rfl (qm (.xs y3) rfl (gq (op_lenS (by kernel_rfl) rfl (gq (zbm rfl rfl (gc (kd (p:=d<(List.length y3:Int)) rfl h (λ hc h=> ?_) (λ hc h=> ?_))))))))))
   .refine zap (zaf (k_join3_0 h (λ(k:List Int) (l:List Int) (o:Int)=>(pt (pt (pt (pt (pt AF0 4 (.row 1 zab y1)) 5 (.xs y3)) 6 (pA b4 0)) 7 (.xi o)) 8 (.xi d))) (λ(k:List Int) (l:List Int) (o:Int)=>[boxI 301 b4 [.row 1 zav k, .row 1 zav l]]) (λ k66 h=> ?_) (λ k l o h=> ?_)))
    .refine zaq (sr (qm (.xs y3) rfl (qm (.xi d) rfl ?_)))
     obtain⟨n71,h⟩:=zad h
     refine gq (zct (by kernel_rfl) rfl rfl n71.1 n71.2 (gq (zgr (a:=(gi y3 d)) (b:=83) rfl rfl (gc (kd (p:=(gi y3 d)=83) rfl h (λ hc h=> ?_) (λ hc h=> ?_))))))
     .refine sr (qm (.xi e) rfl (qm (.row 1 zab y1) rfl (qm (.xi d) rfl (gq (zbo rfl rfl rfl ?_)))))
      obtain⟨n72,h⟩:=zad h
      refine gq (zai (by kernel_rfl) rfl rfl n72.1 n72.2 (gq (zak (a:= .xs (gi y1 (i64 (d+1)))) (by kernel_rfl) rfl rfl ?_)))
      obtain⟨y73,u,h⟩:=zae h
      refine gq (zal (m_ref16_events_ok _ _ u) func86 (by kernel_rfl) (lc lf ln) (qm (.tup [.row 1 zav y73.1, .xb y73.2]) rfl (gq (zbq (av:= .row 1 zav y73.1) rfl rfl (gq (zbq (av:= .xb y73.2) rfl rfl ?_))))))
      obtain⟨n74,h⟩:=zad h
      refine gq (op_indexArr (m:=2) (n:=1) (by kernel_rfl) rfl rfl n74.1 n74.2 (G_l rfl (zbz (c':=[.row 1 zav y73.1]) (c3:=[.row 1 zav (if e=0 then y73.1 else i), .row 1 zav (if e=0 then j else y73.1)]) rfl rfl CellsOf.row (lc lf ln) (OneC.row OneC.nil) (by kernel_rfl) (set2_le n74.1 n74.2) (set2r n74.1 n74.2) (gc (kr (qm (.xi e) rfl (gq (zbo rfl rfl rfl (qa (.xi (i64 (e+1))) rfl (zbc (zau (zaa ⟨_,_,_,h,so (l4 rfl rfl rfl rfl (lq rfl lt0))⟩))))))))))))
     .refine zap (zau (zaa ⟨_,_,_,h,so (l4 rfl rfl rfl rfl (lq rfl lt0))⟩))
    .refine kr (qm (.xi d) rfl (gq (zbo rfl rfl rfl (qa (.xi (i64 (d+1))) rfl (zbc (zaa ⟨_,_,_,_,h,so (l4 rfl rfl rfl rfl (lq rfl lt0))⟩))))))
   .refine zbr (zbi (zbk (zbj (zaa ⟨_,_,h,s1 rfl⟩))))
 .refine zan (zck [] [(0,0),(0,2),(1,1),(0,4),(1,3),(0,5)] hmixP (by kernel_rfl) (pq rfl (op_indexArr (m:=2) (n:=1) (by kernel_rfl) rfl rfl (by decide) (by decide) (pq rfl (op_indexArr (m:=2) (n:=1) (by kernel_rfl) rfl rfl (by decide) (by decide) (P_r rfl (zaz (a:= .row 1 zav f) (by kernel_rfl) rfl rfl (pq rfl (zcj (av:= .row 1 zav f) rfl (P_r rfl (zaz (a:= .row 1 zav g) (by kernel_rfl) rfl rfl (pq rfl (zcj (av:= .row 1 zav g) rfl (zcn (zaf (zbn ?_))))))))))))))))
  obtain rfl:=oi h
  refine ke (pt (pt AF0 2 (.row 1 zav f)) 3 (.row 1 zav g)) [] rfl (Sub.trans (SubU.to SubU.drop) (s2 rfl rfl)) ⟨rfl,rfl⟩
end
noncomputable section
open Go.RowKit
attribute [local irreducible] AV.exact AV.top AV.row AV.ptr AV.agg AV.tup AV.eptr AV.fn AV.nilq AV.nilqn opA opB opM opR Quiet Loud Reads wpG awp den Sub SubU Pure Fun vecI vecT boxI CellsAll CellsOf OneC LEs LEss
set_option maxRecDepth 100000
set_option maxHeartbeats 4000000
theorem m_ref16_Has_ok (a0:List Int) (a1:Int) (r:Bool) (h:m_ref16_Has a0 a1=some r):Pure Tryz.prog 193 [(.row 1 zav a0),(.exact (.int .i64 a1))] (.exact (.bool r)):=by
 unfold m_ref16_Has at h
 refine Pure.ofFun (zam func193 rfl ntmps193 (by simp) rfl (res1 rfl) λ E hE=>zca (sr (qa (.xb false) rfl (gc (zbw h (AF0) ([]) (λ k1 h=> ?_) (λ  h=> ?_))))))
 .refine sr (qa (.xi 0) rfl (gc (zaq (zcr (m_ref16_Has_L2 a0 a1 k1) (m_ref16_Has_B2 a0 a1 k1) (λ _=>rfl) (λ m _=>rfl) h (λ(b:Int)=>(pt (pt (pt AF0 0 (.row 1 zav a0)) 1 (.xi a1)) 5 (.xi b))) (λ(b:Int)=>[]) ?_ (λ c b h=> ?_)))))
  .exact s3 rfl rfl rfl
  .unfold m_ref16_Has_B2 at h
   refine zan (sr (qm (.xi b) rfl (qm (.row 1 zav a0) rfl (gq (zao (by kernel_rfl) rfl (gq (zbm rfl rfl (gc (kd (p:=b<(List.length a0:Int)) rfl h (λ hc h=> ?_) (λ hc h=> ?_))))))))))
   .refine zap (zaf (zan (zaq (sr (qm (.row 1 zav a0) rfl (qm (.xi b) rfl ?_))))))
    obtain⟨n8,h⟩:=zad h
    refine gq (zai (by kernel_rfl) rfl rfl n8.1 n8.2 (gq (zak (a:= .xi (gi a0 b)) (by kernel_rfl) rfl rfl (qm (.xi a1) rfl (gq (zbf rfl rfl (gc (kd (p:=(gi a0 b)=a1) rfl h (λ hc h=> ?_) (λ hc h=> ?_)))))))))
    .refine sr (qa (.xb true) rfl (gc (zbn (zde (zdb (zek (zde (zek ?_))))))))
     obtain rfl:=oi h
     refine ke (pt AF0 4 (.xb true)) [] rfl (s1 rfl) ⟨rfl,rfl⟩
    .refine zap (zau (zaf (kr (qm (.xi b) rfl (gq (zbo rfl rfl rfl (qa (.xi (i64 (b+1))) rfl (zbc (zaa ⟨_,h,s3 rfl rfl rfl⟩)))))))))
   .refine zbr (zbi (zbk (zbj (zaa ⟨h,Sub.of_le lt0⟩))))
 .refine sr (qa (.xb false) rfl (gc (zbn ?_)))
  obtain rfl:=oi h
  refine ke (pt AF0 4 (.xb false)) [] rfl (s1 rfl) ⟨rfl,rfl⟩
theorem m_ref18_alone_ok (a0:List UInt8) (a1:Int) (a2:Bool) (r:Bool) (h:m_ref18_alone a0 a1 a2=some r):Pure Tryz.prog 195 [(.exact (.string (bs a0))),(.exact (.int .i64 a1)),(.exact (.bool a2))] (.exact (.bool r)):=by
 unfold m_ref18_alone at h
 refine Pure.ofFun (zam func195 rfl ntmps195 (by simp) rfl (res1 rfl) λ E hE=>zca (sr (qa (.xb false) rfl (gd (qm (.xs a0) rfl ?_)))))
 obtain⟨y1,a,h⟩:=zae h
 refine gq (zal (m_ref16_Sets_ok _ _ a) func191 (by kernel_rfl) (lc lf ln) (qm (.tup [.row 1 zav y1.1, .row 1 zav y1.2]) rfl (gq (zbq (av:= .row 1 zav y1.1) rfl rfl (gq (zbq (av:= .row 1 zav y1.2) rfl rfl (qa (.row 1 zav y1.1) rfl (qa (.row 1 zav y1.2) rfl (gc (zan (sr (qm (.xs a0) rfl ?_))))))))))))
 obtain⟨y2,b,h⟩:=zae h
 refine gq (zal (zdm _ _ b) func45 (by kernel_rfl) (lc lf ln) (gc (zaq (sr (gq (zbf rfl rfl (qa (.xb (decide (y2=16))) rfl (gc (kd (p:=y2=16) rfl h (λ hc h=> ?_) (λ hc h=> ?_))))))))))
 .refine sr (qm (.row 1 zav y1.1) rfl (qm (.xi a1) rfl ?_))
  obtain⟨y3,c,h⟩:=zae h
  refine gq (zal (m_ref16_Has_ok _ _ _ c) func193 (by kernel_rfl) (lc lf (lc lf ln)) (gq (zdh rfl (qa (.xb (!y3)) rfl (gc (zbn (zde (zdb ?_))))))))
  obtain rfl:=oi h
  refine ke (pt AF0 6 (.xb (!y3))) [] rfl (s1 rfl) ⟨rfl,rfl⟩
 .refine sr (gq (zbf rfl rfl (qa (.xb (decide (y2=17))) rfl (gc (kd (p:=y2=17) rfl h (λ hc h=> ?_) (λ hc h=> ?_))))))
  .refine zan (zan ?_)
   cases h
  .refine zap (zau (zaf (zan ?_)))
   cases h
theorem m_ref18_joint_ok (a0:List UInt8) (a1:Int) (a2:Int) (r:Int) (h:m_ref18_joint a0 a1 a2=some r):Pure Tryz.prog 196 [(.exact (.string (bs a0))),(.exact (.int .i64 a1)),(.exact (.int .i64 a2))] (.exact (.int .i64 r)):=by
 unfold m_ref18_joint at h
 refine Pure.ofFun (zam func196 rfl ntmps196 (by simp) rfl (res1 rfl) λ E hE=>zca (sr (qa (.xi 0) rfl (gd (qm (.xs a0) rfl ?_)))))
 obtain⟨y1,b,h⟩:=zae h
 refine gq (zal (m_ref16_Sets_ok _ _ b) func191 (by kernel_rfl) (lc lf ln) (qm (.tup [.row 1 zav y1.1, .row 1 zav y1.2]) rfl (gq (zbq (av:= .row 1 zav y1.1) rfl rfl (gq (zbq (av:= .row 1 zav y1.2) rfl rfl (qa (.row 1 zav y1.1) rfl (qa (.row 1 zav y1.2) rfl (gc (zbw h (AF0) ([]) (λ k2 h=> ?_) (λ  h=> ?_)))))))))))
 .refine sr (qm (.xs a0) rfl ?_)
  obtain⟨y8,c,h⟩:=zae h
  refine gq (zal (zdm _ _ c) func45 (by kernel_rfl) (lc lf ln) (gc (zaq (sr (gq (zbf rfl rfl (qa (.xb (decide (y8=16))) rfl (gc (kd (p:=y8=16) rfl h (λ hc h=> ?_) (λ hc h=> ?_))))))))))
  .refine zax h (λ(a:Bool)=>(pt (pt AF0 1 (.xi a1)) 51 (.xb a))) (λ(a:Bool)=>[]) (λ k9 h=> ?_) (λ a h=> ?_)
   .refine kr (qm (.xi a1) rfl (qm (.xi a2) rfl (gq (zbf rfl rfl (qm (.xb (decide (a1=a2))) rfl (zcc (p:=a1=a2) 47 rfl (λ hc=> ?_) (λ hc=> ?_)))))))
    .replace h:=zcg h hc
     refine gy (zah (av:= .row 1 zav y1.1) rfl (gy (zah (av:= .xi a1) rfl ?_)))
     obtain⟨y11,d,h⟩:=zae h
     refine gy (zal (m_ref16_Has_ok _ _ _ d) func193 (by kernel_rfl) (lc lf (lc lf ln)) (gq (zat rfl (av:= .xb y11) rfl (zbc (zaa ⟨_,h,s2 rfl rfl⟩)))))
    .replace h:=zcf h hc
     refine gn (gn (gn (gq (zar rfl (av:= .xb false) rfl (zbc (zaa ⟨_,h,s2 rfl rfl⟩))))))
   .refine kb (p:=a) rfl h (λ hc h=> ?_) (λ hc h=> ?_)
    .refine sr (qm (.xi a1) rfl (qa (.xi a1) rfl (gc (zbn (zde (zek ?_))))))
     obtain rfl:=oi h
     refine ke (pt AF0 6 (.xi a1)) [] rfl (s1 rfl) ⟨rfl,rfl⟩
    .refine zap (zau (zaa ⟨h,Sub.of_le lt0⟩))
  .refine sr (gq (zbf rfl rfl (qa (.xb (decide (y8=17))) rfl (gc (kd (p:=y8=17) rfl h (λ hc h=> ?_) (λ hc h=> ?_))))))
   .refine zan ?_
    cases h
   .refine zan ?_
    cases h
 .refine sr (qa (.xi (-1)) rfl (gc (zbn ?_)))
  obtain rfl:=oi h
  refine ke (pt AF0 6 (.xi (-1))) [] rfl (s1 rfl) ⟨rfl,rfl⟩
theorem m_ref18_right_ok (a0:List UInt8) (a1:List UInt8) (r:(List UInt8)) (h:m_ref18_right a0 a1=some r):Pure Tryz.prog 194 [(.exact (.string (bs a0))),(.exact (.string (bs a1)))] (.exact (.string (bs r))):=by
 unfold m_ref18_right at h
 refine Pure.ofFun (zam func194 rfl ntmps194 (by simp) rfl (res1 rfl) λ E hE=>zca (sr (qa (.xs ([]:List UInt8)) rfl (gd (qm (.xs a0) rfl ?_)))))
 obtain⟨y1,a,h⟩:=zae h
 refine G_l rfl (op_fun_0_1_1 (m_ref16_Operands_ok _ _ a) func49 (by kernel_rfl) (lc lf ln) (λ v2=>qa (.exact v2) rfl (gd (qm (.exact v2) rfl (qm (.xs a1) rfl ?_)))))
 obtain⟨n3,h⟩:=zad h
 refine G_r rfl (zbl (by kernel_rfl) rfl rfl n3.1 n3.2 (G_l rfl (zcm (i:=1) (o:=0) (z:=a1) (c':=[.xs a1]) (by kernel_rfl) zbt rfl n3.1 n3.2 rfl CellsOf.str (lc lf ln) (OneC.str OneC.nil) (by kernel_rfl) (Nat.le_of_ble_eq_true rfl) rfl (gd (qm (.xs a0) rfl (qm (.exact v2) rfl (G_sub rfl (SubU.freezeT3 (s1:=7) (s2:=8) (s3:=12) rfl rfl rfl zbt) ?_)))))))
 obtain⟨y4,b,h⟩:=zae h
 refine gq (zal (m_ref16_With_ok _ _ _ b) func51 (by kernel_rfl) (lc lf (lc lf ln)) (qa (.xs y4) rfl (gc (zbn ?_))))
 obtain rfl:=oi h
 refine ke (pt AF0 4 (.xs y4)) [] rfl (s1 rfl) ⟨rfl,rfl⟩
theorem m_ref18_parallel_ok (a0:List UInt8) (a1:List (Int×(List UInt8))) (a2:List (Int×(List UInt8))) (r:(List (Int×(List UInt8)))) (h:m_ref18_parallel a0 a1 a2=some r):Pure Tryz.prog 151 [(.exact (.string (bs a0))),(.row 2 zag a1),(.row 2 zag a2)] (.row 2 zag r):=by
 unfold m_ref18_parallel at h
 refine Pure.ofFun (zam func151 rfl ntmps151 (by simp) rfl (res1 rfl) λ E hE=>zca (sr (qa (.exact (.slice none 0 0)) rfl (gd (qa (.exact (.slice none 0 0)) rfl (gd ?_))))))
 obtain⟨y1,z,h⟩:=zae h
 refine gq (zal (m_ref16_Omega_ok _ z) func99 (by kernel_rfl) ln (qa (.xs y1) rfl (gd (qm (.xs a0) rfl ?_))))
 obtain⟨y2,A,h⟩:=zae h
 refine gq (zal (zfb _ _ A) func49 (by kernel_rfl) (lc lf ln) (qa (.row 1 zab y2) rfl (gc (zan (zax h (λ(f:Bool)=>(pt (pt (pt (pt (pt (pt AF0 0 (.xs a0)) 1 (.row 2 zag a1)) 2 (.row 2 zag a2)) 7 (.exact (.slice none 0 0))) 8 (.xs y1)) 30 (.xb f))) (λ(f:Bool)=>[]) (λ k9 h=> ?_) (λ f h=> ?_))))))
 .refine kr (qm (.row 1 zab y2) rfl ?_)
  obtain⟨n12,h⟩:=zad h
  refine gq (zai (by kernel_rfl) rfl rfl n12.1 n12.2 (gq (zak (a:= .xs (gi y2 0)) (by kernel_rfl) rfl rfl (qm (.xs y1) rfl (gq (op_eqlS rfl rfl (qm (.xb (decide ((gi y2 0)=y1))) rfl (zcc (p:=(gi y2 0)=y1) 24 rfl (λ hc=> ?_) (λ hc=> ?_)))))))))
  .replace h:=zcg h hc
   refine gy (zah (av:= .row 1 zab y2) rfl ?_)
   obtain⟨n13,h⟩:=zad h
   refine gy (zai (by kernel_rfl) rfl rfl n13.1 n13.2 (gy (zak (a:= .xs (gi y2 1)) (by kernel_rfl) rfl rfl (gy (zah (av:= .xs y1) rfl (gy (op_eqlS rfl rfl (gq (zat rfl (av:= .xb (decide ((gi y2 1)=y1))) rfl (zbc (zaa ⟨_,h,so (l4 rfl rfl rfl rfl (lq rfl (lq rfl lt0)))⟩)))))))))))
  .replace h:=zcf h hc
   refine gn (gn (gn (gn (gn (gq (zar rfl (av:= .xb false) rfl (zbc (zaa ⟨_,h,so (l4 rfl rfl rfl rfl (lq rfl (lq rfl lt0)))⟩))))))))
 .refine kb (p:=f) rfl h (λ hc h=> ?_) (λ hc h=> ?_)
  .refine sr (qm (.xs y1) rfl (gq (zft (c':=zag (1,y1)) (CellsAll.cons rfl CellsOf.int (CellsAll.cons rfl CellsOf.str CellsAll.nil)) rfl (lc lf (lc lf ln)) (gq (zcd (n:=2) (enc:=zag) [(1,y1)] (CellsAll.cons rfl CellsOf.agg CellsAll.nil) rfl (by kernel_rfl) (LEss.cons (lc lf (lc lf ln)) LEss.nil) (qa (.row 2 zag [(1,y1)]) rfl (gc (zbn (zdb ?_)))))))))
   obtain rfl:=oi h
   refine ke (pt AF0 6 (.row 2 zag [(1,y1)])) [] rfl (s1 rfl) ⟨rfl,rfl⟩
  .refine zap (zaf (zcb h (λ(q:List (Int×(List UInt8))) (v7_j14:Value)=>(pt (pt (pt (pt AF0 0 (.xs a0)) 2 (.row 2 zag a2)) 7 (.exact v7_j14)) 8 (.xs y1))) (λ(q:List (Int×(List UInt8))) (v7_j14:Value)=>[vecT Tryz.prog 120 2 zag v7_j14 q]) (λ k14 h=> ?_) (λ q v7_j14 h=> ?_)))
   .refine sr (qa (.xi 0) rfl (gc (zaq (zcz (m_ref18_parallel_L8 a0 a1 a2 y1 k14) (m_ref18_parallel_B8 a0 a1 a2 y1 k14) (λ _ _=>rfl) (λ m _ _=>rfl) h (λ(g:List (Int×(List UInt8))) (b:Int) (v7_l8:Value)=>(pt (pt (pt (pt (pt (pt AF0 0 (.xs a0)) 1 (.row 2 zag a1)) 2 (.row 2 zag a2)) 7 (.exact v7_l8)) 8 (.xs y1)) 10 (.xi b))) (λ(g:List (Int×(List UInt8))) (b:Int) (v7_l8:Value)=>[vecT Tryz.prog 120 2 zag v7_l8 g]) (.slice none 0 0) ?_ (λ I g b v7_l8 h=> ?_)))))
    .refine Sub.trans (SubU.to (SubU.nilT (P:=Tryz.prog) (t:=120) (n:=2) (enc:=zag))) (so (l4 rfl rfl rfl rfl (lq rfl (lq rfl lt0))))
    .unfold m_ref18_parallel_B8 at h
     refine zan (sr (qm (.xi b) rfl (qm (.row 2 zag a1) rfl (gq (zao (by kernel_rfl) rfl (gq (zbm rfl rfl (gc (kd (p:=b<(List.length a1:Int)) rfl h (λ hc h=> ?_) (λ hc h=> ?_))))))))))
     .refine zap (zaf (zcb h (λ(u:List (Int×(List UInt8))) (v7_j571:Value)=>(pt (pt (pt (pt (pt (pt AF0 0 (.xs a0)) 1 (.row 2 zag a1)) 2 (.row 2 zag a2)) 7 (.exact v7_j571)) 8 (.xs y1)) 10 (.xi b))) (λ(u:List (Int×(List UInt8))) (v7_j571:Value)=>[vecT Tryz.prog 120 2 zag v7_j571 u]) (λ k571 h=> ?_) (λ u v7_j571 h=> ?_)))
      .refine zaq (sr (qm (.row 2 zag a1) rfl (qm (.xi b) rfl ?_)))
       obtain⟨n627,h⟩:=zad h
       refine gq (zai (by kernel_rfl) rfl rfl n627.1 n627.2 (gq (zbx (m:=2) (c':=zag (gi a1 b)) (by kernel_rfl) rfl rfl rfl (G_l rfl (zel (c:=[.xi (((0,[]):Int×(List UInt8)).1), .xs (((0,[]):Int×(List UInt8)).2)]) rfl (lc lf (lc lf ln)) (λ b628=>G_l rfl (zbz (c':=[.xi ((gi a1 b).1), .xs ((gi a1 b).2)]) (c3:=[.xi ((gi a1 b).1), .xs ((gi a1 b).2)]) rfl rfl CellsOf.agg (lc lf (lc lf ln)) (zfi _) (by kernel_rfl) (Nat.le_of_ble_eq_true rfl) rfl (gc (zcb h (λ(v:List (Int×(List UInt8))) (v7_j629:Value)=>(pt (pt (pt (pt (pt (pt (pt AF0 0 (.xs a0)) 1 (.row 2 zag a1)) 2 (.row 2 zag a2)) 7 (.exact v7_j629)) 8 (.xs y1)) 10 (.xi b)) 11 (pA b628 0))) (λ(v:List (Int×(List UInt8))) (v7_j629:Value)=>[vecT Tryz.prog 120 2 zag v7_j629 v,boxI 126 b628 [.xi ((gi a1 b).1), .xs ((gi a1 b).2)]]) (λ k629 h=> ?_) (λ v v7_j629 h=> ?_))))))))))
       .refine zaq (sr (gq (zba (o:=0) (by kernel_rfl) rfl (G_r rfl (zaz (a:= .xi ((gi a1 b).1)) (by kernel_rfl) rfl rfl (gq (zbf rfl rfl (qa (.xb (decide (((gi a1 b).1)=1))) rfl (gc (kd (p:=((gi a1 b).1)=1) rfl h (λ hc h=> ?_) (λ hc h=> ?_)))))))))))
        .refine kr (qm (.exact v7_l8) rfl (qm (.xs a0) rfl (qm (.xs y1) rfl ?_)))
         obtain⟨y636,B,h⟩:=zae h
         refine gq (zal (m_ref18_left_ok _ _ _ B) func192 (by kernel_rfl) (lc lf (lc lf ln)) (gq (zft (c':=zag (0,y636)) (CellsAll.cons rfl CellsOf.int (CellsAll.cons rfl CellsOf.str CellsAll.nil)) rfl (lc lf (lc lf ln)) (gq (zcd (n:=2) (enc:=zag) [(0,y636)] (CellsAll.cons rfl CellsOf.agg CellsAll.nil) rfl (by kernel_rfl) (LEss.cons (lc lf (lc lf ln)) LEss.nil) ?_)))))
         obtain⟨n637,h⟩:=zad h
         refine G_l rfl (opB_f1 (zcu (by kernel_rfl) rfl rfl zfi n637 (λ v638=>qa (.exact v638) rfl (zbc (zau (zaa ⟨_,v638,h,so (l4 rfl rfl rfl rfl (lq rfl (lq rfl (lq rfl lt0))))⟩))))))
        .refine zax h (λ(i:Bool)=>(pt (pt (pt (pt (pt (pt (pt (pt AF0 0 (.xs a0)) 1 (.row 2 zag a1)) 2 (.row 2 zag a2)) 7 (.exact v7_l8)) 8 (.xs y1)) 10 (.xi b)) 11 (pA b628 0)) 55 (.xb i))) (λ(i:Bool)=>[vecT Tryz.prog 120 2 zag v7_l8 g,boxI 126 b628 [.xi ((gi a1 b).1), .xs ((gi a1 b).2)]]) (λ k639 h=> ?_) (λ i h=> ?_)
         .refine kr (gq (zba (o:=0) (by kernel_rfl) rfl (G_r rfl (zaz (a:= .xi ((gi a1 b).1)) (by kernel_rfl) rfl rfl (gq (zbf rfl rfl (qm (.xb (decide (((gi a1 b).1)=0))) rfl (zcc (p:=((gi a1 b).1)=0) 59 rfl (λ hc=> ?_) (λ hc=> ?_)))))))))
          .replace h:=zcg h hc
           refine gn (gn (gn (gn (gq (zat rfl (av:= .xb true) rfl (qa (.xb true) rfl (zbc (zaa ⟨_,h, ?_⟩))))))))
           refine Sub.trans (SubU.to SubU.f1) (so (l4 rfl rfl rfl rfl (l4 rfl rfl rfl rfl lt0)))
          .replace h:=zcf h hc
           refine gy (zah (av:= .xs a0) rfl (gy (zba (o:=0) (by kernel_rfl) rfl (Gy_r rfl rfl rfl (zaz (a:= .xi ((gi a1 b).1)) (by kernel_rfl) rfl rfl ?_)))))
           obtain⟨y641,C,h⟩:=zae h
           refine gy (zal (m_ref18_alone_ok _ _ _ _ C) func195 (by kernel_rfl) (lc lf (lc lf (lc lf ln))) (gq (zar rfl (av:= .xb y641) rfl (qa (.xb y641) rfl (zbc (zaa ⟨_,h, ?_⟩))))))
           refine Sub.trans (SubU.to SubU.f1) (so (l4 rfl rfl rfl rfl (l4 rfl rfl rfl rfl lt0)))
         .refine kb (p:=i) rfl h (λ hc h=> ?_) (λ hc h=> ?_)
          .cases h
          .refine zap (zau (zaa ⟨_,v7_l8,h,so (l4 rfl rfl rfl rfl (lq rfl (lq rfl (lq rfl lt0))))⟩))
       .refine sr (qa (.xi 0) rfl (gc (zaq (zcz (m_ref18_parallel_L14 a0 a1 a2 b k571) (m_ref18_parallel_B14 a0 a1 a2 b k571) (λ _ _=>rfl) (λ m _ _=>rfl) h (λ(w:List (Int×(List UInt8))) (e:Int) (v7_l14:Value)=>(pt (pt (pt (pt (pt (pt (pt (pt AF0 0 (.xs a0)) 1 (.row 2 zag a1)) 2 (.row 2 zag a2)) 7 (.exact v7_l14)) 8 (.xs y1)) 10 (.xi b)) 11 (pA b628 0)) 12 (.xi e))) (λ(w:List (Int×(List UInt8))) (e:Int) (v7_l14:Value)=>[vecT Tryz.prog 120 2 zag v7_l14 w,boxI 126 b628 [.xi ((gi a1 b).1), .xs ((gi a1 b).2)]]) v7_j629 ?_ (λ J w e v7_l14 h=> ?_)))))
        .exact so (l4 rfl rfl rfl rfl (l4 rfl rfl rfl rfl lt0))
        .unfold m_ref18_parallel_B14 at h
         refine zan (sr (qm (.xi e) rfl (qm (.row 2 zag a2) rfl (gq (zao (by kernel_rfl) rfl (gq (zbm rfl rfl (gc (kd (p:=e<(List.length a2:Int)) rfl h (λ hc h=> ?_) (λ hc h=> ?_))))))))))
         .refine zap (zaf (zcb h (λ(x:List (Int×(List UInt8))) (v7_j668:Value)=>(pt (pt (pt (pt (pt (pt (pt (pt AF0 0 (.xs a0)) 1 (.row 2 zag a1)) 2 (.row 2 zag a2)) 7 (.exact v7_j668)) 8 (.xs y1)) 10 (.xi b)) 11 (pA b628 0)) 12 (.xi e))) (λ(x:List (Int×(List UInt8))) (v7_j668:Value)=>[vecT Tryz.prog 120 2 zag v7_j668 x,boxI 126 b628 [.xi ((gi a1 b).1), .xs ((gi a1 b).2)]]) (λ k668 h=> ?_) (λ x v7_j668 h=> ?_)))
          .refine zaq (zan (zck [] [(0,0),(0,1),(0,3),(0,4),(0,5),(0,6),(0,7),(1,2),(0,8),(0,9)] hmixP (by kernel_rfl) (pq rfl (zah (av:= .xs a0) rfl (pq rfl (zba (o:=0) (by kernel_rfl) rfl (pq rfl (zah (av:= .row 2 zag a2) rfl (pq rfl (zah (av:= .xi e) rfl ?_))))))))))
           obtain⟨n675,h⟩:=zad h
           refine pq rfl (zai (by kernel_rfl) rfl rfl n675.1 n675.2 (pq rfl (zaj (o:=0) (c':=(List.drop 0 (zag (gi a2 e)))) (by kernel_rfl) rfl rfl (pq rfl (zak (a:= .xi ((gi a2 e).1)) (by kernel_rfl) rfl rfl (P_r rfl (opR_f1 (zaz (a:= .xi ((gi a1 b).1)) (by kernel_rfl) rfl rfl ?_))))))))
           obtain⟨y676,D,h⟩:=zae h
           refine pq rfl (zal (m_ref18_joint_ok _ _ _ _ D) func196 (by kernel_rfl) (lc lf (lc lf (lc lf ln))) (pq rfl (zcj (av:= .xi y676) rfl (zcn (zaf (sr (qm (.xi y676) rfl (gq (zgm rfl rfl (gc (kd (p:=0≤y676) rfl h (λ hc h=> ?_) (λ hc h=> ?_))))))))))))
           .refine zck [] [(0,0),(0,1),(0,2),(0,3),(0,5),(0,6),(0,7),(0,8),(0,9),(1,4),(0,10),(0,11),(0,12),(0,13),(2,14),(0,15)] hmixP (by kernel_rfl) (pq rfl (zah (av:= .exact v7_l14) rfl (pq rfl (zah (av:= .xi y676) rfl (pq rfl (zah (av:= .xs a0) rfl (pq rfl (zba (o:=1) (by kernel_rfl) rfl (pq rfl (zah (av:= .row 2 zag a2) rfl (pq rfl (zah (av:= .xi e) rfl ?_))))))))))))
            obtain⟨n677,h⟩:=zad h
            refine pq rfl (zai (by kernel_rfl) rfl rfl n677.1 n677.2 (pq rfl (zaj (o:=1) (c':=(List.drop 1 (zag (gi a2 e)))) (by kernel_rfl) rfl rfl (pq rfl (zak (a:= .xs ((gi a2 e).2)) (by kernel_rfl) rfl rfl (P_r rfl (opR_f1 (zaz (a:= .xs ((gi a1 b).2)) (by kernel_rfl) rfl rfl (pq rfl (zcd (n:=1) (enc:=zab) [(gi a1 b).2,(gi a2 e).2] (CellsAll.cons rfl CellsOf.str (CellsAll.cons rfl CellsOf.str CellsAll.nil)) rfl (by kernel_rfl) (LEss.cons (lc lf ln) (LEss.cons (lc lf ln) LEss.nil)) ?_))))))))))
            obtain⟨y678,F,h⟩:=zae h
            refine pq rfl (zal (m_ref16_With_ok _ _ _ F) func51 (by kernel_rfl) (lc lf (lc lf ln)) (pq rfl (zft (c':=zag (y676,y678)) (CellsAll.cons rfl CellsOf.int (CellsAll.cons rfl CellsOf.str CellsAll.nil)) rfl (lc lf (lc lf ln)) (pq rfl (zcd (n:=2) (enc:=zag) [(y676,y678)] (CellsAll.cons rfl CellsOf.agg CellsAll.nil) rfl (by kernel_rfl) (LEss.cons (lc lf (lc lf ln)) LEss.nil) ?_)))))
            obtain⟨n679,h⟩:=zad h
            refine P_l rfl (zcu (by kernel_rfl) rfl rfl zfi n679 (λ v680=>pq rfl (zcj (av:= .exact v680) rfl (zcn (zau (zaa ⟨_,v680,h,so (l4 rfl rfl rfl rfl (l4 rfl rfl rfl rfl lt0))⟩))))))
           .refine zap (zau (zaa ⟨_,v7_l14,h,so (l4 rfl rfl rfl rfl (l4 rfl rfl rfl rfl lt0))⟩))
          .refine kr (qm (.xi e) rfl (gq (zbo rfl rfl rfl (qa (.xi (i64 (e+1))) rfl (zbc (zaa ⟨_,_,v7_j668,h,so (l4 rfl rfl rfl rfl (l4 rfl rfl rfl rfl lt0))⟩))))))
         .refine zbr (zbi (zbk (zbj (zau (zaa ⟨_,v7_l14,h, ?_⟩)))))
          refine Sub.trans (SubU.to SubU.f1) (Sub.trans (SubU.to SubU.drop) (so (l4 rfl rfl rfl rfl (lq rfl (lq rfl lt0)))))
      .refine kr (qm (.xi b) rfl (gq (zbo rfl rfl rfl (qa (.xi (i64 (b+1))) rfl (zbc (zaa ⟨_,_,v7_j571,h,so (l4 rfl rfl rfl rfl (lq rfl (lq rfl lt0)))⟩))))))
     .refine zbr (zbi (zbk (zbj (zaa ⟨_,v7_l8,h,s4 rfl rfl rfl rfl⟩))))
   .refine zcb h (λ(j:List (Int×(List UInt8))) (v7_j681:Value)=>(pt AF0 7 (.exact v7_j681))) (λ(j:List (Int×(List UInt8))) (v7_j681:Value)=>[vecT Tryz.prog 120 2 zag v7_j681 j]) (λ k681 h=> ?_) (λ j v7_j681 h=> ?_)
    .refine sr (qa (.xi 0) rfl (gc (zaq (zcz (m_ref18_parallel_L16 a0 a2 y1 k681) (m_ref18_parallel_B16 a0 a2 y1 k681) (λ _ _=>rfl) (λ m _ _=>rfl) h (λ(k:List (Int×(List UInt8))) (d:Int) (v7_l16:Value)=>(pt (pt (pt (pt (pt AF0 0 (.xs a0)) 2 (.row 2 zag a2)) 7 (.exact v7_l16)) 8 (.xs y1)) 14 (.xi d))) (λ(k:List (Int×(List UInt8))) (d:Int) (v7_l16:Value)=>[vecT Tryz.prog 120 2 zag v7_l16 k]) v7_j14 ?_ (λ K k d v7_l16 h=> ?_)))))
     .exact so (l4 rfl rfl rfl rfl (lq rfl lt0))
     .unfold m_ref18_parallel_B16 at h
      refine zan (sr (qm (.xi d) rfl (qm (.row 2 zag a2) rfl (gq (zao (by kernel_rfl) rfl (gq (zbm rfl rfl (gc (kd (p:=d<(List.length a2:Int)) rfl h (λ hc h=> ?_) (λ hc h=> ?_))))))))))
      .refine zap (zaf (zcb h (λ(y:List (Int×(List UInt8))) (v7_j768:Value)=>(pt (pt (pt (pt (pt AF0 0 (.xs a0)) 2 (.row 2 zag a2)) 7 (.exact v7_j768)) 8 (.xs y1)) 14 (.xi d))) (λ(y:List (Int×(List UInt8))) (v7_j768:Value)=>[vecT Tryz.prog 120 2 zag v7_j768 y]) (λ k768 h=> ?_) (λ y v7_j768 h=> ?_)))
       .refine zaq (sr (qm (.row 2 zag a2) rfl (qm (.xi d) rfl ?_)))
        obtain⟨n777,h⟩:=zad h
        refine gq (zai (by kernel_rfl) rfl rfl n777.1 n777.2 (gq (zbx (m:=2) (c':=zag (gi a2 d)) (by kernel_rfl) rfl rfl rfl (G_l rfl (zel (c:=[.xi (((0,[]):Int×(List UInt8)).1), .xs (((0,[]):Int×(List UInt8)).2)]) rfl (lc lf (lc lf ln)) (λ b778=>G_l rfl (zbz (c':=[.xi ((gi a2 d).1), .xs ((gi a2 d).2)]) (c3:=[.xi ((gi a2 d).1), .xs ((gi a2 d).2)]) rfl rfl CellsOf.agg (lc lf (lc lf ln)) (zfi _) (by kernel_rfl) (Nat.le_of_ble_eq_true rfl) rfl (gc (zaq (sr (gq (zba (o:=0) (by kernel_rfl) rfl (G_r rfl (zaz (a:= .xi ((gi a2 d).1)) (by kernel_rfl) rfl rfl (gq (zbf rfl rfl (qa (.xb (decide (((gi a2 d).1)=1))) rfl (gc (kd (p:=((gi a2 d).1)=1) rfl h (λ hc h=> ?_) (λ hc h=> ?_))))))))))))))))))))
        .refine kr (qm (.exact v7_l16) rfl (qm (.xs a0) rfl (qm (.xs y1) rfl ?_)))
         obtain⟨y779,G,h⟩:=zae h
         refine gq (zal (m_ref18_right_ok _ _ _ G) func194 (by kernel_rfl) (lc lf (lc lf ln)) (gq (zft (c':=zag (0,y779)) (CellsAll.cons rfl CellsOf.int (CellsAll.cons rfl CellsOf.str CellsAll.nil)) rfl (lc lf (lc lf ln)) (gq (zcd (n:=2) (enc:=zag) [(0,y779)] (CellsAll.cons rfl CellsOf.agg CellsAll.nil) rfl (by kernel_rfl) (LEss.cons (lc lf (lc lf ln)) LEss.nil) ?_)))))
         obtain⟨n780,h⟩:=zad h
         refine G_l rfl (opB_f1 (zcu (by kernel_rfl) rfl rfl zfi n780 (λ v781=>qa (.exact v781) rfl (zbc (zau (zau (zaa ⟨_,v781,h, ?_⟩)))))))
         refine Sub.trans (SubU.to SubU.f1) (Sub.trans (SubU.to SubU.drop) (so (l4 rfl rfl rfl rfl (lq rfl lt0))))
        .refine zax h (λ(l:Bool)=>(pt (pt (pt (pt (pt (pt (pt AF0 0 (.xs a0)) 2 (.row 2 zag a2)) 7 (.exact v7_l16)) 8 (.xs y1)) 14 (.xi d)) 15 (pA b778 0)) 128 (.xb l))) (λ(l:Bool)=>[vecT Tryz.prog 120 2 zag v7_l16 k,boxI 126 b778 [.xi ((gi a2 d).1), .xs ((gi a2 d).2)]]) (λ k782 h=> ?_) (λ l h=> ?_)
         .refine kr (gq (zba (o:=0) (by kernel_rfl) rfl (G_r rfl (zaz (a:= .xi ((gi a2 d).1)) (by kernel_rfl) rfl rfl (gq (zbf rfl rfl (qm (.xb (decide (((gi a2 d).1)=0))) rfl (zcc (p:=((gi a2 d).1)=0) 132 rfl (λ hc=> ?_) (λ hc=> ?_)))))))))
          .replace h:=zcg h hc
           refine gn (gn (gn (gn (gq (zat rfl (av:= .xb true) rfl (qa (.xb true) rfl (zbc (zaa ⟨_,h, ?_⟩))))))))
           refine Sub.trans (SubU.to SubU.f1) (so (l4 rfl rfl rfl rfl (lq rfl (lq rfl (lq rfl lt0)))))
          .replace h:=zcf h hc
           refine gy (zah (av:= .xs a0) rfl (gy (zba (o:=0) (by kernel_rfl) rfl (Gy_r rfl rfl rfl (zaz (a:= .xi ((gi a2 d).1)) (by kernel_rfl) rfl rfl ?_)))))
           obtain⟨y784,H,h⟩:=zae h
           refine gy (zal (m_ref18_alone_ok _ _ _ _ H) func195 (by kernel_rfl) (lc lf (lc lf (lc lf ln))) (gq (zar rfl (av:= .xb y784) rfl (qa (.xb y784) rfl (zbc (zaa ⟨_,h, ?_⟩))))))
           refine Sub.trans (SubU.to SubU.f1) (so (l4 rfl rfl rfl rfl (lq rfl (lq rfl (lq rfl lt0)))))
         .refine kb (p:=l) rfl h (λ hc h=> ?_) (λ hc h=> ?_)
          .cases h
          .refine zap (zau (zau (zaa ⟨_,v7_l16,h, ?_⟩)))
           refine Sub.trans (SubU.to SubU.f1) (Sub.trans (SubU.to SubU.drop) (so (l4 rfl rfl rfl rfl (lq rfl lt0))))
       .refine kr (qm (.xi d) rfl (gq (zbo rfl rfl rfl (qa (.xi (i64 (d+1))) rfl (zbc (zaa ⟨_,_,v7_j768,h,so (l4 rfl rfl rfl rfl (lq rfl lt0))⟩))))))
      .refine zbr (zbi (zbk (zbj (zaa ⟨_,v7_l16,h,s1 rfl⟩))))
    .refine sr (qm (.exact v7_j681) rfl (qa (.exact v7_j681) rfl (gc (zbn ?_))))
     obtain rfl:=oi h
     refine ke (pt AF0 6 (.row 2 zag j)) [] rfl (Sub.trans (SubU.to (SubU.freezeT (s:=6) rfl zgf)) (s1 rfl)) ⟨rfl,rfl⟩
theorem m_ref16_Pairs_ok (a0:List UInt8) (r:(List (Int×Int))) (h:m_ref16_Pairs a0=some r):Pure Tryz.prog 197 [(.exact (.string (bs a0)))] (.row 2 zhz r):=by
 unfold m_ref16_Pairs at h
 refine Pure.ofFun (zam func197 rfl ntmps197 (by simp) rfl (res1 rfl) λ E hE=>zca (sr (qa (.exact (.slice none 0 0)) rfl (gd (qm (.xs a0) rfl ?_)))))
 obtain⟨y1,a,h⟩:=zae h
 refine gq (zal (zeg _ _ a) func42 (by kernel_rfl) (lc lf ln) (qa (.row 1 zab y1) rfl (gd (qm (.xs a0) rfl ?_))))
 obtain⟨y2,b,h⟩:=zae h
 refine gq (zal (zdm _ _ b) func45 (by kernel_rfl) (lc lf ln) ?_)
 obtain⟨y3,c,h⟩:=zae h
 refine gq (zal (zgq _ _ c) func30 (by kernel_rfl) (lc lf ln) (qa (.xs y3) rfl (gc (zbw h (AF0) ([]) (λ k4 h=> ?_) (λ  h=> ?_)))))
 .refine sr (qa (.xi 0) rfl (gc (zaq (zgs (m_ref16_Pairs_L2 y3 k4) (m_ref16_Pairs_B2 y3 k4) (λ _=>rfl) (λ m _=>rfl) h ((pt (pt (pt AF0 3 (.row 1 zab y1)) 4 (.xs y3)) 5 (.xi 0))) ([]) ?_ (λ d  h=> ?_)))))
  .exact s3 rfl rfl rfl
  .unfold m_ref16_Pairs_B2 at h
   refine zan (sr (qm (.xi 0) rfl (qm (.xs y3) rfl (gq (op_lenS (by kernel_rfl) rfl (gq (zbm rfl rfl (gc (kd (p:=0<(List.length y3:Int)) rfl h (λ hc h=> ?_) (λ hc h=> ?_))))))))))
   .refine zap (zaf (zan (zaq (zan ?_))))
    cases h
   .refine zbr (zbi (zbk (zbj (zaa ⟨h,Sub.of_le lt0⟩))))
 .refine sr (qa (.exact (.slice none 0 0)) rfl (gc (zbn ?_)))
  obtain rfl:=oi h
  refine ke (pt AF0 2 (.row 2 zhz [])) [] rfl (so (AF.le_put (zcy (by decide)) lt0)) ⟨rfl,rfl⟩
theorem m_ref16_Above_ok (a0:List (Int×Int)) (r:(List (Int×Int))) (h:m_ref16_Above a0=some r):Pure Tryz.prog 89 [(.row 2 zhz a0)] (.row 2 zgv r):=by
 unfold m_ref16_Above at h
 refine Pure.ofFun (zam func89 rfl ntmps89 (by simp) rfl (res1 rfl) λ E hE=>zca (sr (qa (.exact (.slice none 0 0)) rfl (gd (qa (.exact (.slice none 0 0)) rfl (gc (zbw h ((pt AF0 3 (.exact (.slice none 0 0)))) ([]) (λ k1 h=> ?_) (λ  h=> ?_))))))))
 .refine sr (qa (.xi 0) rfl (gc (zaq (zgs (m_ref16_Above_L2 a0 k1) (m_ref16_Above_B2 a0 k1) (λ _=>rfl) (λ m _=>rfl) h ((pt (pt (pt AF0 0 (.row 2 zhz a0)) 3 (.exact (.slice none 0 0))) 4 (.xi 0))) ([]) ?_ (λ a  h=> ?_)))))
  .exact s3 rfl rfl rfl
  .unfold m_ref16_Above_B2 at h
   refine zan (sr (qm (.xi 0) rfl (qm (.row 2 zhz a0) rfl (gq (zao (by kernel_rfl) rfl (gq (zbm rfl rfl (gc (kd (p:=0<(List.length a0:Int)) rfl h (λ hc h=> ?_) (λ hc h=> ?_))))))))))
   .refine zap (zaf (zan (zaq ?_)))
    cases h
   .refine zbr (zbi (zbk (zbj (zaa ⟨h,s1 rfl⟩))))
 .refine sr (qm (.exact (.slice none 0 0)) rfl (qa (.exact (.slice none 0 0)) rfl (gc (zbn ?_))))
  obtain rfl:=oi h
  refine ke (pt AF0 2 (.row 2 zgv [])) [] rfl (so (AF.le_put (zcy (by decide)) lt0)) ⟨rfl,rfl⟩
theorem m_ref16_ValidOrder_ok (a0:List (Int×Int)) (r:Bool) (h:m_ref16_ValidOrder a0=some r):Pure Tryz.prog 88 [(.row 2 zgv a0)] (.exact (.bool r)):=by
 unfold m_ref16_ValidOrder at h
 refine Pure.ofFun (zam func88 rfl ntmps88 (by simp) rfl (res1 rfl) λ E hE=>zca (sr (qa (.xb false) rfl (gc (zbw h ((pt AF0 0 (.row 2 zgv a0))) ([]) (λ k1 h=> ?_) (λ  h=> ?_))))))
 .refine sr (qa (.xi 0) rfl (gc (zaq (zgs (m_ref16_ValidOrder_L2 a0 k1) (m_ref16_ValidOrder_B2 a0 k1) (λ _=>rfl) (λ m _=>rfl) h ((pt (pt AF0 0 (.row 2 zgv a0)) 3 (.xi 0))) ([]) ?_ (λ a  h=> ?_)))))
  .exact s2 rfl rfl
  .unfold m_ref16_ValidOrder_B2 at h
   refine zan (sr (qm (.xi 0) rfl (qm (.row 2 zgv a0) rfl (gq (zao (by kernel_rfl) rfl (gq (zbm rfl rfl (gc (kd (p:=0<(List.length a0:Int)) rfl h (λ hc h=> ?_) (λ hc h=> ?_))))))))))
   .refine zap (zaf (zan (zaq (zan ?_))))
    cases h
   .refine zbr (zbi (zbk (zbj (zaa ⟨h,s1 rfl⟩))))
 .refine zbw h (AF0) ([]) (λ k7 h=> ?_) (λ  h=> ?_)
  .refine sr (qa (.xi 0) rfl (gc (zaq (zgs (m_ref16_ValidOrder_L4 a0 k7) (m_ref16_ValidOrder_B4 a0 k7) (λ _=>rfl) (λ m _=>rfl) h ((pt (pt AF0 0 (.row 2 zgv a0)) 5 (.xi 0))) ([]) ?_ (λ b  h=> ?_)))))
   .exact s2 rfl rfl
   .unfold m_ref16_ValidOrder_B4 at h
    refine zan (sr (qm (.xi 0) rfl (qm (.row 2 zgv a0) rfl (gq (zao (by kernel_rfl) rfl (gq (zbm rfl rfl (gc (kd (p:=0<(List.length a0:Int)) rfl h (λ hc h=> ?_) (λ hc h=> ?_))))))))))
    .refine zap (zaf (zan (zaq (zan ?_))))
     cases h
    .refine zbr (zbi (zbk (zbj (zaa ⟨h,Sub.of_le lt0⟩))))
  .refine sr (qa (.xb true) rfl (gc (zbn ?_)))
   obtain rfl:=oi h
   refine ke (pt AF0 2 (.xb true)) [] rfl (s1 rfl) ⟨rfl,rfl⟩
theorem m_ref16_Keep_ok (a0:List (Int×Int)) (a1:List Int) (r:(List Int)) (h:m_ref16_Keep a0 a1=some r):Pure Tryz.prog 198 [(.row 2 zgv a0),(.row 1 zav a1)] (.row 1 zav r):=by
 unfold m_ref16_Keep at h
 refine Pure.ofFun (zam func198 rfl ntmps198 (by simp) rfl (res1 rfl) λ E hE=>zca (sr (qa (.exact (.slice none 0 0)) rfl (gd (qa (.exact (.slice none 0 0)) rfl (gc (zan (sr (qm (.row 2 zgv a0) rfl ?_)))))))))
 obtain⟨y1,a,h⟩:=zae h
 refine gq (zal (m_ref16_ValidOrder_ok _ _ a) func88 (by kernel_rfl) (lc lf ln) (gq (zdh rfl (gc (kb (p:= !y1) rfl h (λ hc h=> ?_) (λ hc h=> ?_))))))
 .refine zan ?_
  cases h
 .refine zap (zaf (zbw h ((pt AF0 5 (.exact (.slice none 0 0)))) ([]) (λ k2 h=> ?_) (λ  h=> ?_)))
  .refine sr (qa (.xi 0) rfl (gc (zaq (zgs (m_ref16_Keep_L2 a1 k2) (m_ref16_Keep_B2 a1 k2) (λ _=>rfl) (λ m _=>rfl) h ((pt (pt (pt (pt AF0 0 (.row 2 zgv a0)) 1 (.row 1 zav a1)) 5 (.exact (.slice none 0 0))) 6 (.xi 0))) ([]) ?_ (λ b  h=> ?_)))))
   .exact s4 rfl rfl rfl rfl
   .unfold m_ref16_Keep_B2 at h
    refine zan (sr (qm (.xi 0) rfl (qm (.row 1 zav a1) rfl (gq (zao (by kernel_rfl) rfl (gq (zbm rfl rfl (gc (kd (p:=0<(List.length a1:Int)) rfl h (λ hc h=> ?_) (λ hc h=> ?_))))))))))
    .refine zap (zaf (zan (zaq (zan ?_))))
     cases h
    .refine zbr (zbi (zbk (zbj (zaa ⟨h,s1 rfl⟩))))
  .refine sr (qm (.exact (.slice none 0 0)) rfl (qa (.exact (.slice none 0 0)) rfl (gc (zbn ?_))))
   obtain rfl:=oi h
   refine ke (pt AF0 4 (.row 1 zav [])) [] rfl (so (AF.le_put (zcy (by decide)) lt0)) ⟨rfl,rfl⟩
theorem m_ref18_unary_ok (a0:List UInt8) (a1:List (Int×(List UInt8))) (r:(List (Int×(List UInt8)))) (h:m_ref18_unary a0 a1=some r):Pure Tryz.prog 152 [(.exact (.string (bs a0))),(.row 2 zag a1)] (.row 2 zag r):=by
 unfold m_ref18_unary at h
 refine Pure.ofFun (zam func152 rfl ntmps152 (by simp) rfl (res1 rfl) λ E hE=>zca (sr (qa (.exact (.slice none 0 0)) rfl (gd (qm (.xs a0) rfl ?_)))))
 obtain⟨y1,c,h⟩:=zae h
 refine gq (zal (zdm _ _ c) func45 (by kernel_rfl) (lc lf ln) (qa (.xi y1) rfl (gd (qm (.xs a0) rfl ?_))))
 obtain⟨y2,d,h⟩:=zae h
 refine gq (zal (m_ref16_Sets_ok _ _ d) func191 (by kernel_rfl) (lc lf ln) (qm (.tup [.row 1 zav y2.1, .row 1 zav y2.2]) rfl (gq (zbq (av:= .row 1 zav y2.1) rfl rfl (gq (zbq (av:= .row 1 zav y2.2) rfl rfl (qa (.row 1 zav y2.1) rfl (qa (.row 1 zav y2.2) rfl (gd (qm (.xs a0) rfl ?_))))))))))
 obtain⟨y3,e,h⟩:=zae h
 refine gq (zal (m_ref16_Pairs_ok _ _ e) func197 (by kernel_rfl) (lc lf ln) (qa (.row 2 zhz y3) rfl (gd (qa (.exact (.slice none 0 0)) rfl (gc (zbw h ((pt (pt (pt (pt (pt (pt AF0 0 (.xs a0)) 1 (.row 2 zag a1)) 5 (.xi y1)) 6 (.row 1 zav y2.1)) 8 (.row 2 zhz y3)) 9 (.exact (.slice none 0 0)))) ([]) (λ k4 h=> ?_) (λ  h=> ?_)))))))
 .refine sr (qa (.xi 0) rfl (gc (zaq (zgs (m_ref18_unary_L2 a1 k4) (m_ref18_unary_B2 a1 k4) (λ _=>rfl) (λ m _=>rfl) h ((pt (pt (pt (pt (pt (pt (pt AF0 0 (.xs a0)) 1 (.row 2 zag a1)) 5 (.xi y1)) 6 (.row 1 zav y2.1)) 8 (.row 2 zhz y3)) 9 (.exact (.slice none 0 0))) 10 (.xi 0))) ([]) ?_ (λ i  h=> ?_)))))
  .exact so (l4 rfl rfl rfl rfl (lq rfl (lq rfl (lq rfl lt0))))
  .unfold m_ref18_unary_B2 at h
   refine zan (sr (qm (.xi 0) rfl (qm (.row 2 zag a1) rfl (gq (zao (by kernel_rfl) rfl (gq (zbm rfl rfl (gc (kd (p:=0<(List.length a1:Int)) rfl h (λ hc h=> ?_) (λ hc h=> ?_))))))))))
   .refine zap (zaf (zan (zaq ?_)))
    cases h
   .refine zbr (zbi (zbk (zbj (zaa ⟨h,so (l4 rfl rfl rfl rfl (lq rfl (lq rfl lt0)))⟩))))
 .refine sr (qm (.row 2 zhz y3) rfl ?_)
  obtain⟨y6,f,h⟩:=zae h
  refine gq (zal (m_ref16_Above_ok _ _ f) func89 (by kernel_rfl) (lc lf ln) (qm (.exact (.slice none 0 0)) rfl ?_))
  obtain⟨y7,g,h⟩:=zae h
  refine gq (zal (m_ref16_Keep_ok _ _ _ g) func198 (by kernel_rfl) (lc lf (lc (zcy (by decide)) ln)) (qa (.row 1 zav y7) rfl (gc (zax h (λ(b:Bool)=>(pt (pt (pt (pt (pt (pt (pt AF0 0 (.xs a0)) 1 (.row 2 zag a1)) 5 (.xi y1)) 6 (.row 1 zav y2.1)) 8 (.row 2 zhz y3)) 11 (.row 1 zav y7)) 12 (.xb b))) (λ(b:Bool)=>[]) (λ k8 h=> ?_) (λ b h=> ?_)))))
  .refine kr (qm (.xi y1) rfl (gq (zbf rfl rfl (qm (.xb (decide (y1=19))) rfl (zcc (p:=y1=19) 47 rfl (λ hc=> ?_) (λ hc=> ?_))))))
   .replace h:=zcg h hc
    refine gy (zah (av:= .row 2 zag a1) rfl (gy (zao (by kernel_rfl) rfl (gy (zfx rfl rfl (gq (zat rfl (av:= .xb (decide (0<(List.length a1:Int)))) rfl (qm (.xb (decide (0<(List.length a1:Int)))) rfl (zcc (p:=0<(List.length a1:Int)) 52 rfl (λ hc=> ?_) (λ hc=> ?_))))))))))
    .replace h:=zcg h hc
     refine gy (zah (av:= .row 2 zag a1) rfl ?_)
     obtain⟨n10,h⟩:=zad h
     refine gy (zai (by kernel_rfl) rfl rfl n10.1 n10.2 (gy (zaj (o:=0) (c':=(List.drop 0 (zag (gi a1 0)))) (by kernel_rfl) rfl rfl (gy (zak (a:= .xi ((gi a1 0).1)) (by kernel_rfl) rfl rfl (gy (zbf rfl rfl (gq (zat rfl (av:= .xb (decide (((gi a1 0).1)=0))) rfl (qa (.xb (decide (((gi a1 0).1)=0))) rfl (zbc (zaa ⟨_,h,so (l4 rfl rfl rfl rfl (lq rfl (lq rfl (lq rfl lt0))))⟩))))))))))))
    .replace h:=zcf h hc
     refine gn (gn (gn (gn (gn (gq (zar rfl (av:= .xb false) rfl (qa (.xb false) rfl (zbc (zaa ⟨_,h,so (l4 rfl rfl rfl rfl (lq rfl (lq rfl (lq rfl lt0))))⟩)))))))))
   .replace h:=zcf h hc
    refine gn (gn (gn (gq (zar rfl (av:= .xb false) rfl (qm (.xb false) rfl (gn (gn (gn (gn (gn (gq (zar rfl (av:= .xb false) rfl (qa (.xb false) rfl (zbc (zaa ⟨_,h,so (l4 rfl rfl rfl rfl (lq rfl (lq rfl (lq rfl lt0))))⟩)))))))))))))))
  .refine sr (qa (.exact (.slice none 0 0)) rfl (gc (zbw h ((pt AF0 13 (.exact (.slice none 0 0)))) ([]) (λ k11 h=> ?_) (λ  h=> ?_))))
   .refine sr (qa (.xi 0) rfl (gc (zaq (zgs (m_ref18_unary_L4 a1 k11) (m_ref18_unary_B4 a1 k11) (λ _=>rfl) (λ m _=>rfl) h ((pt (pt (pt (pt (pt (pt (pt (pt (pt AF0 0 (.xs a0)) 1 (.row 2 zag a1)) 5 (.xi y1)) 6 (.row 1 zav y2.1)) 8 (.row 2 zhz y3)) 11 (.row 1 zav y7)) 12 (.xb b)) 13 (.exact (.slice none 0 0))) 14 (.xi 0))) ([]) ?_ (λ j  h=> ?_)))))
    .exact so (l4 rfl rfl rfl rfl (l4 rfl rfl rfl rfl (lq rfl lt0)))
    .unfold m_ref18_unary_B4 at h
     refine zan (sr (qm (.xi 0) rfl (qm (.row 2 zag a1) rfl (gq (zao (by kernel_rfl) rfl (gq (zbm rfl rfl (gc (kd (p:=0<(List.length a1:Int)) rfl h (λ hc h=> ?_) (λ hc h=> ?_))))))))))
     .refine zap (zaf (zan (zaq (zan ?_))))
      cases h
     .refine zbr (zbi (zbk (zbj (zaa ⟨h,s1 rfl⟩))))
   .refine sr (qm (.exact (.slice none 0 0)) rfl (qa (.exact (.slice none 0 0)) rfl (gc (zbn ?_))))
    obtain rfl:=oi h
    refine ke (pt AF0 4 (.row 2 zag [])) [] rfl (so (AF.le_put (zcy (by decide)) lt0)) ⟨rfl,rfl⟩
theorem zeu (a0:List UInt8) (a1:List (Int×(List UInt8))) (a2:List (Int×(List UInt8))) (r:(List (Int×(List UInt8)))) (h:zew a0 a1 a2=some r):Pure Tryz.prog 101 [(.exact (.string (bs a0))),(.row 2 zag a1),(.row 2 zag a2)] (.row 2 zag r):=by
 unfold zew at h
 refine Pure.ofFun (zam func101 rfl ntmps101 (by simp) rfl (res1 rfl) λ E hE=>zca (sr (qa (.exact (.slice none 0 0)) rfl (gd (qm (.xs a0) rfl ?_)))))
 obtain⟨y1,i,h⟩:=zae h
 refine gq (zal (zfb _ _ i) func49 (by kernel_rfl) (lc lf ln) (qa (.row 1 zab y1) rfl (gd ?_)))
 obtain⟨y2,j,h⟩:=zae h
 refine gq (zal (m_ref16_Omega_ok _ j) func99 (by kernel_rfl) ln (qa (.xs y2) rfl (gc (zbw h ((pt (pt AF0 0 (.xs a0)) 1 (.row 2 zag a1))) ([]) (λ k3 h=> ?_) (λ  h=> ?_)))))
 .refine sr (qm (.xs a0) rfl ?_)
  obtain⟨y37,k,h⟩:=zae h
  refine gq (zal (zdm _ _ k) func45 (by kernel_rfl) (lc lf ln) (gc (zaq (sr (gq (zbf rfl rfl (qa (.xb (decide (y37=2))) rfl (gc (kd (p:=y37=2) rfl h (λ hc h=> ?_) (λ hc h=> ?_))))))))))
  .refine sr (qm (.xs y2) rfl (gq (zft (c':=zag (1,y2)) (CellsAll.cons rfl CellsOf.int (CellsAll.cons rfl CellsOf.str CellsAll.nil)) rfl (lc lf (lc lf ln)) (gq (zcd (n:=2) (enc:=zag) [(1,y2)] (CellsAll.cons rfl CellsOf.agg CellsAll.nil) rfl (by kernel_rfl) (LEss.cons (lc lf (lc lf ln)) LEss.nil) (qa (.row 2 zag [(1,y2)]) rfl (gc (zbn (zde (zek ?_))))))))))
   obtain rfl:=oi h
   refine ke (pt AF0 6 (.row 2 zag [(1,y2)])) [] rfl (s1 rfl) ⟨rfl,rfl⟩
  .refine sr (gq (zbf rfl rfl (qa (.xb (decide (y37=3))) rfl (gc (kd (p:=y37=3) rfl h (λ hc h=> ?_) (λ hc h=> ?_))))))
   .refine zan ?_
    cases h
   .refine sr (gq (zbf rfl rfl (qa (.xb (decide (y37=6))) rfl (gc (kd (p:=y37=6) rfl h (λ hc h=> ?_) (λ hc h=> ?_))))))
    .refine sr (qa (.exact (.slice none 0 0)) rfl (gd (qm (.xs a0) rfl ?_)))
     obtain⟨y38,l,h⟩:=zae h
     refine gq (zal (m_ref16_Offers_ok _ _ l) func94 (by kernel_rfl) (lc lf ln) (qa (.row 2 zbg y38) rfl (gc (zcb h (λ(c:List (Int×(List UInt8))) (v9_j39:Value)=>(pt AF0 9 (.exact v9_j39))) (λ(c:List (Int×(List UInt8))) (v9_j39:Value)=>[vecT Tryz.prog 120 2 zag v9_j39 c]) (λ k39 h=> ?_) (λ c v9_j39 h=> ?_)))))
     .refine sr (qa (.xi 0) rfl (gc (zaq (zcz (m_ref18_Combine_L4 y38 k39) (m_ref18_Combine_B4 y38 k39) (λ _ _=>rfl) (λ m _ _=>rfl) h (λ(g:List (Int×(List UInt8))) (b:Int) (v9_l4:Value)=>(pt (pt (pt AF0 9 (.exact v9_l4)) 10 (.row 2 zbg y38)) 11 (.xi b))) (λ(g:List (Int×(List UInt8))) (b:Int) (v9_l4:Value)=>[vecT Tryz.prog 120 2 zag v9_l4 g]) (.slice none 0 0) ?_ (λ v g b v9_l4 h=> ?_)))))
      .refine Sub.trans (SubU.to (SubU.nilT (P:=Tryz.prog) (t:=120) (n:=2) (enc:=zag))) (s3 rfl rfl rfl)
      .unfold m_ref18_Combine_B4 at h
       refine zan (sr (qm (.xi b) rfl (qm (.row 2 zbg y38) rfl (gq (zao (by kernel_rfl) rfl (gq (zbm rfl rfl (gc (kd (p:=b<(List.length y38:Int)) rfl h (λ hc h=> ?_) (λ hc h=> ?_))))))))))
       .refine zap (zaf (zan (zaq (zck [] [(0,0),(0,1),(0,2),(0,3),(0,4),(0,5),(0,6),(0,7),(0,8),(0,9),(0,10),(0,11),(0,12),(2,13),(0,14)] hmixP (by kernel_rfl) (pq rfl (zah (av:= .exact v9_l4) rfl (pq rfl (zah (av:= .row 2 zbg y38) rfl (pq rfl (zah (av:= .xi b) rfl ?_))))))))))
        obtain⟨n61,h⟩:=zad h
        refine pq rfl (zai (by kernel_rfl) rfl rfl n61.1 n61.2 (pq rfl (zaj (o:=0) (c':=(List.drop 0 (zbg (gi y38 b)))) (by kernel_rfl) rfl rfl (pq rfl (zak (a:= .xi ((gi y38 b).1)) (by kernel_rfl) rfl rfl (pq rfl (zah (av:= .row 2 zbg y38) rfl (pq rfl (zah (av:= .xi b) rfl ?_)))))))))
        obtain⟨n62,h⟩:=zad h
        refine pq rfl (zai (by kernel_rfl) rfl rfl n62.1 n62.2 (pq rfl (zaj (o:=1) (c':=(List.drop 1 (zbg (gi y38 b)))) (by kernel_rfl) rfl rfl (pq rfl (zak (a:= .xs ((gi y38 b).2)) (by kernel_rfl) rfl rfl (pq rfl (zft (c':=zag ((gi y38 b).1,(gi y38 b).2)) (CellsAll.cons rfl CellsOf.int (CellsAll.cons rfl CellsOf.str CellsAll.nil)) rfl (lc lf (lc lf ln)) (pq rfl (zcd (n:=2) (enc:=zag) [((gi y38 b).1,(gi y38 b).2)] (CellsAll.cons rfl CellsOf.agg CellsAll.nil) rfl (by kernel_rfl) (LEss.cons (lc lf (lc lf ln)) LEss.nil) ?_)))))))))
        obtain⟨n63,h⟩:=zad h
        refine P_l rfl (zcu (by kernel_rfl) rfl rfl zfi n63 (λ v64=>pq rfl (zcj (av:= .exact v64) rfl (zcn (zau (zaf (kr (qm (.xi b) rfl (gq (zbo rfl rfl rfl (qa (.xi (i64 (b+1))) rfl (zbc (zaa ⟨_,_,v64,h,s3 rfl rfl rfl⟩)))))))))))))
       .refine zbr (zbi (zbk (zbj (zaa ⟨_,v9_l4,h,s1 rfl⟩))))
     .refine sr (qm (.exact v9_j39) rfl (qa (.exact v9_j39) rfl (gc (zbn (zde (zek ?_))))))
      obtain rfl:=oi h
      refine ke (pt AF0 6 (.row 2 zag c)) [] rfl (Sub.trans (SubU.to (SubU.freezeT (s:=6) rfl zgf)) (s1 rfl)) ⟨rfl,rfl⟩
    .refine sr (gq (zbf rfl rfl (qa (.xb (decide (y37=8))) rfl (gc (kd (p:=y37=8) rfl h (λ hc h=> ?_) (λ hc h=> ?_))))))
     .refine zan ?_
      cases h
     .refine zax h (λ(d:Bool)=>(pt (pt (pt (pt (pt AF0 0 (.xs a0)) 1 (.row 2 zag a1)) 2 (.row 2 zag a2)) 16 (.xi y37)) 63 (.xb d))) (λ(d:Bool)=>[]) (λ k65 h=> ?_) (λ d h=> ?_)
      .refine sr (gq (zbf rfl rfl (qa (.xb (decide (y37=7))) rfl (gc (kd (p:=y37=7) rfl h (λ hc h=> ?_) (λ hc h=> ?_))))))
       .refine zap (zaa ⟨_,h,so (l4 rfl rfl rfl rfl (lq rfl lt0))⟩)
       .refine kr (gq (zbf rfl rfl (qa (.xb (decide (y37=13))) rfl (zbc (zaa ⟨_,h,so (l4 rfl rfl rfl rfl (lq rfl lt0))⟩)))))
      .refine kb (p:=d) rfl h (λ hc h=> ?_) (λ hc h=> ?_)
       .refine zan ?_
        cases h
       .refine zax h (λ(e:Bool)=>(pt (pt (pt (pt (pt AF0 0 (.xs a0)) 1 (.row 2 zag a1)) 2 (.row 2 zag a2)) 16 (.xi y37)) 70 (.xb e))) (λ(e:Bool)=>[]) (λ k66 h=> ?_) (λ e h=> ?_)
        .refine sr (gq (zbf rfl rfl (qa (.xb (decide (y37=9))) rfl (gc (kd (p:=y37=9) rfl h (λ hc h=> ?_) (λ hc h=> ?_))))))
         .refine zap (zaa ⟨_,h,so (l4 rfl rfl rfl rfl (lq rfl lt0))⟩)
         .refine sr (gq (zbf rfl rfl (qa (.xb (decide (y37=10))) rfl (gc (kd (p:=y37=10) rfl h (λ hc h=> ?_) (λ hc h=> ?_))))))
          .refine zap (zaa ⟨_,h,so (l4 rfl rfl rfl rfl (lq rfl lt0))⟩)
          .refine sr (gq (zbf rfl rfl (qa (.xb (decide (y37=11))) rfl (gc (kd (p:=y37=11) rfl h (λ hc h=> ?_) (λ hc h=> ?_))))))
           .refine zap (zaa ⟨_,h,so (l4 rfl rfl rfl rfl (lq rfl lt0))⟩)
           .refine kr (gq (zbf rfl rfl (qa (.xb (decide (y37=12))) rfl (zbc (zaa ⟨_,h,so (l4 rfl rfl rfl rfl (lq rfl lt0))⟩)))))
        .refine kb (p:=e) rfl h (λ hc h=> ?_) (λ hc h=> ?_)
         .refine zan ?_
          cases h
         .refine zax h (λ(f:Bool)=>(pt (pt (pt (pt AF0 0 (.xs a0)) 1 (.row 2 zag a1)) 2 (.row 2 zag a2)) 79 (.xb f))) (λ(f:Bool)=>[]) (λ k67 h=> ?_) (λ f h=> ?_)
          .refine sr (gq (zbf rfl rfl (qa (.xb (decide (y37=16))) rfl (gc (kd (p:=y37=16) rfl h (λ hc h=> ?_) (λ hc h=> ?_))))))
           .refine zap (zaa ⟨_,h,s4 rfl rfl rfl rfl⟩)
           .refine sr (gq (zbf rfl rfl (qa (.xb (decide (y37=17))) rfl (gc (kd (p:=y37=17) rfl h (λ hc h=> ?_) (λ hc h=> ?_))))))
            .refine zap (zaa ⟨_,h,s4 rfl rfl rfl rfl⟩)
            .refine kr (gq (zbf rfl rfl (qa (.xb (decide (y37=20))) rfl (zbc (zaa ⟨_,h,s4 rfl rfl rfl rfl⟩)))))
          .refine kb (p:=f) rfl h (λ hc h=> ?_) (λ hc h=> ?_)
           .refine sr (qm (.xs a0) rfl (qm (.row 2 zag a1) rfl (qm (.row 2 zag a2) rfl ?_)))
            obtain⟨y68,q,h⟩:=zae h
            refine gq (zal (m_ref18_parallel_ok _ _ _ _ q) func151 (by kernel_rfl) (lc lf (lc lf (lc lf ln))) (qa (.row 2 zag y68) rfl (gc (zbn (zde (zek ?_))))))
            obtain rfl:=oi h
            refine ke (pt AF0 6 (.row 2 zag y68)) [] rfl (s1 rfl) ⟨rfl,rfl⟩
           .refine zap (zau (zaa ⟨h,s2 rfl rfl⟩))
 .refine sr (qm (.xs a0) rfl (qm (.row 2 zag a1) rfl ?_))
  obtain⟨y69,u,h⟩:=zae h
  refine gq (zal (m_ref18_unary_ok _ _ _ u) func152 (by kernel_rfl) (lc lf (lc lf ln)) (qa (.row 2 zag y69) rfl (gc (zbn ?_))))
  obtain rfl:=oi h
  refine ke (pt AF0 6 (.row 2 zag y69)) [] rfl (s1 rfl) ⟨rfl,rfl⟩
theorem m_ref18_less_ok (a0:Int×(List UInt8)) (a1:Int×(List UInt8)) (r:Bool) (h:m_ref18_less a0 a1=some r):Pure Tryz.prog 190 [(.agg (zag a0)),(.agg (zag a1))] (.exact (.bool r)):=by
 unfold m_ref18_less at h
 refine Pure.ofFun (zam func190 rfl ntmps190 (by simp) rfl (res1 rfl) λ E hE=>zca (sr (gq (zfe (c:=zag a0) rfl CellsOf.agg (gq (zfe (c:=zag a1) rfl CellsOf.agg (qa (.xb false) rfl (gc (zan ?_)))))))))
 cases h
end
noncomputable section
open Go.RowKit
attribute [local irreducible] AV.exact AV.top AV.row AV.ptr AV.agg AV.tup AV.eptr AV.fn AV.nilq AV.nilqn opA opB opM opR Quiet Loud Reads wpG awp den Sub SubU Pure Fun vecI vecT boxI CellsAll CellsOf OneC LEs LEss
set_option maxRecDepth 100000
set_option maxHeartbeats 4000000
theorem m_ref18_Sorted_ok (a0:List (Int×(List UInt8))) (r:(List (Int×(List UInt8)))) (h:m_ref18_Sorted a0=some r):Pure Tryz.prog 147 [(.row 2 zag a0)] (.row 2 zag r):=by
 unfold m_ref18_Sorted at h
 refine Pure.ofFun (zam func147 rfl ntmps147 (by simp) rfl (res1 rfl) λ E hE=>zca (sr (qa (.exact (.slice none 0 0)) rfl (gd (qa (.exact (.slice none 0 0)) rfl (gc (zcb h (λ(e:List (Int×(List UInt8))) (v3_j1:Value)=>(pt AF0 3 (.exact v3_j1))) (λ(e:List (Int×(List UInt8))) (v3_j1:Value)=>[vecT Tryz.prog 120 2 zag v3_j1 e]) (λ k1 h=> ?_) (λ e v3_j1 h=> ?_))))))))
 .refine sr (qa (.xi 0) rfl (gc (zaq (zcz (m_ref18_Sorted_L14 a0 k1) (m_ref18_Sorted_B14 a0 k1) (λ _ _=>rfl) (λ m _ _=>rfl) h (λ(d:List (Int×(List UInt8))) (c:Int) (v3_l14:Value)=>(pt (pt (pt AF0 0 (.row 2 zag a0)) 3 (.exact v3_l14)) 4 (.xi c))) (λ(d:List (Int×(List UInt8))) (c:Int) (v3_l14:Value)=>[vecT Tryz.prog 120 2 zag v3_l14 d]) (.slice none 0 0) ?_ (λ l d c v3_l14 h=> ?_)))))
  .refine Sub.trans (SubU.to (SubU.nilT (P:=Tryz.prog) (t:=120) (n:=2) (enc:=zag))) (s3 rfl rfl rfl)
  .unfold m_ref18_Sorted_B14 at h
   refine zan (sr (qm (.xi c) rfl (qm (.row 2 zag a0) rfl (gq (zao (by kernel_rfl) rfl (gq (zbm rfl rfl (gc (kd (p:=c<(List.length a0:Int)) rfl h (λ hc h=> ?_) (λ hc h=> ?_))))))))))
   .refine zap (zaf (zcb h (λ(j:List (Int×(List UInt8))) (v3_j664:Value)=>(pt (pt (pt AF0 0 (.row 2 zag a0)) 3 (.exact v3_j664)) 4 (.xi c))) (λ(j:List (Int×(List UInt8))) (v3_j664:Value)=>[vecT Tryz.prog 120 2 zag v3_j664 j]) (λ k664 h=> ?_) (λ j v3_j664 h=> ?_)))
    .refine zaq (sr (qa (.xi 0) rfl (gc (zbw h ((pt (pt (pt (pt AF0 0 (.row 2 zag a0)) 3 (.exact v3_l14)) 4 (.xi c)) 5 (.xi 0))) ([vecT Tryz.prog 120 2 zag v3_l14 d]) (λ k745 h=> ?_) (λ  h=> ?_)))))
     .refine zaq (zgs (m_ref18_Sorted_L26 a0 d c k745) (m_ref18_Sorted_B26 a0 d c k745) (λ _=>rfl) (λ m _=>rfl) h ((pt (pt (pt (pt AF0 0 (.row 2 zag a0)) 3 (.exact v3_l14)) 4 (.xi c)) 5 (.xi 0))) ([vecT Tryz.prog 120 2 zag v3_l14 d]) ?_ (λ u  h=> ?_))
      .exact s4 rfl rfl rfl rfl
      .unfold m_ref18_Sorted_B26 at h
       refine zan (zax h (λ(f:Bool)=>(pt (pt (pt (pt (pt AF0 0 (.row 2 zag a0)) 3 (.exact v3_l14)) 4 (.xi c)) 5 (.xi 0)) 26 (.xb f))) (λ(f:Bool)=>[vecT Tryz.prog 120 2 zag v3_l14 d]) (λ k800 h=> ?_) (λ f h=> ?_))
       .refine zck [] [(0,0),(0,1),(1,2),(0,3),(0,4),(0,5),(0,6),(0,9),(0,10),(0,11),(0,12),(1,7),(1,8),(0,13),(0,14)] hmixP (by kernel_rfl) (pq rfl (zah (av:= .xi 0) rfl (pq rfl (zah (av:= .exact v3_l14) rfl (P_r rfl (zcl (by kernel_rfl) rfl (pq rfl (zbm rfl rfl (pq rfl (zah (av:= .xb (decide (0<(List.length d:Int)))) rfl (zfd (p:=0<(List.length d:Int)) 16 rfl (λ hc=> ?_) (λ hc=> ?_))))))))))))
        .replace h:=zcg h hc
         refine py rfl (zah (av:= .exact v3_l14) rfl (py rfl (zah (av:= .xi 0) rfl (py rfl (zah (av:= .row 2 zag a0) rfl (py rfl (zah (av:= .xi c) rfl ?_)))))))
         obtain⟨n804,h⟩:=zad h
         refine py rfl (zai (by kernel_rfl) rfl rfl n804.1 n804.2 (py rfl (zbx (m:=2) (c':=zag (gi a0 c)) (by kernel_rfl) rfl rfl rfl ?_)))
         obtain⟨n805,h⟩:=zad h
         refine Py_r rfl rfl rfl (zbl (by kernel_rfl) rfl rfl n805.1 n805.2 (Py_r rfl rfl rfl (zet (i:=0) (o:=0) (m:=2) (c':=zag (gi d 0)) (by kernel_rfl) zgf rfl n805.1 n805.2 rfl rfl ?_)))
         obtain⟨y806,k,h⟩:=zae h
         refine py rfl (zal (m_ref18_less_ok _ _ _ k) func190 (by kernel_rfl) (lc lf (lc lf ln)) (pq rfl (zat rfl (av:= .xb y806) rfl (zcn (zaa ⟨_,h,so (l4 rfl rfl rfl rfl (lq rfl lt0))⟩)))))
        .replace h:=zcf h hc
         refine pn rfl (pn rfl (pn rfl (pn rfl (pn rfl (pn rfl (P_n zdl rfl rfl rfl (P_n zdl rfl rfl rfl (pn rfl (pq rfl (zar rfl (av:= .xb false) rfl (zcn (zaa ⟨_,h,so (l4 rfl rfl rfl rfl (lq rfl lt0))⟩))))))))))))
       .refine kb (p:=f) rfl h (λ hc h=> ?_) (λ hc h=> ?_)
        .refine zap (zaf (zaq ?_))
         cases h
        .refine zbr (zbi (zbk (zbj (zaa ⟨h,s4 rfl rfl rfl rfl⟩))))
     .refine zan (zax h (λ(g:Bool)=>(pt (pt (pt (pt (pt AF0 0 (.row 2 zag a0)) 3 (.exact v3_l14)) 4 (.xi c)) 5 (.xi 0)) 43 (.xb g))) (λ(g:Bool)=>[vecT Tryz.prog 120 2 zag v3_l14 d]) (λ k813 h=> ?_) (λ g h=> ?_))
      .refine zck [] [(0,0),(0,1),(1,2),(0,3),(0,4),(0,5),(0,6),(0,9),(0,10),(0,11),(0,12),(1,7),(1,8),(0,13),(0,14)] hmixP (by kernel_rfl) (pq rfl (zah (av:= .xi 0) rfl (pq rfl (zah (av:= .exact v3_l14) rfl (P_r rfl (zcl (by kernel_rfl) rfl (pq rfl (zbm rfl rfl (pq rfl (zah (av:= .xb (decide (0<(List.length d:Int)))) rfl (zfd (p:=0<(List.length d:Int)) 33 rfl (λ hc=> ?_) (λ hc=> ?_))))))))))))
       .replace h:=zcg h hc
        refine py rfl (zah (av:= .exact v3_l14) rfl (py rfl (zah (av:= .xi 0) rfl (py rfl (zah (av:= .row 2 zag a0) rfl (py rfl (zah (av:= .xi c) rfl ?_)))))))
        obtain⟨n816,h⟩:=zad h
        refine py rfl (zai (by kernel_rfl) rfl rfl n816.1 n816.2 (py rfl (zbx (m:=2) (c':=zag (gi a0 c)) (by kernel_rfl) rfl rfl rfl ?_)))
        obtain⟨n817,h⟩:=zad h
        refine Py_r rfl rfl rfl (zbl (by kernel_rfl) rfl rfl n817.1 n817.2 (Py_r rfl rfl rfl (zet (i:=0) (o:=0) (m:=2) (c':=zag (gi d 0)) (by kernel_rfl) zgf rfl n817.1 n817.2 rfl rfl (py rfl (op_eqlA (a:=(gi d 0)) (b:=(gi a0 c)) (by kernel_rfl) (eq_c_api_Branch _ _) rfl rfl (pq rfl (zat rfl (av:= .xb (decide ((gi d 0)=(gi a0 c)))) rfl (zcn (zaa ⟨_,h,so (l4 rfl rfl rfl rfl (lq rfl lt0))⟩)))))))))
       .replace h:=zcf h hc
        refine pn rfl (pn rfl (pn rfl (pn rfl (pn rfl (pn rfl (P_n zdl rfl rfl rfl (P_n zdl rfl rfl rfl (pn rfl (pq rfl (zar rfl (av:= .xb false) rfl (zcn (zaa ⟨_,h,so (l4 rfl rfl rfl rfl (lq rfl lt0))⟩))))))))))))
      .refine kb (p:=g) rfl h (λ hc h=> ?_) (λ hc h=> ?_)
       .refine zbr (zbi (zbj (zaa ⟨_,v3_l14,h,s3 rfl rfl rfl⟩)))
       .refine zap (zaf (sr (qm (.exact v3_l14) rfl (gq (zft (c':=zag ((0,[]):Int×(List UInt8))) CellsAll.nil rfl (lc lf (lc lf ln)) (gq (zcd (n:=2) (enc:=zag) ([((0,[]):Int×(List UInt8))]:List (Int×(List UInt8))) (CellsAll.cons rfl CellsOf.agg CellsAll.nil) rfl (by kernel_rfl) (LEss.cons (lc lf (lc lf ln)) LEss.nil) ?_)))))))
        obtain⟨n818,h⟩:=zad h
        refine G_l rfl (zcu (by kernel_rfl) rfl rfl zfi n818 (λ v819=>qa (.exact v819) rfl (gc (zan (zck [] [(0,0),(0,1),(0,2),(0,4),(0,5),(1,3),(1,6),(2,7)] hmixP (by kernel_rfl) (pq rfl (zah (av:= .exact v819) rfl (pq rfl (zah (av:= .xi 0) rfl (pq rfl (zbo rfl rfl rfl (pq rfl (zah (av:= .exact v819) rfl (pq rfl (zah (av:= .xi 0) rfl ?_)))))))))))))))
        obtain⟨n820,h⟩:=zad h
        refine P_r rfl (zeh (by kernel_rfl) rfl (zdn rfl) zdu n820.1 n820.2.1 n820.2.2 ?_)
        obtain⟨n821,h⟩:=zad h
        refine P_r rfl (zeh (by kernel_rfl) rfl (zdn rfl) zdu n821.1 n821.2.1 n821.2.2 (P_l rfl (op_copy (q:=(Nat.min (Int.toNat (List.length (d++([((0,[]):Int×(List UInt8))]:List (Int×(List UInt8)))):Int) - Int.toNat 0) (Int.toNat (List.length (d++([((0,[]):Int×(List UInt8))]:List (Int×(List UInt8)))):Int) - Int.toNat (i64 (0+1))))) (by kernel_rfl) (by kernel_rfl) zgf zfi rfl rfl (by have hh:=n820;first|omega|(simp only[i64]at hh;omega)|(simp only[i64]at hh ⊢;omega)) (by have hh:=n821;first|omega|(simp only[i64]at hh;omega)|(simp only[i64]at hh ⊢;omega)) rfl (zcn (zaf (kr (qm (.exact v819) rfl (qm (.xi 0) rfl (qm (.row 2 zag a0) rfl (qm (.xi c) rfl ?_))))))))))
        obtain⟨n822,h⟩:=zad h
        refine gq (zai (by kernel_rfl) rfl rfl n822.1 n822.2 (gq (zbx (m:=2) (c':=zag (gi a0 c)) (by kernel_rfl) rfl rfl rfl ?_)))
        obtain⟨n823,h⟩:=zad h
        refine G_r rfl (zbl (by kernel_rfl) rfl rfl n823.1 n823.2 (G_l rfl (zcm (i:=0) (o:=0) (z:=gi a0 c) (c':=[.xi ((gi a0 c).1), .xs ((gi a0 c).2)]) (by kernel_rfl) zgf rfl n823.1 n823.2 rfl CellsOf.agg (lc lf (lc lf ln)) (zfi _) (by kernel_rfl) (Nat.le_of_ble_eq_true rfl) rfl (zbc (zau (zaa ⟨_,v819,h,s3 rfl rfl rfl⟩))))))
    .refine kr (qm (.xi c) rfl (gq (zbo rfl rfl rfl (qa (.xi (i64 (c+1))) rfl (zbc (zaa ⟨_,_,v3_j664,h,s3 rfl rfl rfl⟩))))))
   .refine zbr (zbi (zbk (zbj (zaa ⟨_,v3_l14,h,s1 rfl⟩))))
 .refine sr (qm (.exact v3_j1) rfl (qa (.exact v3_j1) rfl (gc (zbn ?_))))
  obtain rfl:=oi h
  refine ke (pt AF0 2 (.row 2 zag e)) [] rfl (Sub.trans (SubU.to (SubU.freezeT (s:=2) rfl zgf)) (s1 rfl)) ⟨rfl,rfl⟩
theorem m_ref18_steps_ok (a0:(List ((List UInt8)×Int×Bool×(Int×Int)×(List (Int×Int×Int))))×(List ((List UInt8)×Int×(List Int)×(List (List UInt8))))×(List (Int×Int×Int×Int×(Int×Int)))×(List (List UInt8))) (a1:List UInt8) (a2:List (List UInt8)) (r:(List (Int×(List UInt8)))×Int) (h:m_ref18_steps a0 a1 a2=some r):Pure Tryz.prog 95 [(.agg (zcw a0)),(.exact (.string (bs a1))),(.row 1 zab a2)] (.tup [.row 2 zag r.1, .exact (.int .i64 r.2)]):=by
 unfold m_ref18_steps at h
 refine Pure.ofFun (zam func95 rfl ntmps95 (by simp) rfl (res2 rfl) λ E hE=>zca (sr (gq (zfe (c:=zcw a0) rfl CellsOf.agg (qa (.exact (.slice none 0 0)) rfl (qa (.xi 0) rfl (gd (qm (.xs a1) rfl ?_))))))))
 obtain⟨y1,d,h⟩:=zae h
 refine gq (zal (zdm _ _ d) func45 (by kernel_rfl) (lc lf ln) (qa (.xi y1) rfl (gc (zan (sr (qm (.xi y1) rfl (gq (zbf rfl rfl (gc (kd (p:=y1=5) rfl h (λ hc h=> ?_) (λ hc h=> ?_)))))))))))
 .refine zan (zan ?_)
  cases h
 .refine zap (zaf (sr (qm (.xs a1) rfl ?_)))
  obtain⟨y2,e,h⟩:=zae h
  refine gq (zal (zfb _ _ e) func49 (by kernel_rfl) (lc lf ln) (qa (.row 1 zab y2) rfl (gd (qa (.exact (.slice none 0 0)) rfl (qa (.exact (.slice none 0 0)) rfl (gd (qa (.xi 0) rfl (gc (zan (sr (qm (.xi y1) rfl ?_)))))))))))
  obtain⟨y5,f,h⟩:=zae h
  refine gq (zal (m_ref18_need_ok _ _ f) func146 (by kernel_rfl) (lc lf ln) (gq (zgm rfl rfl (gc (kd (p:=1≤y5) rfl h (λ hc h=> ?_) (λ hc h=> ?_))))))
  .refine zan ?_
   cases h
  .refine zap (zaf (zan (sr (qm (.xi y1) rfl ?_))))
   obtain⟨y8,g,h⟩:=zae h
   refine gq (zal (m_ref18_need_ok _ _ g) func146 (by kernel_rfl) (lc lf ln) (gq (zbf rfl rfl (gc (kd (p:=y8=2) rfl h (λ hc h=> ?_) (λ hc h=> ?_))))))
   .refine zan ?_
    cases h
   .refine zap (zaf (sr (qm (.xs a1) rfl (qm (.exact (.slice none 0 0)) rfl (qm (.exact (.slice none 0 0)) rfl ?_)))))
    obtain⟨y9,i,h⟩:=zae h
    refine gq (zal (zeu _ _ _ _ i) func101 (by kernel_rfl) (lc lf (lc (zcy (by decide)) (lc (zcy (by decide)) ln))) (qa (.row 2 zag y9) rfl (gc (zbw h ((pt AF0 15 (.row 2 zag y9))) ([]) (λ k10 h=> ?_) (λ  h=> ?_)))))
    .refine sr (qa (.xi 0) rfl (gc (zaq (zcr (m_ref18_steps_L2 y9 k10) (m_ref18_steps_B2 y9 k10) (λ _=>rfl) (λ m _=>rfl) h (λ(b:Int)=>(pt (pt AF0 15 (.row 2 zag y9)) 16 (.xi b))) (λ(b:Int)=>[]) ?_ (λ k b h=> ?_)))))
     .exact s2 rfl rfl
     .unfold m_ref18_steps_B2 at h
      refine zan (sr (qm (.xi b) rfl (qm (.row 2 zag y9) rfl (gq (zao (by kernel_rfl) rfl (gq (zbm rfl rfl (gc (kd (p:=b<(List.length y9:Int)) rfl h (λ hc h=> ?_) (λ hc h=> ?_))))))))))
      .refine zap (zaf (zan (zaq (sr (qm (.row 2 zag y9) rfl (qm (.xi b) rfl ?_))))))
       obtain⟨n17,h⟩:=zad h
       refine gq (zai (by kernel_rfl) rfl rfl n17.1 n17.2 (gq (zaj (o:=1) (c':=(List.drop 1 (zag (gi y9 b)))) (by kernel_rfl) rfl rfl (gq (zak (a:= .xs ((gi y9 b).2)) (by kernel_rfl) rfl rfl (gq (op_eqlS rfl rfl (gc (kd (p:=((gi y9 b).2)=([]:List UInt8)) rfl h (λ hc h=> ?_) (λ hc h=> ?_))))))))))
       .refine zan ?_
        cases h
       .refine zap (zau (zaf (kr (qm (.xi b) rfl (gq (zbo rfl rfl rfl (qa (.xi (i64 (b+1))) rfl (zbc (zaa ⟨_,h,s2 rfl rfl⟩)))))))))
      .refine zbr (zbi (zbk (zbj (zaa ⟨h,s1 rfl⟩))))
    .refine sr (qm (.row 2 zag y9) rfl ?_)
     obtain⟨y18,j,h⟩:=zae h
     refine gq (zal (m_ref18_Sorted_ok _ _ j) func147 (by kernel_rfl) (lc lf ln) (qa (.row 2 zag y18) rfl (gc (zan (sr (qm (.row 2 zag y18) rfl (gq (zao (by kernel_rfl) rfl (gq (zfx rfl rfl (gc (kd (p:=1024<(List.length y18:Int)) rfl h (λ hc h=> ?_) (λ hc h=> ?_)))))))))))))
     .refine zan ?_
      cases h
     .refine zap (zaf (sr (qm (.row 2 zag y18) rfl (qa (.row 2 zag y18) rfl (qa (.xi 0) rfl (gc (zbn ?_)))))))
      obtain rfl:=oi h
      refine ke (pt (pt AF0 6 (.row 2 zag y18)) 7 (.xi 0)) [] rfl (s2 rfl rfl) ⟨rfl,rfl⟩
theorem m_ref18_Steps_ok (a0:(List ((List UInt8)×Int×Bool×(Int×Int)×(List (Int×Int×Int))))×(List ((List UInt8)×Int×(List Int)×(List (List UInt8))))×(List (Int×Int×Int×Int×(Int×Int)))×(List (List UInt8))) (a1:List UInt8) (r:(List (Int×(List UInt8)))×Int) (h:m_ref18_Steps a0 a1=some r):Pure Tryz.prog 52 [(.agg (zcw a0)),(.exact (.string (bs a1)))] (.tup [.row 2 zag r.1, .exact (.int .i64 r.2)]):=by
 unfold m_ref18_Steps at h
 refine Pure.ofFun (zam func52 rfl ntmps52 (by simp) rfl (res2 rfl) λ E hE=>zca (sr (gq (zfe (c:=zcw a0) rfl CellsOf.agg (qa (.exact (.slice none 0 0)) rfl (qa (.xi 0) rfl (gc (zan (sr (qm (.xs a1) rfl ?_))))))))))
 obtain⟨y1,a,h⟩:=zae h
 refine gq (zal (zfj _ _ a) func17 (by kernel_rfl) (lc lf ln) (gq (zdh rfl (gc (kb (p:= !y1) rfl h (λ hc h=> ?_) (λ hc h=> ?_))))))
 .refine zan ?_
  cases h
 .refine zap (zaf (sr (gq (zbx (m:=4) (c':=zcw a0) (by kernel_rfl) rfl rfl rfl (qm (.xs a1) rfl ?_)))))
  obtain⟨y2,b,h⟩:=zae h
  refine gq (zal (m_ref18_steps_ok _ _ _ _ b) func95 (by kernel_rfl) (lc lf (lc lf (lc (zcy (by decide)) ln))) (gq (zbq (av:= .row 2 zag y2.1) rfl rfl (gq (zbq (av:= .xi y2.2) rfl rfl (qa (.row 2 zag y2.1) rfl (qa (.xi y2.2) rfl (gc (zbn ?_)))))))))
  obtain rfl:=oi h
  refine ke (pt (pt AF0 4 (.row 2 zag y2.1)) 5 (.xi y2.2)) [] rfl (s2 rfl rfl) ⟨rfl,rfl⟩
theorem m_ref18_Before_ok (a0:Int×Int) (a1:Int×Int) (r:Bool) (h:m_ref18_Before a0 a1=some r):Pure Tryz.prog 96 [(.agg (zbp a0)),(.agg (zbp a1))] (.exact (.bool r)):=by
 unfold m_ref18_Before at h
 refine Pure.ofFun (zam func96 rfl ntmps96 (by simp) rfl (res1 rfl) λ E hE=>zca (zan ?_))
 cases h
theorem m_ref18_Arcs_ok (a0:List (Int×Int)) (r:(List (Int×Int))) (h:m_ref18_Arcs a0=some r):Pure Tryz.prog 53 [(.row 2 zbp a0)] (.row 2 zbp r):=by
 unfold m_ref18_Arcs at h
 refine Pure.ofFun (zam func53 rfl ntmps53 (by simp) rfl (res1 rfl) λ E hE=>zca (sr (qa (.exact (.slice none 0 0)) rfl (gd (qa (.exact (.slice none 0 0)) rfl (gc (zcb h (λ(e:List (Int×Int)) (v3_j1:Value)=>(pt AF0 3 (.exact v3_j1))) (λ(e:List (Int×Int)) (v3_j1:Value)=>[vecT Tryz.prog 123 2 zbp v3_j1 e]) (λ k1 h=> ?_) (λ e v3_j1 h=> ?_))))))))
 .refine sr (qa (.xi 0) rfl (gc (zaq (zcz (m_ref18_Arcs_L14 a0 k1) (m_ref18_Arcs_B14 a0 k1) (λ _ _=>rfl) (λ m _ _=>rfl) h (λ(d:List (Int×Int)) (c:Int) (v3_l14:Value)=>(pt (pt (pt AF0 0 (.row 2 zbp a0)) 3 (.exact v3_l14)) 4 (.xi c))) (λ(d:List (Int×Int)) (c:Int) (v3_l14:Value)=>[vecT Tryz.prog 123 2 zbp v3_l14 d]) (.slice none 0 0) ?_ (λ l d c v3_l14 h=> ?_)))))
  .refine Sub.trans (SubU.to (SubU.nilT (P:=Tryz.prog) (t:=123) (n:=2) (enc:=zbp))) (s3 rfl rfl rfl)
  .unfold m_ref18_Arcs_B14 at h
   refine zan (sr (qm (.xi c) rfl (qm (.row 2 zbp a0) rfl (gq (zao (by kernel_rfl) rfl (gq (zbm rfl rfl (gc (kd (p:=c<(List.length a0:Int)) rfl h (λ hc h=> ?_) (λ hc h=> ?_))))))))))
   .refine zap (zaf (zcb h (λ(j:List (Int×Int)) (v3_j664:Value)=>(pt (pt (pt AF0 0 (.row 2 zbp a0)) 3 (.exact v3_j664)) 4 (.xi c))) (λ(j:List (Int×Int)) (v3_j664:Value)=>[vecT Tryz.prog 123 2 zbp v3_j664 j]) (λ k664 h=> ?_) (λ j v3_j664 h=> ?_)))
    .refine zaq (sr (qa (.xi 0) rfl (gc (zbw h ((pt (pt (pt (pt AF0 0 (.row 2 zbp a0)) 3 (.exact v3_l14)) 4 (.xi c)) 5 (.xi 0))) ([vecT Tryz.prog 123 2 zbp v3_l14 d]) (λ k745 h=> ?_) (λ  h=> ?_)))))
     .refine zaq (zgs (m_ref18_Arcs_L26 a0 d c k745) (m_ref18_Arcs_B26 a0 d c k745) (λ _=>rfl) (λ m _=>rfl) h ((pt (pt (pt (pt AF0 0 (.row 2 zbp a0)) 3 (.exact v3_l14)) 4 (.xi c)) 5 (.xi 0))) ([vecT Tryz.prog 123 2 zbp v3_l14 d]) ?_ (λ u  h=> ?_))
      .exact s4 rfl rfl rfl rfl
      .unfold m_ref18_Arcs_B26 at h
       refine zan (zax h (λ(f:Bool)=>(pt (pt (pt (pt (pt AF0 0 (.row 2 zbp a0)) 3 (.exact v3_l14)) 4 (.xi c)) 5 (.xi 0)) 26 (.xb f))) (λ(f:Bool)=>[vecT Tryz.prog 123 2 zbp v3_l14 d]) (λ k800 h=> ?_) (λ f h=> ?_))
       .refine zck [] [(0,0),(0,1),(1,2),(0,3),(0,4),(0,5),(0,6),(0,9),(0,10),(0,11),(0,12),(1,7),(1,8),(0,13),(0,14)] hmixP (by kernel_rfl) (pq rfl (zah (av:= .xi 0) rfl (pq rfl (zah (av:= .exact v3_l14) rfl (P_r rfl (zcl (by kernel_rfl) rfl (pq rfl (zbm rfl rfl (pq rfl (zah (av:= .xb (decide (0<(List.length d:Int)))) rfl (zfd (p:=0<(List.length d:Int)) 16 rfl (λ hc=> ?_) (λ hc=> ?_))))))))))))
        .replace h:=zcg h hc
         refine py rfl (zah (av:= .exact v3_l14) rfl (py rfl (zah (av:= .xi 0) rfl (py rfl (zah (av:= .row 2 zbp a0) rfl (py rfl (zah (av:= .xi c) rfl ?_)))))))
         obtain⟨n804,h⟩:=zad h
         refine py rfl (zai (by kernel_rfl) rfl rfl n804.1 n804.2 (py rfl (zbx (m:=2) (c':=zbp (gi a0 c)) (by kernel_rfl) rfl rfl rfl ?_)))
         obtain⟨n805,h⟩:=zad h
         refine Py_r rfl rfl rfl (zbl (by kernel_rfl) rfl rfl n805.1 n805.2 (Py_r rfl rfl rfl (zet (i:=0) (o:=0) (m:=2) (c':=zbp (gi d 0)) (by kernel_rfl) len_c_api_Arc rfl n805.1 n805.2 rfl rfl ?_)))
         obtain⟨y806,k,h⟩:=zae h
         refine py rfl (zal (m_ref18_Before_ok _ _ _ k) func96 (by kernel_rfl) (lc lf (lc lf ln)) (pq rfl (zat rfl (av:= .xb y806) rfl (zcn (zaa ⟨_,h,so (l4 rfl rfl rfl rfl (lq rfl lt0))⟩)))))
        .replace h:=zcf h hc
         refine pn rfl (pn rfl (pn rfl (pn rfl (pn rfl (pn rfl (P_n zdl rfl rfl rfl (P_n zdl rfl rfl rfl (pn rfl (pq rfl (zar rfl (av:= .xb false) rfl (zcn (zaa ⟨_,h,so (l4 rfl rfl rfl rfl (lq rfl lt0))⟩))))))))))))
       .refine kb (p:=f) rfl h (λ hc h=> ?_) (λ hc h=> ?_)
        .refine zap (zaf (zaq ?_))
         cases h
        .refine zbr (zbi (zbk (zbj (zaa ⟨h,s4 rfl rfl rfl rfl⟩))))
     .refine zan (zax h (λ(g:Bool)=>(pt (pt (pt (pt (pt AF0 0 (.row 2 zbp a0)) 3 (.exact v3_l14)) 4 (.xi c)) 5 (.xi 0)) 43 (.xb g))) (λ(g:Bool)=>[vecT Tryz.prog 123 2 zbp v3_l14 d]) (λ k813 h=> ?_) (λ g h=> ?_))
      .refine zck [] [(0,0),(0,1),(1,2),(0,3),(0,4),(0,5),(0,6),(0,9),(0,10),(0,11),(0,12),(1,7),(1,8),(0,13),(0,14)] hmixP (by kernel_rfl) (pq rfl (zah (av:= .xi 0) rfl (pq rfl (zah (av:= .exact v3_l14) rfl (P_r rfl (zcl (by kernel_rfl) rfl (pq rfl (zbm rfl rfl (pq rfl (zah (av:= .xb (decide (0<(List.length d:Int)))) rfl (zfd (p:=0<(List.length d:Int)) 33 rfl (λ hc=> ?_) (λ hc=> ?_))))))))))))
       .replace h:=zcg h hc
        refine py rfl (zah (av:= .exact v3_l14) rfl (py rfl (zah (av:= .xi 0) rfl (py rfl (zah (av:= .row 2 zbp a0) rfl (py rfl (zah (av:= .xi c) rfl ?_)))))))
        obtain⟨n816,h⟩:=zad h
        refine py rfl (zai (by kernel_rfl) rfl rfl n816.1 n816.2 (py rfl (zbx (m:=2) (c':=zbp (gi a0 c)) (by kernel_rfl) rfl rfl rfl ?_)))
        obtain⟨n817,h⟩:=zad h
        refine Py_r rfl rfl rfl (zbl (by kernel_rfl) rfl rfl n817.1 n817.2 (Py_r rfl rfl rfl (zet (i:=0) (o:=0) (m:=2) (c':=zbp (gi d 0)) (by kernel_rfl) len_c_api_Arc rfl n817.1 n817.2 rfl rfl (py rfl (op_eqlA (a:=(gi d 0)) (b:=(gi a0 c)) (by kernel_rfl) (eq_c_api_Arc _ _) rfl rfl (pq rfl (zat rfl (av:= .xb (decide ((gi d 0)=(gi a0 c)))) rfl (zcn (zaa ⟨_,h,so (l4 rfl rfl rfl rfl (lq rfl lt0))⟩)))))))))
       .replace h:=zcf h hc
        refine pn rfl (pn rfl (pn rfl (pn rfl (pn rfl (pn rfl (P_n zdl rfl rfl rfl (P_n zdl rfl rfl rfl (pn rfl (pq rfl (zar rfl (av:= .xb false) rfl (zcn (zaa ⟨_,h,so (l4 rfl rfl rfl rfl (lq rfl lt0))⟩))))))))))))
      .refine kb (p:=g) rfl h (λ hc h=> ?_) (λ hc h=> ?_)
       .refine zbr (zbi (zbj (zaa ⟨_,v3_l14,h,s3 rfl rfl rfl⟩)))
       .refine zap (zaf (sr (qm (.exact v3_l14) rfl (gq (zft (c':=zbp (0,0)) CellsAll.nil rfl (lc lf (lc lf ln)) (gq (zcd (n:=2) (enc:=zbp) [(0,0)] (CellsAll.cons rfl CellsOf.agg CellsAll.nil) rfl (by kernel_rfl) (LEss.cons (lc lf (lc lf ln)) LEss.nil) ?_)))))))
        obtain⟨n818,h⟩:=zad h
        refine G_l rfl (zcu (by kernel_rfl) rfl rfl oc_c_api_Arc n818 (λ v819=>qa (.exact v819) rfl (gc (zan (zck [] [(0,0),(0,1),(0,2),(0,4),(0,5),(1,3),(1,6),(2,7)] hmixP (by kernel_rfl) (pq rfl (zah (av:= .exact v819) rfl (pq rfl (zah (av:= .xi 0) rfl (pq rfl (zbo rfl rfl rfl (pq rfl (zah (av:= .exact v819) rfl (pq rfl (zah (av:= .xi 0) rfl ?_)))))))))))))))
        obtain⟨n820,h⟩:=zad h
        refine P_r rfl (zeh (by kernel_rfl) rfl (zdn rfl) zdu n820.1 n820.2.1 n820.2.2 ?_)
        obtain⟨n821,h⟩:=zad h
        refine P_r rfl (zeh (by kernel_rfl) rfl (zdn rfl) zdu n821.1 n821.2.1 n821.2.2 (P_l rfl (op_copy (q:=(Nat.min (Int.toNat (List.length (d++[(0,0)]):Int) - Int.toNat 0) (Int.toNat (List.length (d++[(0,0)]):Int) - Int.toNat (i64 (0+1))))) (by kernel_rfl) (by kernel_rfl) len_c_api_Arc oc_c_api_Arc rfl rfl (by have hh:=n820;first|omega|(simp only[i64]at hh;omega)|(simp only[i64]at hh ⊢;omega)) (by have hh:=n821;first|omega|(simp only[i64]at hh;omega)|(simp only[i64]at hh ⊢;omega)) rfl (zcn (zaf (kr (qm (.exact v819) rfl (qm (.xi 0) rfl (qm (.row 2 zbp a0) rfl (qm (.xi c) rfl ?_))))))))))
        obtain⟨n822,h⟩:=zad h
        refine gq (zai (by kernel_rfl) rfl rfl n822.1 n822.2 (gq (zbx (m:=2) (c':=zbp (gi a0 c)) (by kernel_rfl) rfl rfl rfl ?_)))
        obtain⟨n823,h⟩:=zad h
        refine G_r rfl (zbl (by kernel_rfl) rfl rfl n823.1 n823.2 (G_l rfl (zcm (i:=0) (o:=0) (z:=gi a0 c) (c':=[.xi ((gi a0 c).1), .xi ((gi a0 c).2)]) (by kernel_rfl) len_c_api_Arc rfl n823.1 n823.2 rfl CellsOf.agg (lc lf (lc lf ln)) (oc_c_api_Arc _) (by kernel_rfl) (Nat.le_of_ble_eq_true rfl) rfl (zbc (zau (zaa ⟨_,v819,h,s3 rfl rfl rfl⟩))))))
    .refine kr (qm (.xi c) rfl (gq (zbo rfl rfl rfl (qa (.xi (i64 (c+1))) rfl (zbc (zaa ⟨_,_,v3_j664,h,s3 rfl rfl rfl⟩))))))
   .refine zbr (zbi (zbk (zbj (zaa ⟨_,v3_l14,h,s1 rfl⟩))))
 .refine sr (qm (.exact v3_j1) rfl (qa (.exact v3_j1) rfl (gc (zbn ?_))))
  obtain rfl:=oi h
  refine ke (pt AF0 2 (.row 2 zbp e)) [] rfl (Sub.trans (SubU.to (SubU.freezeT (s:=2) rfl len_c_api_Arc)) (s1 rfl)) ⟨rfl,rfl⟩
theorem m_ref18_Explore_ok (a0:(List ((List UInt8)×Int×Bool×(Int×Int)×(List (Int×Int×Int))))×(List ((List UInt8)×Int×(List Int)×(List (List UInt8))))×(List (Int×Int×Int×Int×(Int×Int)))×(List (List UInt8))) (a1:List UInt8) (a2:Int) (r:(List (List (Int×Int)))×(List (List UInt8))×Int×Int) (h:m_ref18_Explore a0 a1 a2=some r):Pure Tryz.prog 23 [(.agg (zcw a0)),(.exact (.string (bs a1))),(.exact (.int .i64 a2))] (.tup [.agg (zef r.1), .row 1 zab r.2.1, .exact (.int .i64 r.2.2.1), .exact (.int .i64 r.2.2.2)]):=by
 unfold m_ref18_Explore at h
 refine Pure.ofFun (fun_of_awp_mix func23 rfl ntmps23 (by simp) (mix4 rfl) λ E hE=>zca (sr (gq (zfe (c:=zcw a0) rfl CellsOf.agg (G_l rfl (zel (c:=[.exact (.slice none 0 0)]) rfl (lc lf ln) (λ b1=>qa (.exact (.slice none 0 0)) rfl (qa (.xi 0) rfl (qa (.xi 0) rfl (gc (zan (zax h (λ(A:Bool)=>(pt (pt (pt (pt (pt AF0 1 (.xs a1)) 2 (.xi a2)) 3 (.ptr (zcw a0))) 6 (pA b1 0)) 31 (.xb A))) (λ(A:Bool)=>[boxI 76 b1 [.exact (.slice none 0 0)]]) (λ k6 h=> ?_) (λ A h=> ?_)))))))))))))
 .refine kr (qm (.xi a2) rfl (gq (zbm rfl rfl (qm (.xb (decide (a2<1))) rfl (zcc (p:=a2<1) 23 rfl (λ hc=> ?_) (λ hc=> ?_))))))
  .replace h:=zcg h hc
   refine gn (gn (gq (zat rfl (av:= .xb true) rfl (qm (.xb true) rfl (gn (gn (gn (gq (zat rfl (av:= .xb true) rfl (zbc (zaa ⟨_,h,so (l4 rfl rfl rfl rfl (lq rfl lt0))⟩)))))))))))
  .replace h:=zcf h hc
   refine gy (zah (av:= .xi a2) rfl (gy (zfx rfl rfl (gq (zar rfl (av:= .xb (decide (16384<a2))) rfl (qm (.xb (decide (16384<a2))) rfl (zcc (p:=16384<a2) 27 rfl (λ hc=> ?_) (λ hc=> ?_))))))))
   .replace h:=zcg h hc
    refine gn (gn (gn (gq (zat rfl (av:= .xb true) rfl (zbc (zaa ⟨_,h,so (l4 rfl rfl rfl rfl (lq rfl lt0))⟩))))))
   .replace h:=zcf h hc
    refine gy (zah (av:= .xs a1) rfl ?_)
    obtain⟨y8,N,h⟩:=zae h
    refine gy (zal (zfj _ _ N) func17 (by kernel_rfl) (lc lf ln) (gy (zdh rfl (gq (zar rfl (av:= .xb (!y8)) rfl (zbc (zaa ⟨_,h,so (l4 rfl rfl rfl rfl (lq rfl lt0))⟩)))))))
 .refine kb (p:=A) rfl h (λ hc h=> ?_) (λ hc h=> ?_)
  .refine zan ?_
   cases h
  .refine zap (zaf (sr (G_l rfl (op_mnew (V:=(λ _=>True)) (kv:=(λ k:List UInt8=> .string (bs k))) (vv:=(λ x:Int=> .xi x)) (λ b9=>qm (.xs a1) rfl (G_l rfl (op_minsert (z:=0) (keyOk_strk underlying42) (λ _ _ _=>trivial) underlying119 rfl (keyAV_strk rfl) lf (qm (.exact (.map (some b9))) rfl (qa (.exact (.map (some b9))) rfl (gd (qm (.xs a1) rfl (G_l rfl (op_litI (n:=1) (enc:=zab) [a1] (by kernel_rfl) (CellsAll.cons rfl CellsOf.str CellsAll.nil) rfl (by kernel_rfl) (LEss.cons (lc lf ln) LEss.nil) (λ v10=>qa (.exact v10) rfl (gd (G_l rfl (zel (c:=[.exact (.slice none 0 0)]) rfl (lc lf ln) (λ b11=>gd (qa (.xi 0) rfl (gc (k_join2_2 h (λ(B:List (List UInt8)) (g:List (List (Int×Int))) (v11_j12:Value) (v12_0_j12:Value)=>(pt (pt (pt AF0 6 (pA b1 0)) 11 (.exact v11_j12)) 12 (pA b11 0))) (λ(B:List (List UInt8)) (g:List (List (Int×Int))) (v11_j12:Value) (v12_0_j12:Value)=>[boxI 76 b1 [.exact (.slice none 0 0)],vecT Tryz.prog 36 1 zab v11_j12 B,vecT Tryz.prog 74 1 zby v12_0_j12 g,boxI 76 b11 [.exact v12_0_j12]]) (λ k12 h=> ?_) (λ B g v11_j12 v12_0_j12 h=> ?_))))))))))))))))))))))
   .refine sr (qa (.xi 0) rfl (gc (zaq (k_loop5_2 (m_ref18_Explore_L14 a0 a2 k12) (m_ref18_Explore_B14 a0 a2 k12) (λ _ _ _ _ _=>rfl) (λ m _ _ _ _ _=>rfl) h (λ(D:List ((List UInt8)×Int)) (y:List (List UInt8)) (u:List (List (Int×Int))) (f:Int) (d:Int) (v11_l14:Value) (v12_0_l14:Value)=>(pt (pt (pt (pt (pt (pt (pt (pt AF0 2 (.xi a2)) 3 (.ptr (zcw a0))) 6 (pA b1 0)) 10 (.exact (.map (some b9)))) 11 (.exact v11_l14)) 12 (pA b11 0)) 13 (.xi f)) 14 (.xi d))) (λ(D:List ((List UInt8)×Int)) (y:List (List UInt8)) (u:List (List (Int×Int))) (f:Int) (d:Int) (v11_l14:Value) (v12_0_l14:Value)=>[boxI 76 b1 [.exact (.slice none 0 0)],mapI (λ _=>True) (λ k:List UInt8=> .string (bs k)) (λ x:Int=> .xi x) b9 D,vecT Tryz.prog 36 1 zab v11_l14 y,vecT Tryz.prog 74 1 zby v12_0_l14 u,boxI 76 b11 [.exact v12_0_l14]]) v10 (.slice none 0 0) ?_ (λ R D y u f d v11_l14 v12_0_l14 h=> ?_)))))
    .refine Sub.trans (SubU.to (SubU.nilT (P:=Tryz.prog) (t:=74) (n:=1) (enc:=zby))) (Sub.trans (SubU.to SubU.f1) (Sub.trans (SubU.to SubU.f1) (Sub.trans (SubU.to SubU.f2) (Sub.trans (SubU.to SubU.f3) (Sub.trans (SubU.to SubU.f4) (so (l4 rfl rfl rfl rfl (l4 rfl rfl rfl rfl lt0))))))))
    .unfold m_ref18_Explore_B14 at h
     refine zan (sr (qm (.xi d) rfl (qm (.exact v11_l14) rfl (G_r rfl (opR_f2 (zcl (by kernel_rfl) rfl (gq (zbm rfl rfl (gc (kd (p:=d<(List.length y:Int)) rfl h (λ hc h=> ?_) (λ hc h=> ?_)))))))))))
     .refine zap (zaf (k_join4_2 h (λ(F:List ((List UInt8)×Int)) (G:List (List UInt8)) (H:List (List (Int×Int))) (I:Int) (v11_j1719:Value) (v12_0_j1719:Value)=>(pt (pt (pt (pt (pt (pt (pt (pt AF0 2 (.xi a2)) 3 (.ptr (zcw a0))) 6 (pA b1 0)) 10 (.exact (.map (some b9)))) 11 (.exact v11_j1719)) 12 (pA b11 0)) 13 (.xi I)) 14 (.xi d))) (λ(F:List ((List UInt8)×Int)) (G:List (List UInt8)) (H:List (List (Int×Int))) (I:Int) (v11_j1719:Value) (v12_0_j1719:Value)=>[boxI 76 b1 [.exact (.slice none 0 0)],mapI (λ _=>True) (λ k:List UInt8=> .string (bs k)) (λ x:Int=> .xi x) b9 F,vecT Tryz.prog 36 1 zab v11_j1719 G,vecT Tryz.prog 74 1 zby v12_0_j1719 H,boxI 76 b11 [.exact v12_0_j1719]]) (λ k1719 h=> ?_) (λ F G H I v11_j1719 v12_0_j1719 h=> ?_)))
      .refine zaq (zan (zck [] [(0,0),(0,1),(0,2),(1,3),(1,4),(0,5),(0,6),(0,7),(0,8),(0,9),(0,10)] hmixP (by kernel_rfl) (pq rfl (zbx (m:=4) (c':=zcw a0) (by kernel_rfl) rfl rfl rfl (pq rfl (zah (av:= .exact v11_l14) rfl (pq rfl (zah (av:= .xi d) rfl ?_))))))))
       obtain⟨n1890,h⟩:=zad h
       refine P_r rfl (opR_f2 (zbl (by kernel_rfl) rfl rfl n1890.1 n1890.2 (P_r rfl (opR_f2 (zcs (i:=d) (o:=0) (a:= .xs (gi y d)) (by kernel_rfl) zbt rfl n1890.1 n1890.2 rfl ?_)))))
       obtain⟨y1891,O,h⟩:=zae h
       refine pq rfl (zal (m_ref18_Steps_ok _ _ _ O) func52 (by kernel_rfl) (lc lf (lc lf ln)) (pq rfl (zah (av:= .tup [.row 2 zag y1891.1, .xi y1891.2]) rfl (pq rfl (zbq (av:= .row 2 zag y1891.1) rfl rfl (pq rfl (zbq (av:= .xi y1891.2) rfl rfl (pq rfl (zcj (av:= .row 2 zag y1891.1) rfl (pq rfl (zcj (av:= .xi y1891.2) rfl (zcn (zaf (zan (sr (qm (.xi y1891.2) rfl (gq (zfr rfl rfl (gc (kd (p:= ¬y1891.2=0) rfl h (λ hc h=> ?_) (λ hc h=> ?_)))))))))))))))))))))
       .refine zan ?_
        cases h
       .refine zap (zaf (sr (qa (.exact (.slice none 0 0)) rfl (gc (k_join3_2 h (λ(J:List ((List UInt8)×Int)) (K:List (List UInt8)) (q:List (Int×Int)) (v11_j1892:Value) (v17_j1892:Value)=>(pt (pt (pt (pt (pt (pt (pt (pt (pt AF0 2 (.xi a2)) 3 (.ptr (zcw a0))) 6 (pA b1 0)) 10 (.exact (.map (some b9)))) 11 (.exact v11_j1892)) 12 (pA b11 0)) 13 (.xi f)) 14 (.xi d)) 17 (.exact v17_j1892))) (λ(J:List ((List UInt8)×Int)) (K:List (List UInt8)) (q:List (Int×Int)) (v11_j1892:Value) (v17_j1892:Value)=>[boxI 76 b1 [.exact (.slice none 0 0)],mapI (λ _=>True) (λ k:List UInt8=> .string (bs k)) (λ x:Int=> .xi x) b9 J,vecT Tryz.prog 36 1 zab v11_j1892 K,vecT Tryz.prog 74 1 zby v12_0_l14 u,boxI 76 b11 [.exact v12_0_l14],vecT Tryz.prog 123 2 zbp v17_j1892 q]) (λ k1892 h=> ?_) (λ J K q v11_j1892 v17_j1892 h=> ?_))))))
        .refine sr (qa (.xi 0) rfl (gc (zaq (k_loop4_2 (m_ref18_Explore_L26 a2 y1891 k1892) (m_ref18_Explore_B26 a2 y1891 k1892) (λ _ _ _ _=>rfl) (λ m _ _ _ _=>rfl) h (λ(e:List ((List UInt8)×Int)) (l:List (List UInt8)) (C:List (Int×Int)) (b:Int) (v11_l26:Value) (v17_l26:Value)=>(pt (pt (pt (pt (pt (pt (pt (pt (pt (pt (pt AF0 2 (.xi a2)) 3 (.ptr (zcw a0))) 6 (pA b1 0)) 10 (.exact (.map (some b9)))) 11 (.exact v11_l26)) 12 (pA b11 0)) 13 (.xi f)) 14 (.xi d)) 15 (.row 2 zag y1891.1)) 17 (.exact v17_l26)) 18 (.xi b))) (λ(e:List ((List UInt8)×Int)) (l:List (List UInt8)) (C:List (Int×Int)) (b:Int) (v11_l26:Value) (v17_l26:Value)=>[boxI 76 b1 [.exact (.slice none 0 0)],mapI (λ _=>True) (λ k:List UInt8=> .string (bs k)) (λ x:Int=> .xi x) b9 e,vecT Tryz.prog 36 1 zab v11_l26 l,vecT Tryz.prog 74 1 zby v12_0_l14 u,boxI 76 b11 [.exact v12_0_l14],vecT Tryz.prog 123 2 zbp v17_l26 C]) v11_l14 (.slice none 0 0) ?_ (λ S e l C b v11_l26 v17_l26 h=> ?_)))))
         .refine Sub.trans (SubU.to (SubU.nilT (P:=Tryz.prog) (t:=123) (n:=2) (enc:=zbp))) (Sub.trans (SubU.to SubU.f5) (Sub.trans (SubU.to SubU.f5) (Sub.trans (SubU.to SubU.f5) (Sub.trans (SubU.to SubU.f5) (Sub.trans (SubU.to SubU.f5) (so (l4 rfl rfl rfl rfl (l4 rfl rfl rfl rfl (lq rfl (lq rfl (lq rfl lt0)))))))))))
         .unfold m_ref18_Explore_B26 at h
          refine zan (sr (qm (.xi b) rfl (qm (.row 2 zag y1891.1) rfl (gq (zao (by kernel_rfl) rfl (gq (zbm rfl rfl (gc (kd (p:=b<(List.length y1891.1:Int)) rfl h (λ hc h=> ?_) (λ hc h=> ?_))))))))))
          .refine zap (zaf (zan (zaq (sr (qm (.exact (.map (some b9))) rfl (qm (.row 2 zag y1891.1) rfl (qm (.xi b) rfl ?_)))))))
           obtain⟨n2043,h⟩:=zad h
           refine gq (zai (by kernel_rfl) rfl rfl n2043.1 n2043.2 (gq (zaj (o:=1) (c':=(List.drop 1 (zag (gi y1891.1 b)))) (by kernel_rfl) rfl rfl (gq (zak (a:= .xs ((gi y1891.1 b).2)) (by kernel_rfl) rfl rfl (G_r rfl (op_mlook2 (z:=(0:Int)) (List.Mem.tail _ (List.Mem.head _)) (keyOk_strk underlying42) (λ _ _ _=>trivial) underlying119 (λ _ w=>⟨_,zeroValue3 w,zp_exact⟩) rfl (keyAV_strk rfl) (qm (.tup [.xi (Option.getD (lookL e ((gi y1891.1 b).2)) 0), .xb (Option.isSome (lookL e ((gi y1891.1 b).2)))]) rfl (gq (zbq (av:= .xi (Option.getD (lookL e ((gi y1891.1 b).2)) 0)) rfl rfl (gq (zbq (av:= .xb (Option.isSome (lookL e ((gi y1891.1 b).2)))) rfl rfl (qa (.xi (Option.getD (lookL e ((gi y1891.1 b).2)) 0)) rfl (qa (.xb (Option.isSome (lookL e ((gi y1891.1 b).2)))) rfl (gc (k_join3_1 h (λ(L:List ((List UInt8)×Int)) (M:List (List UInt8)) (v:Int) (v11_j2044:Value)=>(pt (pt (pt (pt (pt (pt (pt (pt (pt (pt (pt (pt AF0 2 (.xi a2)) 3 (.ptr (zcw a0))) 6 (pA b1 0)) 10 (.exact (.map (some b9)))) 11 (.exact v11_j2044)) 12 (pA b11 0)) 13 (.xi f)) 14 (.xi d)) 15 (.row 2 zag y1891.1)) 17 (.exact v17_l26)) 18 (.xi b)) 19 (.xi v))) (λ(L:List ((List UInt8)×Int)) (M:List (List UInt8)) (v:Int) (v11_j2044:Value)=>[boxI 76 b1 [.exact (.slice none 0 0)],mapI (λ _=>True) (λ k:List UInt8=> .string (bs k)) (λ x:Int=> .xi x) b9 L,vecT Tryz.prog 36 1 zab v11_j2044 M,vecT Tryz.prog 74 1 zby v12_0_l14 u,boxI 76 b11 [.exact v12_0_l14],vecT Tryz.prog 123 2 zbp v17_l26 C]) (λ k2044 h=> ?_) (λ L M v v11_j2044 h=> ?_)))))))))))))))))
           .refine sr (qm (.xb (Option.isSome (lookL e ((gi y1891.1 b).2)))) rfl (gq (zdh rfl (gc (kb (p:= !(Option.isSome (lookL e ((gi y1891.1 b).2)))) rfl h (λ hc h=> ?_) (λ hc h=> ?_))))))
            .refine sr (qm (.exact v11_l26) rfl (G_r rfl (opR_f2 (zcl (by kernel_rfl) rfl (qa (.xi (List.length l:Int)) rfl (gc (zan (sr (qm (.xi (List.length l:Int)) rfl (qm (.xi a2) rfl (gq (zgm rfl rfl (gc (kd (p:=a2≤(List.length l:Int)) rfl h (λ hc h=> ?_) (λ hc h=> ?_)))))))))))))))
             .refine zan ?_
              cases h
             .refine zap (zaf (sr (qm (.exact (.map (some b9))) rfl (qm (.row 2 zag y1891.1) rfl (qm (.xi b) rfl ?_)))))
              obtain⟨n2049,h⟩:=zad h
              refine gq (zai (by kernel_rfl) rfl rfl n2049.1 n2049.2 (gq (zaj (o:=1) (c':=(List.drop 1 (zag (gi y1891.1 b)))) (by kernel_rfl) rfl rfl (gq (zak (a:= .xs ((gi y1891.1 b).2)) (by kernel_rfl) rfl rfl (qm (.xi (List.length l:Int)) rfl (G_l rfl (opB_f1 (op_mput (z:=(List.length l:Int)) (keyOk_strk underlying42) (λ _ _ _=>trivial) underlying119 rfl (keyAV_strk rfl) lf (gc (kr (qm (.exact v11_l26) rfl (qm (.row 2 zag y1891.1) rfl (qm (.xi b) rfl ?_))))))))))))))
              obtain⟨n2050,h⟩:=zad h
              refine gq (zai (by kernel_rfl) rfl rfl n2050.1 n2050.2 (gq (zaj (o:=1) (c':=(List.drop 1 (zag (gi y1891.1 b)))) (by kernel_rfl) rfl rfl (gq (zak (a:= .xs ((gi y1891.1 b).2)) (by kernel_rfl) rfl rfl (gq (zcd (n:=1) (enc:=zab) [(gi y1891.1 b).2] (CellsAll.cons rfl CellsOf.str CellsAll.nil) rfl (by kernel_rfl) (LEss.cons (lc lf ln) LEss.nil) ?_)))))))
              obtain⟨n2051,h⟩:=zad h
              refine G_l rfl (opB_f2 (zcu (by kernel_rfl) rfl rfl zco n2051 (λ v2052=>qa (.exact v2052) rfl (zbc (zaa ⟨_,_,_,v2052,h, ?_⟩)))))
              refine Sub.trans (SubU.to SubU.f5) (Sub.trans (SubU.to SubU.f5) (Sub.trans (SubU.to SubU.f5) (Sub.trans (SubU.to SubU.f3) (Sub.trans (SubU.to SubU.f4) (Sub.trans (SubU.to SubU.f5) (so (l4 rfl rfl rfl rfl (l4 rfl rfl rfl rfl (l4 rfl rfl rfl rfl lt0)))))))))
            .refine zap (zaa ⟨_,_,_,v11_l26,h,so (l4 rfl rfl rfl rfl (l4 rfl rfl rfl rfl (l4 rfl rfl rfl rfl lt0)))⟩)
           .refine kr (qm (.exact v17_l26) rfl (qm (.row 2 zag y1891.1) rfl (qm (.xi b) rfl ?_)))
            obtain⟨n2053,h⟩:=zad h
            refine gq (zai (by kernel_rfl) rfl rfl n2053.1 n2053.2 (gq (zaj (o:=0) (c':=(List.drop 0 (zag (gi y1891.1 b)))) (by kernel_rfl) rfl rfl (gq (zak (a:= .xi ((gi y1891.1 b).1)) (by kernel_rfl) rfl rfl (qm (.xi v) rfl (gq (zft (c':=zbp ((gi y1891.1 b).1,v)) (CellsAll.cons rfl CellsOf.int (CellsAll.cons rfl CellsOf.int CellsAll.nil)) rfl (lc lf (lc lf ln)) (gq (zcd (n:=2) (enc:=zbp) [((gi y1891.1 b).1,v)] (CellsAll.cons rfl CellsOf.agg CellsAll.nil) rfl (by kernel_rfl) (LEss.cons (lc lf (lc lf ln)) LEss.nil) ?_))))))))))
            obtain⟨n2054,h⟩:=zad h
            refine G_l rfl (opB_f5 (zcu (by kernel_rfl) rfl rfl oc_c_api_Arc n2054 (λ v2055=>qa (.exact v2055) rfl (zbc (zau (zaf (kr (qm (.xi b) rfl (gq (zbo rfl rfl rfl (qa (.xi (i64 (b+1))) rfl (zbc (zaa ⟨_,_,_,_,v11_j2044,v2055,h, ?_⟩)))))))))))))
            refine Sub.trans (SubU.to SubU.f5) (Sub.trans (SubU.to SubU.f5) (Sub.trans (SubU.to SubU.f5) (Sub.trans (SubU.to SubU.f5) (Sub.trans (SubU.to SubU.f5) (so (l4 rfl rfl rfl rfl (l4 rfl rfl rfl rfl (lq rfl (lq rfl (lq rfl lt0))))))))))
          .refine zbr (zbi (zbk (zbj (zaa ⟨_,_,_,v11_l26,v17_l26,h,so (l4 rfl rfl rfl rfl (l4 rfl rfl rfl rfl (lq rfl lt0)))⟩))))
        .refine sr (qm (.xi f) rfl (qm (.exact v17_j1892) rfl (G_r rfl (opR_f5 (zcl (by kernel_rfl) rfl (gq (zbo rfl rfl rfl (qa (.xi (i64 (f+(List.length q:Int)))) rfl (gc (zan (sr (qm (.xi (i64 (f+(List.length q:Int)))) rfl (gq (zfx rfl rfl (gc (kd (p:=262144<(i64 (f+(List.length q:Int)))) rfl h (λ hc h=> ?_) (λ hc h=> ?_)))))))))))))))))
         .refine zan ?_
          cases h
         .refine zap (zaf (awp_sub (SubU.to (SubU.trans SubU.f5 (SubU.freezeT2 (s1:=17) (s2:=109) rfl rfl len_c_api_Arc))) (zck [] [(0,0),(0,2),(0,3),(0,4),(1,1),(2,5),(0,6),(2,7)] hmixP (by kernel_rfl) (pq rfl (zba (o:=0) (by kernel_rfl) rfl (pq rfl (zah (av:= .row 2 zbp q) rfl ?_)))))))
          obtain⟨y2056,Q,h⟩:=zae h
          refine pq rfl (zal (m_ref18_Arcs_ok _ _ Q) func53 (by kernel_rfl) (lc lf ln) (pq rfl (zcd (n:=1) (enc:=zby) [y2056] (CellsAll.cons rfl CellsOf.row CellsAll.nil) rfl (by kernel_rfl) (LEss.cons (lc lf ln) LEss.nil) (P_r rfl (opR_f4 (zaz (a:= .exact v12_0_l14) (by kernel_rfl) rfl rfl ?_))))))
          obtain⟨n2057,h⟩:=zad h
          refine P_l rfl (opB_f3 (zcu (by kernel_rfl) rfl rfl oc_c_L_api_Arc n2057 (λ v2058=>pq rfl (zba (o:=0) (by kernel_rfl) rfl (P_l rfl (opB_sl (List.Mem.head _) (λ hsl=>(opB_f4 (zbz (c':=[.exact v2058]) (c3:=[.exact v2058]) rfl rfl (CellsOf.sl hsl) (lc lf ln) (OneC.sl hsl OneC.nil) (by kernel_rfl) (Nat.le_of_ble_eq_true rfl) rfl (zcn (zau (zaa ⟨_,_,_,_,v11_j1892,v2058,h, ?_⟩))))))))))))
          refine Sub.trans (SubU.to SubU.f1) (Sub.trans (SubU.to SubU.f4) (Sub.trans (SubU.to SubU.f4) (Sub.trans (SubU.to SubU.f4) (so (l4 rfl rfl rfl rfl (l4 rfl rfl rfl rfl lt0))))))
      .refine kr (qm (.xi d) rfl (gq (zbo rfl rfl rfl (qa (.xi (i64 (d+1))) rfl (zbc (zaa ⟨_,_,_,_,_,v11_j1719,v12_0_j1719,h,so (l4 rfl rfl rfl rfl (l4 rfl rfl rfl rfl lt0))⟩))))))
     .refine zbr (zbi (zbk (zbj (zaa ⟨_,_,v11_l14,v12_0_l14,h, ?_⟩))))
      refine Sub.trans (SubU.to SubU.f1) (Sub.trans (SubU.to SubU.drop) (s3 rfl rfl rfl))
   .refine sr (G_sub rfl (SubU.trans (SubU.f2) (SubU.trans (SubU.know len_c_L_api_Arc) (SubU.trans (SubU.f3) (SubU.trans (SubU.f1) (SubU.trans (SubU.knowC (j:=0) (c':=[.row 1 zby g]) rfl rfl) (SubU.drop)))))) (G_r rfl (zei (m:=1) (c':=zef g) (by kernel_rfl) rfl rfl rfl (qm (.exact v11_j12) rfl (G_l rfl (opB_f1 (zbz (c':=[.row 1 zby g]) (c3:=[.row 1 zby g]) rfl rfl CellsOf.agg (lc lf ln) (oc_c_api_LTS _) (by kernel_rfl) (Nat.le_of_ble_eq_true rfl) rfl (qa (.exact v11_j12) rfl (qa (.xi 0) rfl (qa (.xi 0) rfl (gc (zbn ?_))))))))))))
    obtain rfl:=oi h
    refine kP_any (endM (af':=(pt (pt (pt (pt AF0 6 (.ptr (zef g))) 7 (.row 1 zab B)) 8 (.xi 0)) 9 (.xi 0))) (σ':=[]) (Sub.trans (SubU.to (SubU.freezeBox (s:=6) rfl)) (Sub.trans (SubU.to SubU.f1) (Sub.trans (SubU.to (SubU.freezeT (s:=7) rfl zbt)) (Sub.trans (SubU.to SubU.drop) (s4 rfl rfl rfl rfl))))) (ResIs.cell rfl (by kernel_rfl) (ResIs.tmp (ResIs.tmp (ResIs.tmp ResIs.nil)))) ⟨rfl,rfl⟩)
theorem m_ref21_performed_ok (a0:(List (List (Int×Int)))) (r:(List Int)) (h:m_ref21_performed a0=some r):Pure Tryz.prog 24 [(.agg (zef a0))] (.row 1 zav r):=by
 unfold m_ref21_performed at h
 refine Pure.ofFun (zam func24 rfl ntmps24 (by simp) rfl (res1 rfl) λ E hE=>zca (sr (gq (zfe (c:=zef a0) rfl CellsOf.agg (qa (.exact (.slice none 0 0)) rfl (gd (G_l rfl (op_allocA (f:=(λ(x:Bool)=> .xb x)) 1026 (false:Bool) (.bool false) rfl (by kernel_rfl) rfl (λ b1=>gc (zax h (λ(g:List Bool)=>(pt AF0 3 (pA b1 0))) (λ(g:List Bool)=>[boxI 130 b1 (List.map (λ(x:Bool)=> .xb x) g)]) (λ k2 h=> ?_) (λ g h=> ?_)))))))))))
 .refine sr (qa (.xi 0) rfl (gc (zaq (zey (m_ref21_performed_L8 a0 k2) (m_ref21_performed_B8 a0 k2) (λ _ _=>rfl) (λ m _ _=>rfl) h (λ(k:List Bool) (b:Int)=>(pt (pt (pt AF0 1 (.ptr (zef a0))) 3 (pA b1 0)) 4 (.xi b))) (λ(k:List Bool) (b:Int)=>[boxI 130 b1 (List.map (λ(x:Bool)=> .xb x) k)]) ?_ (λ v k b h=> ?_)))))
  .exact s3 rfl rfl rfl
  .unfold m_ref21_performed_B8 at h
   refine zan (sr (qm (.xi b) rfl (gq (zaj (o:=0) (c':=(List.drop 0 (zef a0))) (by kernel_rfl) rfl rfl (gq (zak (a:= .row 1 zby a0) (by kernel_rfl) rfl rfl (gq (zao (by kernel_rfl) rfl (gq (zbm rfl rfl (gc (kd (p:=b<(List.length a0:Int)) rfl h (λ hc h=> ?_) (λ hc h=> ?_)))))))))))))
   .refine zap (zaf (zax h (λ(l:List Bool)=>(pt (pt (pt AF0 1 (.ptr (zef a0))) 3 (pA b1 0)) 4 (.xi b))) (λ(l:List Bool)=>[boxI 130 b1 (List.map (λ(x:Bool)=> .xb x) l)]) (λ k139 h=> ?_) (λ l h=> ?_)))
    .refine zaq (sr (qa (.xi 0) rfl (gc (zaq (zey (m_ref21_performed_L14 a0 b k139) (m_ref21_performed_B14 a0 b k139) (λ _ _=>rfl) (λ m _ _=>rfl) h (λ(i:List Bool) (e:Int)=>(pt (pt (pt (pt AF0 1 (.ptr (zef a0))) 3 (pA b1 0)) 4 (.xi b)) 5 (.xi e))) (λ(i:List Bool) (e:Int)=>[boxI 130 b1 (List.map (λ(x:Bool)=> .xb x) i)]) ?_ (λ w i e h=> ?_))))))
     .exact s4 rfl rfl rfl rfl
     .unfold m_ref21_performed_B14 at h
      refine zan (sr (qm (.xi e) rfl (gq (zaj (o:=0) (c':=(List.drop 0 (zef a0))) (by kernel_rfl) rfl rfl (gq (zak (a:= .row 1 zby a0) (by kernel_rfl) rfl rfl (qm (.xi b) rfl ?_)))))))
      obtain⟨n161,h⟩:=zad h
      refine gq (zai (by kernel_rfl) rfl rfl n161.1 n161.2 (gq (zak (a:= .row 2 zbp (gi a0 b)) (by kernel_rfl) rfl rfl (gq (zao (by kernel_rfl) rfl (gq (zbm rfl rfl (gc (kd (p:=e<(List.length (gi a0 b):Int)) rfl h (λ hc h=> ?_) (λ hc h=> ?_))))))))))
      .refine zap (zaf (zan (zaq (kr (gq (zaj (o:=0) (c':=(List.drop 0 (zef a0))) (by kernel_rfl) rfl rfl (gq (zak (a:= .row 1 zby a0) (by kernel_rfl) rfl rfl (qm (.xi b) rfl ?_)))))))))
       obtain⟨n162,h⟩:=zad h
       refine gq (zai (by kernel_rfl) rfl rfl n162.1 n162.2 (gq (zak (a:= .row 2 zbp (gi a0 b)) (by kernel_rfl) rfl rfl (qm (.xi e) rfl ?_))))
       obtain⟨n163,h⟩:=zad h
       refine gq (zai (by kernel_rfl) rfl rfl n163.1 n163.2 (gq (zaj (o:=0) (c':=(List.drop 0 (zbp (gi (gi a0 b) e)))) (by kernel_rfl) rfl rfl (gq (zak (a:= .xi ((gi (gi a0 b) e).1)) (by kernel_rfl) rfl rfl ?_)))))
       obtain⟨n164,h⟩:=zad h
       refine gq (op_indexArr (m:=1026) (n:=1) (by kernel_rfl) rfl rfl n164.1 n164.2.1 (G_l rfl (zbz (c':=[.xb true]) (c3:=List.map (λ(x:Bool)=> .xb x) (List.set i (Int.toNat ((gi (gi a0 b) e).1)) true)) rfl rfl CellsOf.bool (lc lf ln) (OneC.bool OneC.nil) (by kernel_rfl) (arr_set_le n164.1 n164.2.2) (arr_set (f:=(λ(x:Bool)=> .xb x)) (z:=true) n164.1 n164.2.2) (zbc (zau (zaf (kr (qm (.xi e) rfl (gq (zbo rfl rfl rfl (qa (.xi (i64 (e+1))) rfl (zbc (zaa ⟨_,_,h,s4 rfl rfl rfl rfl⟩)))))))))))))
      .refine zbr (zbi (zbk (zbj (zau (zaa ⟨_,h,s3 rfl rfl rfl⟩)))))
    .refine kr (qm (.xi b) rfl (gq (zbo rfl rfl rfl (qa (.xi (i64 (b+1))) rfl (zbc (zaa ⟨_,_,h,s3 rfl rfl rfl⟩))))))
   .refine zbr (zbi (zbk (zbj (zaa ⟨_,h,s1 rfl⟩))))
 .refine sr (qa (.exact (.slice none 0 0)) rfl (gc (zcb h (λ(j:List Int) (v6_j165:Value)=>(pt AF0 6 (.exact v6_j165))) (λ(j:List Int) (v6_j165:Value)=>[vecT Tryz.prog 22 1 zav v6_j165 j]) (λ k165 h=> ?_) (λ j v6_j165 h=> ?_))))
  .refine sr (qa (.xi 0) rfl (gc (zaq (zcz (m_ref21_performed_L16 g k165) (m_ref21_performed_B16 g k165) (λ _ _=>rfl) (λ m _ _=>rfl) h (λ(q:List Int) (d:Int) (v6_l16:Value)=>(pt (pt (pt AF0 3 (pA b1 0)) 6 (.exact v6_l16)) 7 (.xi d))) (λ(q:List Int) (d:Int) (v6_l16:Value)=>[boxI 130 b1 (List.map (λ(x:Bool)=> .xb x) g),vecT Tryz.prog 22 1 zav v6_l16 q]) (.slice none 0 0) ?_ (λ y q d v6_l16 h=> ?_)))))
   .refine Sub.trans (SubU.to (SubU.nilT (P:=Tryz.prog) (t:=22) (n:=1) (enc:=zav))) (Sub.trans (SubU.to SubU.f1) (s3 rfl rfl rfl))
   .unfold m_ref21_performed_B16 at h
    refine zan (sr (qm (.xi d) rfl (gq (zbm rfl rfl (gc (kd (p:=d<1026) rfl h (λ hc h=> ?_) (λ hc h=> ?_)))))))
    .refine zap (zaf (zcb h (λ(u:List Int) (v6_j202:Value)=>(pt (pt (pt AF0 3 (pA b1 0)) 6 (.exact v6_j202)) 7 (.xi d))) (λ(u:List Int) (v6_j202:Value)=>[boxI 130 b1 (List.map (λ(x:Bool)=> .xb x) g),vecT Tryz.prog 22 1 zav v6_j202 u]) (λ k202 h=> ?_) (λ u v6_j202 h=> ?_)))
     .refine zaq (sr (qm (.xi d) rfl ?_))
      obtain⟨n206,h⟩:=zad h
      refine gq (op_indexArr (m:=1026) (n:=1) (by kernel_rfl) rfl rfl n206.1 n206.2.1 (G_r rfl (zaz (a:= .xb (gi g d)) (by kernel_rfl) rfl (arr_get (f:=(λ(x:Bool)=> .xb x)) n206.1 n206.2.2) (gc (kb (p:=gi g d) rfl h (λ hc h=> ?_) (λ hc h=> ?_))))))
      .refine kr (qm (.exact v6_l16) rfl (qm (.xi d) rfl (gq (zcd (n:=1) (enc:=zav) [d] (CellsAll.cons rfl CellsOf.int CellsAll.nil) rfl (by kernel_rfl) (LEss.cons (lc lf ln) LEss.nil) ?_))))
       obtain⟨n207,h⟩:=zad h
       refine G_l rfl (opB_f1 (zcu (by kernel_rfl) rfl rfl oc_c_int n207 (λ v208=>qa (.exact v208) rfl (zbc (zau (zaa ⟨_,v208,h, ?_⟩))))))
       refine Sub.trans (SubU.to SubU.f1) (s3 rfl rfl rfl)
      .refine zap (zau (zaa ⟨_,v6_l16,h,s3 rfl rfl rfl⟩))
     .refine kr (qm (.xi d) rfl (gq (zbo rfl rfl rfl (qa (.xi (i64 (d+1))) rfl (zbc (zaa ⟨_,_,v6_j202,h,s3 rfl rfl rfl⟩))))))
    .refine zbr (zbi (zbk (zbj (zaa ⟨_,v6_l16,h, ?_⟩))))
     refine Sub.trans (SubU.to SubU.drop) (s1 rfl)
  .refine sr (qm (.exact v6_j165) rfl (qa (.exact v6_j165) rfl (gc (zbn ?_))))
   obtain rfl:=oi h
   refine ke (pt AF0 2 (.row 1 zav j)) [] rfl (Sub.trans (SubU.to (SubU.freezeT (s:=2) rfl zdf)) (s1 rfl)) ⟨rfl,rfl⟩
theorem m_ref21_shaped_F_ok {w1:Value} (c:(List UInt8)->(List Bool)->Option (Bool×(List Bool))) (hself_ref21_shaped: ∀ ⦃w1:Value⦄ (a0:List UInt8) (a1:List Bool) (r:Bool×(List Bool)),c a0 a1=some r->Fun Tryz.prog 54 [(.exact (.string (bs a0))),(.exact w1)] [vecT Tryz.prog 87 1 zdk w1 a1] (λ a s=>a= .exact (.bool r.1)/\s=[vecT Tryz.prog 87 1 zdk w1 r.2])) (a0:List UInt8) (a1:List Bool) (r:Bool×(List Bool)) (h:m_ref21_shaped_F c a0 a1=some r):Fun Tryz.prog 54 [(.exact (.string (bs a0))),(.exact w1)] [vecT Tryz.prog 87 1 zdk w1 a1] (λ a s=>a= .exact (.bool r.1)/\s=[vecT Tryz.prog 87 1 zdk w1 r.2]):=by
 unfold m_ref21_shaped_F at h
 refine zam func54 rfl ntmps54 (by simp) rfl (res1 rfl) λ E hE=>zca (sr (qa (.xb false) rfl (gd (qm (.xs a0) rfl ?_))))
 obtain⟨y1,g,h⟩:=zae h
 refine gq (zal (zdm _ _ g) func45 (by kernel_rfl) (lc lf ln) (qa (.xi y1) rfl (gc (zan (zaq (sr (qm (.xi y1) rfl (gq (zbf rfl rfl (qa (.xb (decide (y1=4))) rfl (gc (kd (p:=y1=4) rfl h (λ hc h=> ?_) (λ hc h=> ?_)))))))))))))
 .refine sr (qa (.xb true) rfl (gc (zbn (zde (zdb ?_)))))
  obtain rfl:=oi h
  refine ke (pt AF0 4 (.xb true)) [vecT Tryz.prog 87 1 zdk w1 a1] rfl (s1 rfl) ⟨rfl,rfl⟩
 .refine sr (qm (.xi y1) rfl (gq (zbf rfl rfl (qa (.xb (decide (y1=21))) rfl (gc (kd (p:=y1=21) rfl h (λ hc h=> ?_) (λ hc h=> ?_)))))))
  .refine sr (qm (.xs a0) rfl ?_)
   obtain⟨y2,j,h⟩:=zae h
   refine gq (zal (zeg _ _ j) func42 (by kernel_rfl) (lc lf ln) ?_)
   obtain⟨n3,h⟩:=zad h
   refine gq (zai (by kernel_rfl) rfl rfl n3.1 n3.2 (gq (zak (a:= .xs (gi y2 1)) (by kernel_rfl) rfl rfl ?_)))
   obtain⟨y4,k,h⟩:=zae h
   refine gq (zal (zdo _ _ k) func44 (by kernel_rfl) (lc lf ln) (qa (.xi y4) rfl (gc (zan (zax h (λ(d:Bool)=>(pt (pt (pt AF0 1 (.exact w1)) 6 (.xi y4)) 31 (.xb d))) (λ(d:Bool)=>[vecT Tryz.prog 87 1 zdk w1 a1]) (λ k9 h=> ?_) (λ d h=> ?_))))))
   .refine kr (qm (.xi y4) rfl (qm (.exact w1) rfl (G_r rfl (zcl (by kernel_rfl) rfl (gq (zgm rfl rfl (qm (.xb (decide ((List.length a1:Int)≤y4))) rfl (zcc (p:=(List.length a1:Int)≤y4) 26 rfl (λ hc=> ?_) (λ hc=> ?_)))))))))
    .replace h:=zcg h hc
     refine gn (gn (gn (gn (gq (zat rfl (av:= .xb true) rfl (zbc (zaa ⟨_,h,s3 rfl rfl rfl⟩)))))))
    .replace h:=zcf h hc
     refine gy (zah (av:= .exact w1) rfl (gy (zah (av:= .xi y4) rfl ?_)))
     obtain⟨n11,h⟩:=zad h
     refine Gy_r rfl rfl rfl (zbl (by kernel_rfl) rfl rfl n11.1 n11.2 (Gy_r rfl rfl rfl (zcs (i:=y4) (o:=0) (a:= .xb (gi a1 y4)) (by kernel_rfl) len_c_bool rfl n11.1 n11.2 rfl (gq (zar rfl (av:= .xb (gi a1 y4)) rfl (zbc (zaa ⟨_,h,s3 rfl rfl rfl⟩)))))))
   .refine kb (p:=d) rfl h (λ hc h=> ?_) (λ hc h=> ?_)
    .refine zan ?_
     cases h
    .refine zap (zaf (sr (qm (.exact w1) rfl (qm (.xi y4) rfl ?_))))
     obtain⟨n12,h⟩:=zad h
     refine G_r rfl (zbl (by kernel_rfl) rfl rfl n12.1 n12.2 (G_l rfl (zcm (i:=y4) (o:=0) (z:=true) (c':=[.xb true]) (by kernel_rfl) len_c_bool rfl n12.1 n12.2 rfl CellsOf.bool (lc lf ln) (OneC.bool OneC.nil) (by kernel_rfl) (Nat.le_of_ble_eq_true rfl) rfl (gd (qa (.xb true) rfl (gc (zbn (zde (zdb ?_)))))))))
     obtain rfl:=oi h
     refine ke (pt AF0 4 (.xb true)) [vecT Tryz.prog 87 1 zdk w1 (List.set a1 (Int.toNat y4) true)] rfl (s1 rfl) ⟨rfl,rfl⟩
  .refine sr (qm (.xi y1) rfl ?_)
   obtain⟨y13,l,h⟩:=zae h
   refine gq (zal (m_ref21_Structural_ok _ _ l) func47 (by kernel_rfl) (lc lf ln) (gq (zdh rfl (qa (.xb (!y13)) rfl (gc (kb (p:= !y13) rfl h (λ hc h=> ?_) (λ hc h=> ?_)))))))
   .refine zan ?_
    cases h
   .refine zap (zau (zaf (sr (qm (.xs a0) rfl ?_))))
    obtain⟨y14,n,h⟩:=zae h
    refine gq (zal (zfb _ _ n) func49 (by kernel_rfl) (lc lf ln) (qa (.row 1 zab y14) rfl (gc (zax h (λ(e:List Bool)=>(pt AF0 1 (.exact w1))) (λ(e:List Bool)=>[vecT Tryz.prog 87 1 zdk w1 e]) (λ k15 h=> ?_) (λ e h=> ?_)))))
    .refine sr (qa (.xi 0) rfl (gc (zaq (zey (m_ref21_shaped_L2 c y14 k15) (m_ref21_shaped_B2 c y14 k15) (λ _ _=>rfl) (λ m _ _=>rfl) h (λ(f:List Bool) (b:Int)=>(pt (pt (pt AF0 1 (.exact w1)) 7 (.row 1 zab y14)) 8 (.xi b))) (λ(f:List Bool) (b:Int)=>[vecT Tryz.prog 87 1 zdk w1 f]) ?_ (λ t f b h=> ?_)))))
     .exact s3 rfl rfl rfl
     .unfold m_ref21_shaped_B2 at h
      refine zan (sr (qm (.xi b) rfl (qm (.row 1 zab y14) rfl (gq (zao (by kernel_rfl) rfl (gq (zbm rfl rfl (gc (kd (p:=b<(List.length y14:Int)) rfl h (λ hc h=> ?_) (λ hc h=> ?_))))))))))
      .refine zap (zaf (zan (zaq (sr (qm (.row 1 zab y14) rfl (qm (.xi b) rfl ?_))))))
       obtain⟨n27,h⟩:=zad h
       refine gq (zai (by kernel_rfl) rfl rfl n27.1 n27.2 (gq (zak (a:= .xs (gi y14 b)) (by kernel_rfl) rfl rfl (qm (.exact w1) rfl ?_))))
       obtain⟨y28,q,h⟩:=zae h
       refine G_l rfl (zdg (hself_ref21_shaped _ _ _ q) func54 (by kernel_rfl) (lc lf (lc lf ln)) (gq (zdh rfl (gc (kb (p:= !y28.1) rfl h (λ hc h=> ?_) (λ hc h=> ?_))))))
       .refine zan ?_
        cases h
       .refine zap (zau (zaf (kr (qm (.xi b) rfl (gq (zbo rfl rfl rfl (qa (.xi (i64 (b+1))) rfl (zbc (zaa ⟨_,_,h,s3 rfl rfl rfl⟩)))))))))
      .refine zbr (zbi (zbk (zbj (zaa ⟨_,h,s1 rfl⟩))))
    .refine sr (qa (.xb true) rfl (gc (zbn ?_)))
     obtain rfl:=oi h
     refine ke (pt AF0 4 (.xb true)) [vecT Tryz.prog 87 1 zdk w1 e] rfl (s1 rfl) ⟨rfl,rfl⟩
theorem m_ref21_shaped_S_ok: ∀n:Nat,(∀ ⦃w1:Value⦄ (a0:List UInt8) (a1:List Bool) (r:Bool×(List Bool)),m_ref21_shaped_S n a0 a1=some r->Fun Tryz.prog 54 [(.exact (.string (bs a0))),(.exact w1)] [vecT Tryz.prog 87 1 zdk w1 a1] (λ a s=>a= .exact (.bool r.1)/\s=[vecT Tryz.prog 87 1 zdk w1 r.2]))
  |0=>(λ _ _ _ _ h=>by have h':(none:Option _)=some _:=h;cases h')
  |n+1=>by
    have ih:=m_ref21_shaped_S_ok n
    exact λ w1 a0 a1 r h=>m_ref21_shaped_F_ok (m_ref21_shaped_S n) ih a0 a1 r h
theorem m_ref21_shaped_ok {w1:Value} (a0:List UInt8) (a1:List Bool) (r:Bool×(List Bool)) (h:m_ref21_shaped a0 a1=some r):Fun Tryz.prog 54 [(.exact (.string (bs a0))),(.exact w1)] [vecT Tryz.prog 87 1 zdk w1 a1] (λ a s=>a= .exact (.bool r.1)/\s=[vecT Tryz.prog 87 1 zdk w1 r.2]):=(m_ref21_shaped_S_ok FU) a0 a1 r h
theorem m_ref18_Event_ok (a0:Int) (r:Bool) (h:m_ref18_Event a0=some r):Pure Tryz.prog 97 [(.exact (.int .i64 a0))] (.exact (.bool r)):=by
 unfold m_ref18_Event at h
 refine Pure.ofFun (zam func97 rfl ntmps97 (by simp) rfl (res1 rfl) λ E hE=>zca (sr (qa (.xb false) rfl (gc (zax h (λ(a:Bool)=>(pt AF0 2 (.xb a))) (λ(a:Bool)=>[]) (λ k1 h=> ?_) (λ a h=> ?_))))))
 .refine kr (qm (.xi a0) rfl (gq (zbf rfl rfl (qm (.xb (decide (a0=0))) rfl (zcc (p:=a0=0) 5 rfl (λ hc=> ?_) (λ hc=> ?_))))))
  .replace h:=zcg h hc
   refine gn (gn (gq (zat rfl (av:= .xb true) rfl (qm (.xb true) rfl (gn (gn (gq (zat rfl (av:= .xb true) rfl (qa (.xb true) rfl (zbc (zaa ⟨_,h,s1 rfl⟩)))))))))))
  .replace h:=zcf h hc
   refine gy (zah (av:= .xi a0) rfl (gy (zbf rfl rfl (gq (zar rfl (av:= .xb (decide (a0=1))) rfl (qm (.xb (decide (a0=1))) rfl (zcc (p:=a0=1) 9 rfl (λ hc=> ?_) (λ hc=> ?_))))))))
   .replace h:=zcg h hc
    refine gn (gn (gq (zat rfl (av:= .xb true) rfl (qa (.xb true) rfl (zbc (zaa ⟨_,h,s1 rfl⟩))))))
   .replace h:=zcf h hc
    refine gy (zah (av:= .xi a0) rfl ?_)
    obtain⟨y3,b,h⟩:=zae h
    refine gy (zal (zhd _ _ b) func67 (by kernel_rfl) (lc lf ln) (gq (zar rfl (av:= .xb y3) rfl (qa (.xb y3) rfl (zbc (zaa ⟨_,h,s1 rfl⟩))))))
 .refine zbn ?_
  obtain rfl:=oi h
  refine ke (pt AF0 2 (.xb a)) [] rfl (s1 rfl) ⟨rfl,rfl⟩
theorem m_ref21_listed_ok (a0:List Int) (r:Bool) (h:m_ref21_listed a0=some r):Pure Tryz.prog 55 [(.row 1 zav a0)] (.exact (.bool r)):=by
 unfold m_ref21_listed at h
 refine Pure.ofFun (zam func55 rfl ntmps55 (by simp) rfl (res1 rfl) λ E hE=>zca (sr (qa (.xb false) rfl (gc (zbw h (AF0) ([]) (λ k1 h=> ?_) (λ  h=> ?_))))))
 .refine sr (qa (.xi 0) rfl (gc (zaq (zcr (m_ref21_listed_L2 a0 k1) (m_ref21_listed_B2 a0 k1) (λ _=>rfl) (λ m _=>rfl) h (λ(b:Int)=>(pt (pt AF0 0 (.row 1 zav a0)) 3 (.xi b))) (λ(b:Int)=>[]) ?_ (λ f b h=> ?_)))))
  .exact s2 rfl rfl
  .unfold m_ref21_listed_B2 at h
   refine zan (sr (qm (.xi b) rfl (qm (.row 1 zav a0) rfl (gq (zao (by kernel_rfl) rfl (gq (zbm rfl rfl (gc (kd (p:=b<(List.length a0:Int)) rfl h (λ hc h=> ?_) (λ hc h=> ?_))))))))))
   .refine zap (zaf (zan (zaq (zax h (λ(d:Bool)=>(pt (pt (pt AF0 0 (.row 1 zav a0)) 3 (.xi b)) 31 (.xb d))) (λ(d:Bool)=>[]) (λ k108 h=> ?_) (λ d h=> ?_)))))
    .refine zck [] [(0,0),(0,1),(0,2),(0,3),(0,4),(0,5),(0,6),(0,7),(0,8),(0,9),(0,10),(0,11),(0,12),(0,13),(0,14),(0,15),(0,16),(0,17),(0,18),(0,19),(0,20),(0,21)] hmixP (by kernel_rfl) (pq rfl (zah (av:= .row 1 zav a0) rfl (pq rfl (zah (av:= .xi b) rfl ?_))))
     obtain⟨n113,h⟩:=zad h
     refine pq rfl (zai (by kernel_rfl) rfl rfl n113.1 n113.2 (pq rfl (zak (a:= .xi (gi a0 b)) (by kernel_rfl) rfl rfl ?_)))
     obtain⟨y114,e,h⟩:=zae h
     refine pq rfl (zal (m_ref18_Event_ok _ _ e) func97 (by kernel_rfl) (lc lf ln) (pq rfl (zdh rfl (pq rfl (zah (av:= .xb (!y114)) rfl (P_splitB (c:= !y114) 16 rfl (λ hc=> ?_) (λ hc=> ?_)))))))
     .replace h:=zcg h hc
      refine pn rfl (pn rfl (pn rfl (pu rfl (pu rfl (pu rfl (pu rfl (pu rfl (pu rfl (pu rfl (pu rfl (pu rfl (pu rfl (pn rfl (pq rfl (zat rfl (av:= .xb true) rfl (zcn (zaa ⟨_,h,s3 rfl rfl rfl⟩)))))))))))))))))
     .replace h:=zcf h hc
      refine py rfl (zah (av:= .xi b) rfl (py rfl (zfx rfl rfl (py rfl (zah (av:= .xb (decide (0<b))) rfl (zfd (p:=0<b) 19 rfl (λ hc=> ?_) (λ hc=> ?_)))))))
      .replace h:=zcg h hc
       refine py rfl (zah (av:= .row 1 zav a0) rfl (py rfl (zah (av:= .xi b) rfl ?_)))
       obtain⟨n115,h⟩:=zad h
       refine py rfl (zai (by kernel_rfl) rfl rfl n115.1 n115.2 (py rfl (zak (a:= .xi (gi a0 b)) (by kernel_rfl) rfl rfl (py rfl (zah (av:= .row 1 zav a0) rfl (py rfl (zah (av:= .xi b) rfl (py rfl (op_sub rfl rfl rfl ?_)))))))))
       obtain⟨n116,h⟩:=zad h
       refine py rfl (zai (by kernel_rfl) rfl rfl n116.1 n116.2 (py rfl (zak (a:= .xi (gi a0 (i64 (b - 1)))) (by kernel_rfl) rfl rfl (py rfl (op_leq rfl rfl (py rfl (zat rfl (av:= .xb (decide ((gi a0 b)≤(gi a0 (i64 (b - 1)))))) rfl (pq rfl (zar rfl (av:= .xb (decide ((gi a0 b)≤(gi a0 (i64 (b - 1)))))) rfl (zcn (zaa ⟨_,h,s3 rfl rfl rfl⟩)))))))))))
      .replace h:=zcf h hc
       refine pn rfl (pn rfl (pn rfl (pn rfl (pn rfl (pn rfl (pn rfl (pn rfl (pn rfl (pn rfl (py rfl (zar rfl (av:= .xb false) rfl (pq rfl (zar rfl (av:= .xb false) rfl (zcn (zaa ⟨_,h,s3 rfl rfl rfl⟩)))))))))))))))
    .refine kb (p:=d) rfl h (λ hc h=> ?_) (λ hc h=> ?_)
     .refine zan ?_
      cases h
     .refine zap (zau (zaf (kr (qm (.xi b) rfl (gq (zbo rfl rfl rfl (qa (.xi (i64 (b+1))) rfl (zbc (zaa ⟨_,h,s2 rfl rfl⟩)))))))))
   .refine zbr (zbi (zbk (zbj (zaa ⟨h,Sub.of_le lt0⟩))))
 .refine sr (qa (.xb true) rfl (gc (zbn ?_)))
  obtain rfl:=oi h
  refine ke (pt AF0 2 (.xb true)) [] rfl (s1 rfl) ⟨rfl,rfl⟩
theorem m_ref21_among_ok (a0:List (Int×(List UInt8))) (a1:Int×(List UInt8)) (r:Bool) (h:m_ref21_among a0 a1=some r):Pure Tryz.prog 148 [(.row 2 zag a0),(.agg (zag a1))] (.exact (.bool r)):=by
 unfold m_ref21_among at h
 refine Pure.ofFun (zam func148 rfl ntmps148 (by simp) rfl (res1 rfl) λ E hE=>zca (sr (gq (zfe (c:=zag a1) rfl CellsOf.agg (qa (.xb false) rfl (gc (zbw h (AF0) ([]) (λ k1 h=> ?_) (λ  h=> ?_))))))))
 .refine sr (qa (.xi 0) rfl (gc (zaq (zcr (m_ref21_among_L2 a0 a1 k1) (m_ref21_among_B2 a0 a1 k1) (λ _=>rfl) (λ m _=>rfl) h (λ(d:Int)=>(pt (pt (pt AF0 0 (.row 2 zag a0)) 3 (.ptr (zag a1))) 5 (.xi d))) (λ(d:Int)=>[]) ?_ (λ e d h=> ?_)))))
  .exact s3 rfl rfl rfl
  .unfold m_ref21_among_B2 at h
   refine zan (sr (qm (.xi d) rfl (qm (.row 2 zag a0) rfl (gq (zao (by kernel_rfl) rfl (gq (zbm rfl rfl (gc (kd (p:=d<(List.length a0:Int)) rfl h (λ hc h=> ?_) (λ hc h=> ?_))))))))))
   .refine zap (zaf (zan (zaq (zan (zck [] [(0,0),(0,1),(0,2),(0,3),(0,4),(0,5)] hmixP (by kernel_rfl) (pq rfl (zah (av:= .row 2 zag a0) rfl (pq rfl (zah (av:= .xi d) rfl ?_)))))))))
    obtain⟨n8,h⟩:=zad h
    refine pq rfl (zai (by kernel_rfl) rfl rfl n8.1 n8.2 (pq rfl (zbx (m:=2) (c':=zag (gi a0 d)) (by kernel_rfl) rfl rfl rfl (pq rfl (zbx (m:=2) (c':=zag a1) (by kernel_rfl) rfl rfl rfl (pq rfl (op_eqlA (a:=(gi a0 d)) (b:=a1) (by kernel_rfl) (eq_c_api_Branch _ _) rfl rfl (zcn (zaf (kd (p:=(gi a0 d)=a1) rfl h (λ hc h=> ?_) (λ hc h=> ?_)))))))))))
    .refine sr (qa (.xb true) rfl (gc (zbn (zde (zdb (zek (zde (zek ?_))))))))
     obtain rfl:=oi h
     refine ke (pt AF0 4 (.xb true)) [] rfl (s1 rfl) ⟨rfl,rfl⟩
    .refine zap (zau (zaf (kr (qm (.xi d) rfl (gq (zbo rfl rfl rfl (qa (.xi (i64 (d+1))) rfl (zbc (zaa ⟨_,h,s3 rfl rfl rfl⟩)))))))))
   .refine zbr (zbi (zbk (zbj (zaa ⟨h,Sub.of_le lt0⟩))))
 .refine sr (qa (.xb false) rfl (gc (zbn ?_)))
  obtain rfl:=oi h
  refine ke (pt AF0 4 (.xb false)) [] rfl (s1 rfl) ⟨rfl,rfl⟩
end
noncomputable section
open Go.RowKit
attribute [local irreducible] AV.exact AV.top AV.row AV.ptr AV.agg AV.tup AV.eptr AV.fn AV.nilq AV.nilqn opA opB opM opR Quiet Loud Reads wpG awp den Sub SubU Pure Fun vecI vecT boxI CellsAll CellsOf OneC LEs LEss
set_option maxRecDepth 100000
set_option maxHeartbeats 4000000
theorem m_ref21_single_ok (a0:List UInt8) (a1:List ((List Int)×Int×(List UInt8))) (a2:List ((List Int)×Int×(List UInt8))) (a3:Bool) (r:(List ((List Int)×Int×(List UInt8)))) (h:m_ref21_single a0 a1 a2 a3=some r):Pure Tryz.prog 100 [(.exact (.string (bs a0))),(.row 3 zac a1),(.row 3 zac a2),(.exact (.bool a3))] (.row 3 zac r):=by
 unfold m_ref21_single at h
 refine Pure.ofFun (zam func100 rfl ntmps100 (by simp) rfl (res1 rfl) λ E hE=>zca (sr (qa (.exact (.slice none 0 0)) rfl (gd (qm (.xs a0) rfl ?_)))))
 obtain⟨y1,l,h⟩:=zae h
 refine gq (zal (zeu _ _ _ _ l) func101 (by kernel_rfl) (lc lf (lc (zcy (by decide)) (lc (zcy (by decide)) ln))) (qa (.row 2 zag y1) rfl (gd (qa (.exact (.slice none 0 0)) rfl (gd (qm (.row 3 zac a1) rfl (qa (.row 3 zac a1) rfl (gc (zax h (λ(b:List ((List Int)×Int×(List UInt8)))=>(pt (pt (pt (pt (pt AF0 0 (.xs a0)) 3 (.xb a3)) 9 (.row 2 zag y1)) 10 (.exact (.slice none 0 0))) 11 (.row 3 zac b))) (λ(b:List ((List Int)×Int×(List UInt8)))=>[]) (λ k2 h=> ?_) (λ b h=> ?_))))))))))
 .refine sr (qm (.xb a3) rfl (gq (zdh rfl (gc (kb (p:= !a3) rfl h (λ hc h=> ?_) (λ hc h=> ?_))))))
  .refine kr (qm (.row 3 zac a2) rfl (qa (.row 3 zac a2) rfl (zbc (zaa ⟨_,h,so (l4 rfl rfl rfl rfl (lq rfl lt0))⟩))))
  .refine zap (zaa ⟨_,h,so (l4 rfl rfl rfl rfl (lq rfl lt0))⟩)
 .refine zcb h (λ(f:List ((List Int)×Int×(List UInt8))) (v10_j3:Value)=>(pt AF0 10 (.exact v10_j3))) (λ(f:List ((List Int)×Int×(List UInt8))) (v10_j3:Value)=>[vecT Tryz.prog 133 3 zac v10_j3 f]) (λ k3 h=> ?_) (λ f v10_j3 h=> ?_)
  .refine sr (qa (.xi 0) rfl (gc (zaq (zcz (m_ref21_single_L8 a0 a3 y1 b k3) (m_ref21_single_B8 a0 a3 y1 b k3) (λ _ _=>rfl) (λ m _ _=>rfl) h (λ(g:List ((List Int)×Int×(List UInt8))) (c:Int) (v10_l8:Value)=>(pt (pt (pt (pt (pt (pt AF0 0 (.xs a0)) 3 (.xb a3)) 9 (.row 2 zag y1)) 10 (.exact v10_l8)) 11 (.row 3 zac b)) 12 (.xi c))) (λ(g:List ((List Int)×Int×(List UInt8))) (c:Int) (v10_l8:Value)=>[vecT Tryz.prog 133 3 zac v10_l8 g]) (.slice none 0 0) ?_ (λ w g c v10_l8 h=> ?_)))))
   .refine Sub.trans (SubU.to (SubU.nilT (P:=Tryz.prog) (t:=133) (n:=3) (enc:=zac))) (so (l4 rfl rfl rfl rfl (lq rfl (lq rfl lt0))))
   .unfold m_ref21_single_B8 at h
    refine zan (sr (qm (.xi c) rfl (qm (.row 3 zac b) rfl (gq (zao (by kernel_rfl) rfl (gq (zbm rfl rfl (gc (kd (p:=c<(List.length b:Int)) rfl h (λ hc h=> ?_) (λ hc h=> ?_))))))))))
    .refine zap (zaf (zcb h (λ(i:List ((List Int)×Int×(List UInt8))) (v10_j530:Value)=>(pt (pt (pt (pt (pt (pt AF0 0 (.xs a0)) 3 (.xb a3)) 9 (.row 2 zag y1)) 10 (.exact v10_j530)) 11 (.row 3 zac b)) 12 (.xi c))) (λ(i:List ((List Int)×Int×(List UInt8))) (v10_j530:Value)=>[vecT Tryz.prog 133 3 zac v10_j530 i]) (λ k530 h=> ?_) (λ i v10_j530 h=> ?_)))
     .refine zaq (zan (zck [] [(0,0),(0,1),(0,2),(0,3),(0,4),(0,5),(0,6),(0,7),(0,8),(0,9),(0,10),(0,11),(0,12)] hmixP (by kernel_rfl) (pq rfl (zah (av:= .row 3 zac b) rfl (pq rfl (zah (av:= .xi c) rfl ?_))))))
      obtain⟨n583,h⟩:=zad h
      refine pq rfl (zai (by kernel_rfl) rfl rfl n583.1 n583.2 (pq rfl (zaj (o:=1) (c':=(List.drop 1 (zac (gi b c)))) (by kernel_rfl) rfl rfl (pq rfl (zak (a:= .xi ((gi b c).2.1)) (by kernel_rfl) rfl rfl (pq rfl (zah (av:= .row 3 zac b) rfl (pq rfl (zah (av:= .xi c) rfl ?_)))))))))
      obtain⟨n584,h⟩:=zad h
      refine pq rfl (zai (by kernel_rfl) rfl rfl n584.1 n584.2 (pq rfl (zaj (o:=2) (c':=(List.drop 2 (zac (gi b c)))) (by kernel_rfl) rfl rfl (pq rfl (zak (a:= .xs ((gi b c).2.2)) (by kernel_rfl) rfl rfl (pq rfl (zft (c':=zag ((gi b c).2.1,(gi b c).2.2)) (CellsAll.cons rfl CellsOf.int (CellsAll.cons rfl CellsOf.str CellsAll.nil)) rfl (lc lf (lc lf ln)) (pq rfl (zcd (n:=2) (enc:=zag) [((gi b c).2.1,(gi b c).2.2)] (CellsAll.cons rfl CellsOf.agg CellsAll.nil) rfl (by kernel_rfl) (LEss.cons (lc lf (lc lf ln)) LEss.nil) (pq rfl (zcj (av:= .row 2 zag [((gi b c).2.1,(gi b c).2.2)]) rfl (zcn (zaf (sr (qm (.xs a0) rfl (qm (.row 2 zag [((gi b c).2.1,(gi b c).2.2)]) rfl ?_))))))))))))))))
      obtain⟨y585,q,h⟩:=zae h
      refine gq (zal (zeu _ _ _ _ q) func101 (by kernel_rfl) (lc lf (lc lf (lc (zcy (by decide)) ln))) (qa (.row 2 zag y585) rfl (gc (zax h (λ(d:List (Int×(List UInt8)))=>(pt (pt (pt (pt (pt (pt (pt AF0 0 (.xs a0)) 3 (.xb a3)) 9 (.row 2 zag y1)) 10 (.exact v10_l8)) 11 (.row 3 zac b)) 12 (.xi c)) 14 (.row 2 zag d))) (λ(d:List (Int×(List UInt8)))=>[vecT Tryz.prog 133 3 zac v10_l8 g]) (λ k586 h=> ?_) (λ d h=> ?_)))))
      .refine sr (qm (.xb a3) rfl (gq (zdh rfl (gc (kb (p:= !a3) rfl h (λ hc h=> ?_) (λ hc h=> ?_))))))
       .refine kr (qm (.xs a0) rfl (qm (.row 2 zag [((gi b c).2.1,(gi b c).2.2)]) rfl ?_))
        obtain⟨y588,u,h⟩:=zae h
        refine gq (zal (zeu _ _ _ _ u) func101 (by kernel_rfl) (lc lf (lc (zcy (by decide)) (lc lf ln))) (qa (.row 2 zag y588) rfl (zbc (zaa ⟨_,h,so (l4 rfl rfl rfl rfl (lq rfl (lq rfl (lq rfl lt0))))⟩))))
       .refine zap (zaa ⟨_,h,so (l4 rfl rfl rfl rfl (lq rfl (lq rfl (lq rfl lt0))))⟩)
      .refine sr (qa (.xi 0) rfl (gc (zaq (zcz (m_ref21_single_L14 y1 b c k530 d) (m_ref21_single_B14 y1 b c k530 d) (λ _ _=>rfl) (λ m _ _=>rfl) h (λ(j:List ((List Int)×Int×(List UInt8))) (e:Int) (v10_l14:Value)=>(pt (pt (pt (pt (pt (pt (pt (pt AF0 0 (.xs a0)) 3 (.xb a3)) 9 (.row 2 zag y1)) 10 (.exact v10_l14)) 11 (.row 3 zac b)) 12 (.xi c)) 14 (.row 2 zag d)) 15 (.xi e))) (λ(j:List ((List Int)×Int×(List UInt8))) (e:Int) (v10_l14:Value)=>[vecT Tryz.prog 133 3 zac v10_l14 j]) v10_l8 ?_ (λ x j e v10_l14 h=> ?_)))))
       .exact so (l4 rfl rfl rfl rfl (l4 rfl rfl rfl rfl lt0))
       .unfold m_ref21_single_B14 at h
        refine zan (sr (qm (.xi e) rfl (qm (.row 2 zag d) rfl (gq (zao (by kernel_rfl) rfl (gq (zbm rfl rfl (gc (kd (p:=e<(List.length d:Int)) rfl h (λ hc h=> ?_) (λ hc h=> ?_))))))))))
        .refine zap (zaf (zcb h (λ(k:List ((List Int)×Int×(List UInt8))) (v10_j619:Value)=>(pt (pt (pt (pt (pt (pt (pt (pt AF0 0 (.xs a0)) 3 (.xb a3)) 9 (.row 2 zag y1)) 10 (.exact v10_j619)) 11 (.row 3 zac b)) 12 (.xi c)) 14 (.row 2 zag d)) 15 (.xi e))) (λ(k:List ((List Int)×Int×(List UInt8))) (v10_j619:Value)=>[vecT Tryz.prog 133 3 zac v10_j619 k]) (λ k619 h=> ?_) (λ k v10_j619 h=> ?_)))
         .refine zaq (sr (qm (.row 2 zag y1) rfl (qm (.row 2 zag d) rfl (qm (.xi e) rfl ?_))))
          obtain⟨n627,h⟩:=zad h
          refine gq (zai (by kernel_rfl) rfl rfl n627.1 n627.2 (gq (zbx (m:=2) (c':=zag (gi d e)) (by kernel_rfl) rfl rfl rfl ?_)))
          obtain⟨y628,v,h⟩:=zae h
          refine gq (zal (m_ref21_among_ok _ _ _ v) func148 (by kernel_rfl) (lc lf (lc lf ln)) (gq (zdh rfl (gc (kb (p:= !y628) rfl h (λ hc h=> ?_) (λ hc h=> ?_))))))
          .refine zck [] [(0,0),(0,1),(0,2),(0,3),(0,4),(0,5),(0,6),(0,7),(0,8),(0,9),(0,10),(0,11),(0,12),(0,13),(0,14),(0,15),(0,16),(0,17),(2,18),(0,19)] hmixP (by kernel_rfl) (pq rfl (zah (av:= .exact v10_l14) rfl (pq rfl (zah (av:= .row 3 zac b) rfl (pq rfl (zah (av:= .xi c) rfl ?_))))))
           obtain⟨n629,h⟩:=zad h
           refine pq rfl (zai (by kernel_rfl) rfl rfl n629.1 n629.2 (pq rfl (zaj (o:=0) (c':=(List.drop 0 (zac (gi b c)))) (by kernel_rfl) rfl rfl (pq rfl (zak (a:= .row 1 zav ((gi b c).1)) (by kernel_rfl) rfl rfl (pq rfl (zah (av:= .row 2 zag d) rfl (pq rfl (zah (av:= .xi e) rfl ?_)))))))))
           obtain⟨n630,h⟩:=zad h
           refine pq rfl (zai (by kernel_rfl) rfl rfl n630.1 n630.2 (pq rfl (zaj (o:=0) (c':=(List.drop 0 (zag (gi d e)))) (by kernel_rfl) rfl rfl (pq rfl (zak (a:= .xi ((gi d e).1)) (by kernel_rfl) rfl rfl (pq rfl (zah (av:= .row 2 zag d) rfl (pq rfl (zah (av:= .xi e) rfl ?_)))))))))
           obtain⟨n631,h⟩:=zad h
           refine pq rfl (zai (by kernel_rfl) rfl rfl n631.1 n631.2 (pq rfl (zaj (o:=1) (c':=(List.drop 1 (zag (gi d e)))) (by kernel_rfl) rfl rfl (pq rfl (zak (a:= .xs ((gi d e).2)) (by kernel_rfl) rfl rfl (pq rfl (zft (c':=zac ((gi b c).1,(gi d e).1,(gi d e).2)) (CellsAll.cons rfl CellsOf.row (CellsAll.cons rfl CellsOf.int (CellsAll.cons rfl CellsOf.str CellsAll.nil))) rfl (lc lf (lc lf (lc lf ln))) (pq rfl (zcd (n:=3) (enc:=zac) [((gi b c).1,(gi d e).1,(gi d e).2)] (CellsAll.cons rfl CellsOf.agg CellsAll.nil) rfl (by kernel_rfl) (LEss.cons (lc lf (lc lf (lc lf ln))) LEss.nil) ?_)))))))))
           obtain⟨n632,h⟩:=zad h
           refine P_l rfl (zcu (by kernel_rfl) rfl rfl zcx n632 (λ v633=>pq rfl (zcj (av:= .exact v633) rfl (zcn (zau (zaa ⟨_,v633,h,so (l4 rfl rfl rfl rfl (l4 rfl rfl rfl rfl lt0))⟩))))))
          .refine zap (zau (zaa ⟨_,v10_l14,h,so (l4 rfl rfl rfl rfl (l4 rfl rfl rfl rfl lt0))⟩))
         .refine kr (qm (.xi e) rfl (gq (zbo rfl rfl rfl (qa (.xi (i64 (e+1))) rfl (zbc (zaa ⟨_,_,v10_j619,h,so (l4 rfl rfl rfl rfl (l4 rfl rfl rfl rfl lt0))⟩))))))
        .refine zbr (zbi (zbk (zbj (zau (zaa ⟨_,v10_l14,h,so (l4 rfl rfl rfl rfl (lq rfl (lq rfl lt0)))⟩)))))
     .refine kr (qm (.xi c) rfl (gq (zbo rfl rfl rfl (qa (.xi (i64 (c+1))) rfl (zbc (zaa ⟨_,_,v10_j530,h,so (l4 rfl rfl rfl rfl (lq rfl (lq rfl lt0)))⟩))))))
    .refine zbr (zbi (zbk (zbj (zaa ⟨_,v10_l8,h,s1 rfl⟩))))
  .refine sr (qm (.exact v10_j3) rfl (qa (.exact v10_j3) rfl (gc (zbn ?_))))
   obtain rfl:=oi h
   refine ke (pt AF0 8 (.row 3 zac f)) [] rfl (Sub.trans (SubU.to (SubU.freezeT (s:=8) rfl zda)) (s1 rfl)) ⟨rfl,rfl⟩
theorem m_ref21_both_ok (a0:List UInt8) (a1:List (Int×(List UInt8))) (a2:(List Int)×Int×(List UInt8)) (a3:(List Int)×Int×(List UInt8)) (r:(List ((List Int)×Int×(List UInt8)))) (h:m_ref21_both a0 a1 a2 a3=some r):Pure Tryz.prog 102 [(.exact (.string (bs a0))),(.row 2 zag a1),(.agg (zac a2)),(.agg (zac a3))] (.row 3 zac r):=by
 unfold m_ref21_both at h
 refine Pure.ofFun (zam func102 rfl ntmps102 (by simp) rfl (res1 rfl) λ E hE=>zca (sr (gq (zfe (c:=zac a2) rfl CellsOf.agg (gq (zfe (c:=zac a3) rfl CellsOf.agg (qa (.exact (.slice none 0 0)) rfl (gd (qm (.xs a0) rfl (gq (zaj (o:=1) (c':=(List.drop 1 (zac a2))) (by kernel_rfl) rfl rfl (gq (zak (a:= .xi a2.2.1) (by kernel_rfl) rfl rfl (gq (zaj (o:=2) (c':=(List.drop 2 (zac a2))) (by kernel_rfl) rfl rfl (gq (zak (a:= .xs a2.2.2) (by kernel_rfl) rfl rfl (gq (zft (c':=zag (a2.2.1,a2.2.2)) (CellsAll.cons rfl CellsOf.int (CellsAll.cons rfl CellsOf.str CellsAll.nil)) rfl (lc lf (lc lf ln)) (gq (zcd (n:=2) (enc:=zag) [(a2.2.1,a2.2.2)] (CellsAll.cons rfl CellsOf.agg CellsAll.nil) rfl (by kernel_rfl) (LEss.cons (lc lf (lc lf ln)) LEss.nil) ?_)))))))))))))))))))))
 obtain⟨y1,q,h⟩:=zae h
 refine gq (zal (zeu _ _ _ _ q) func101 (by kernel_rfl) (lc lf (lc lf (lc (zcy (by decide)) ln))) (qa (.row 2 zag y1) rfl (gd (qm (.xs a0) rfl (gq (zaj (o:=1) (c':=(List.drop 1 (zac a3))) (by kernel_rfl) rfl rfl (gq (zak (a:= .xi a3.2.1) (by kernel_rfl) rfl rfl (gq (zaj (o:=2) (c':=(List.drop 2 (zac a3))) (by kernel_rfl) rfl rfl (gq (zak (a:= .xs a3.2.2) (by kernel_rfl) rfl rfl (gq (zft (c':=zag (a3.2.1,a3.2.2)) (CellsAll.cons rfl CellsOf.int (CellsAll.cons rfl CellsOf.str CellsAll.nil)) rfl (lc lf (lc lf ln)) (gq (zcd (n:=2) (enc:=zag) [(a3.2.1,a3.2.2)] (CellsAll.cons rfl CellsOf.agg CellsAll.nil) rfl (by kernel_rfl) (LEss.cons (lc lf (lc lf ln)) LEss.nil) ?_))))))))))))))))
 obtain⟨y2,u,h⟩:=zae h
 refine gq (zal (zeu _ _ _ _ u) func101 (by kernel_rfl) (lc lf (lc (zcy (by decide)) (lc lf ln))) (qa (.row 2 zag y2) rfl (gd (qa (.exact (.slice none 0 0)) rfl (gc (zcb h (λ(j:List ((List Int)×Int×(List UInt8))) (v11_j3:Value)=>(pt AF0 11 (.exact v11_j3))) (λ(j:List ((List Int)×Int×(List UInt8))) (v11_j3:Value)=>[vecT Tryz.prog 133 3 zac v11_j3 j]) (λ k3 h=> ?_) (λ j v11_j3 h=> ?_)))))))
 .refine sr (qa (.xi 0) rfl (gc (zaq (zcz (m_ref21_both_L14 a1 a2 a3 y1 y2 k3) (m_ref21_both_B14 a1 a2 a3 y1 y2 k3) (λ _ _=>rfl) (λ m _ _=>rfl) h (λ(f:List ((List Int)×Int×(List UInt8))) (b:Int) (v11_l14:Value)=>(pt (pt (pt (pt (pt (pt (pt AF0 1 (.row 2 zag a1)) 6 (.ptr (zac a2))) 7 (.ptr (zac a3))) 9 (.row 2 zag y1)) 10 (.row 2 zag y2)) 11 (.exact v11_l14)) 12 (.xi b))) (λ(f:List ((List Int)×Int×(List UInt8))) (b:Int) (v11_l14:Value)=>[vecT Tryz.prog 133 3 zac v11_l14 f]) (.slice none 0 0) ?_ (λ x f b v11_l14 h=> ?_)))))
  .refine Sub.trans (SubU.to (SubU.nilT (P:=Tryz.prog) (t:=133) (n:=3) (enc:=zac))) (so (l4 rfl rfl rfl rfl (lq rfl (lq rfl (lq rfl lt0)))))
  .unfold m_ref21_both_B14 at h
   refine zan (sr (qm (.xi b) rfl (qm (.row 2 zag a1) rfl (gq (zao (by kernel_rfl) rfl (gq (zbm rfl rfl (gc (kd (p:=b<(List.length a1:Int)) rfl h (λ hc h=> ?_) (λ hc h=> ?_))))))))))
   .refine zap (zaf (zcb h (λ(l:List ((List Int)×Int×(List UInt8))) (v11_j490:Value)=>(pt (pt (pt (pt (pt (pt (pt AF0 1 (.row 2 zag a1)) 6 (.ptr (zac a2))) 7 (.ptr (zac a3))) 9 (.row 2 zag y1)) 10 (.row 2 zag y2)) 11 (.exact v11_j490)) 12 (.xi b))) (λ(l:List ((List Int)×Int×(List UInt8))) (v11_j490:Value)=>[vecT Tryz.prog 133 3 zac v11_j490 l]) (λ k490 h=> ?_) (λ l v11_j490 h=> ?_)))
    .refine zaq (zan (zax h (λ(k:Bool)=>(pt (pt (pt (pt (pt (pt (pt (pt AF0 1 (.row 2 zag a1)) 6 (.ptr (zac a2))) 7 (.ptr (zac a3))) 9 (.row 2 zag y1)) 10 (.row 2 zag y2)) 11 (.exact v11_l14)) 12 (.xi b)) 50 (.xb k))) (λ(k:Bool)=>[vecT Tryz.prog 133 3 zac v11_l14 f]) (λ k549 h=> ?_) (λ k h=> ?_)))
     .refine kr (qm (.row 2 zag y1) rfl (qm (.row 2 zag a1) rfl (qm (.xi b) rfl ?_)))
      obtain⟨n554,h⟩:=zad h
      refine gq (zai (by kernel_rfl) rfl rfl n554.1 n554.2 (gq (zbx (m:=2) (c':=zag (gi a1 b)) (by kernel_rfl) rfl rfl rfl ?_)))
      obtain⟨y555,v,h⟩:=zae h
      refine gq (zal (m_ref21_among_ok _ _ _ v) func148 (by kernel_rfl) (lc lf (lc lf ln)) (qm (.xb y555) rfl (zfl (c:=y555) 43 rfl (λ hc=> ?_) (λ hc=> ?_))))
      .replace h:=zcg h hc
       refine gn (gn (gn (gn (gn (gn (gq (zat rfl (av:= .xb true) rfl (zbc (zaa ⟨_,h,so (l4 rfl rfl rfl rfl (l4 rfl rfl rfl rfl lt0))⟩)))))))))
      .replace h:=zcf h hc
       refine gy (zah (av:= .row 2 zag y2) rfl (gy (zah (av:= .row 2 zag a1) rfl (gy (zah (av:= .xi b) rfl ?_)))))
       obtain⟨n556,h⟩:=zad h
       refine gy (zai (by kernel_rfl) rfl rfl n556.1 n556.2 (gy (zbx (m:=2) (c':=zag (gi a1 b)) (by kernel_rfl) rfl rfl rfl ?_)))
       obtain⟨y557,w,h⟩:=zae h
       refine gy (zal (m_ref21_among_ok _ _ _ w) func148 (by kernel_rfl) (lc lf (lc lf ln)) (gq (zar rfl (av:= .xb y557) rfl (zbc (zaa ⟨_,h,so (l4 rfl rfl rfl rfl (l4 rfl rfl rfl rfl lt0))⟩)))))
     .refine kb (p:=k) rfl h (λ hc h=> ?_) (λ hc h=> ?_)
      .refine zbr (zbi (zbj (zaa ⟨_,v11_l14,h,so (l4 rfl rfl rfl rfl (lq rfl (lq rfl (lq rfl lt0))))⟩)))
      .refine zap (zaf (sr (gq (zaj (o:=0) (c':=(List.drop 0 (zac a2))) (by kernel_rfl) rfl rfl (gq (zak (a:= .row 1 zav a2.1) (by kernel_rfl) rfl rfl ?_))))))
       obtain⟨n558,h⟩:=zad h
       refine G_l rfl (op_appN (enc:=zav) (by kernel_rfl) rfl rfl oc_c_int n558 (λ v559=>qa (.exact v559) rfl (gc (zax h (λ(g:List Int)=>(pt (pt (pt (pt (pt (pt (pt (pt AF0 1 (.row 2 zag a1)) 6 (.ptr (zac a2))) 7 (.ptr (zac a3))) 9 (.row 2 zag y1)) 10 (.row 2 zag y2)) 11 (.exact v11_l14)) 12 (.xi b)) 13 (.exact v559))) (λ(g:List Int)=>[vecT Tryz.prog 133 3 zac v11_l14 f,vecT Tryz.prog 22 1 zav v559 g]) (λ k560 h=> ?_) (λ g h=> ?_)))))
       .refine sr (qa (.xi 0) rfl (gc (zaq (zey (m_ref21_both_L26 a3 k560) (m_ref21_both_B26 a3 k560) (λ _ _=>rfl) (λ m _ _=>rfl) h (λ(e:List Int) (d:Int)=>(pt (pt (pt (pt (pt (pt (pt (pt (pt AF0 1 (.row 2 zag a1)) 6 (.ptr (zac a2))) 7 (.ptr (zac a3))) 9 (.row 2 zag y1)) 10 (.row 2 zag y2)) 11 (.exact v11_l14)) 12 (.xi b)) 13 (.exact v559)) 14 (.xi d))) (λ(e:List Int) (d:Int)=>[vecT Tryz.prog 133 3 zac v11_l14 f,vecT Tryz.prog 22 1 zav v559 e]) ?_ (λ y e d h=> ?_)))))
        .refine Sub.trans (SubU.to SubU.f1) (so (l4 rfl rfl rfl rfl (l4 rfl rfl rfl rfl (lq rfl lt0))))
        .unfold m_ref21_both_B26 at h
         refine zan (sr (qm (.xi d) rfl (qm (.exact v559) rfl (G_r rfl (opR_f1 (zcl (by kernel_rfl) rfl (gq (zbm rfl rfl (gc (kd (p:=d<(List.length e:Int)) rfl h (λ hc h=> ?_) (λ hc h=> ?_)))))))))))
         .refine zap (zaf (zan (zaq (zck [] [(0,0),(0,1),(0,2),(0,3),(0,6),(0,7),(0,8),(0,9),(0,10),(1,4),(1,5),(0,11),(1,12),(2,13)] hmixP (by kernel_rfl) (pq rfl (zah (av:= .exact v559) rfl (pq rfl (zah (av:= .xi d) rfl (pq rfl (zah (av:= .exact v559) rfl (pq rfl (zah (av:= .xi d) rfl (pq rfl (zaj (o:=0) (c':=(List.drop 0 (zac a3))) (by kernel_rfl) rfl rfl (pq rfl (zak (a:= .row 1 zav a3.1) (by kernel_rfl) rfl rfl (pq rfl (zah (av:= .xi d) rfl ?_))))))))))))))))))
          obtain⟨n577,h⟩:=zad h
          refine pq rfl (zai (by kernel_rfl) rfl rfl n577.1 n577.2 (pq rfl (zak (a:= .xi (gi a3.1 d)) (by kernel_rfl) rfl rfl ?_)))
          obtain⟨n578,h⟩:=zad h
          refine P_r rfl (opR_f1 (zbl (by kernel_rfl) rfl rfl n578.1 n578.2 (P_r rfl (opR_f1 (zcs (i:=d) (o:=0) (a:= .xi (gi e d)) (by kernel_rfl) zdf rfl n578.1 n578.2 rfl (pq rfl (op_max rfl rfl ?_)))))))
          obtain⟨n579,h⟩:=zad h
          refine P_r rfl (opR_f1 (zbl (by kernel_rfl) rfl rfl n579.1 n579.2 (P_l rfl (opB_f1 (zcm (i:=d) (o:=0) (z:=max (gi e d) (gi a3.1 d)) (c':=[.xi (max (gi e d) (gi a3.1 d))]) (by kernel_rfl) zdf rfl n579.1 n579.2 rfl CellsOf.int (lc lf ln) (OneC.int OneC.nil) (by kernel_rfl) (Nat.le_of_ble_eq_true rfl) rfl (zcn (zau (zaf (kr (qm (.xi d) rfl (gq (zbo rfl rfl rfl (qa (.xi (i64 (d+1))) rfl (zbc (zaa ⟨_,_,h, ?_⟩)))))))))))))))
          refine Sub.trans (SubU.to SubU.f1) (so (l4 rfl rfl rfl rfl (l4 rfl rfl rfl rfl (lq rfl lt0))))
         .refine zbr (zbi (zbk (zbj (zaa ⟨_,h,so (l4 rfl rfl rfl rfl (l4 rfl rfl rfl rfl lt0))⟩))))
       .refine awp_sub (SubU.to (SubU.trans SubU.f1 (SubU.freezeT (s:=13) rfl zdf))) (zck [] [(0,0),(0,1),(0,2),(0,3),(0,4),(0,5),(0,6),(0,7),(0,8),(0,9),(0,10),(0,11),(0,12),(0,13),(2,14),(0,15)] hmixP (by kernel_rfl) (pq rfl (zah (av:= .exact v11_l14) rfl (pq rfl (zah (av:= .row 1 zav g) rfl (pq rfl (zah (av:= .row 2 zag a1) rfl (pq rfl (zah (av:= .xi b) rfl ?_)))))))))
        obtain⟨n582,h⟩:=zad h
        refine pq rfl (zai (by kernel_rfl) rfl rfl n582.1 n582.2 (pq rfl (zaj (o:=0) (c':=(List.drop 0 (zag (gi a1 b)))) (by kernel_rfl) rfl rfl (pq rfl (zak (a:= .xi ((gi a1 b).1)) (by kernel_rfl) rfl rfl (pq rfl (zah (av:= .row 2 zag a1) rfl (pq rfl (zah (av:= .xi b) rfl ?_)))))))))
        obtain⟨n583,h⟩:=zad h
        refine pq rfl (zai (by kernel_rfl) rfl rfl n583.1 n583.2 (pq rfl (zaj (o:=1) (c':=(List.drop 1 (zag (gi a1 b)))) (by kernel_rfl) rfl rfl (pq rfl (zak (a:= .xs ((gi a1 b).2)) (by kernel_rfl) rfl rfl (pq rfl (zft (c':=zac (g,(gi a1 b).1,(gi a1 b).2)) (CellsAll.cons rfl CellsOf.row (CellsAll.cons rfl CellsOf.int (CellsAll.cons rfl CellsOf.str CellsAll.nil))) rfl (lc lf (lc lf (lc lf ln))) (pq rfl (zcd (n:=3) (enc:=zac) [(g,(gi a1 b).1,(gi a1 b).2)] (CellsAll.cons rfl CellsOf.agg CellsAll.nil) rfl (by kernel_rfl) (LEss.cons (lc lf (lc lf (lc lf ln))) LEss.nil) ?_)))))))))
        obtain⟨n584,h⟩:=zad h
        refine P_l rfl (zcu (by kernel_rfl) rfl rfl zcx n584 (λ v585=>pq rfl (zcj (av:= .exact v585) rfl (zcn (zau (zaa ⟨_,v585,h,so (l4 rfl rfl rfl rfl (lq rfl (lq rfl (lq rfl lt0))))⟩))))))
    .refine kr (qm (.xi b) rfl (gq (zbo rfl rfl rfl (qa (.xi (i64 (b+1))) rfl (zbc (zaa ⟨_,_,v11_j490,h,so (l4 rfl rfl rfl rfl (lq rfl (lq rfl (lq rfl lt0))))⟩))))))
   .refine zbr (zbi (zbk (zbj (zaa ⟨_,v11_l14,h,s1 rfl⟩))))
 .refine sr (qm (.exact v11_j3) rfl (qa (.exact v11_j3) rfl (gc (zbn ?_))))
  obtain rfl:=oi h
  refine ke (pt AF0 8 (.row 3 zac j)) [] rfl (Sub.trans (SubU.to (SubU.freezeT (s:=8) rfl zda)) (s1 rfl)) ⟨rfl,rfl⟩
theorem m_ref21_turns_F_ok (H:(List UInt8)->(List (List Int))->Option (List ((List Int)×Int×(List UInt8)))) (hself_ref21_turns: ∀(a0:List UInt8) (a1:List (List Int)) (r:(List ((List Int)×Int×(List UInt8)))),H a0 a1=some r->Pure Tryz.prog 57 [(.exact (.string (bs a0))),(.row 1 zdz a1)] (.row 3 zac r)) (a0:List UInt8) (a1:List (List Int)) (r:(List ((List Int)×Int×(List UInt8)))) (h:m_ref21_turns_F H a0 a1=some r):Pure Tryz.prog 57 [(.exact (.string (bs a0))),(.row 1 zdz a1)] (.row 3 zac r):=by
 unfold m_ref21_turns_F at h
 refine Pure.ofFun (zam func57 rfl ntmps57 (by simp) rfl (res1 rfl) λ E hE=>zca (sr (qa (.exact (.slice none 0 0)) rfl (gd (qm (.xs a0) rfl ?_)))))
 obtain⟨y1,I,h⟩:=zae h
 refine gq (zal (zdm _ _ I) func45 (by kernel_rfl) (lc lf ln) (qa (.xi y1) rfl (gd (qm (.row 1 zdz a1) rfl (gq (zao (by kernel_rfl) rfl ?_))))))
 obtain⟨n2,h⟩:=zad h
 refine G_l rfl (op_make (enc:=zav) (zr:=(0:Int)) (by kernel_rfl) rfl rfl n2.1 n2.2 zdf zeroValue3 (λ _ _=>(Fit.ex Fit.nil0)) (λ v3=>qa (.exact v3) rfl (gc (zax h (λ(g:List Int)=>(pt (pt (pt (pt AF0 0 (.xs a0)) 1 (.row 1 zdz a1)) 5 (.xi y1)) 6 (.exact v3))) (λ(g:List Int)=>[vecT Tryz.prog 22 1 zav v3 g]) (λ k4 h=> ?_) (λ g h=> ?_)))))
 .refine sr (qa (.xi 0) rfl (gc (zaq (zey (m_ref21_turns_L2 k4) (m_ref21_turns_B2 k4) (λ _ _=>rfl) (λ m _ _=>rfl) h (λ(v:List Int) (k:Int)=>(pt (pt (pt (pt (pt AF0 0 (.xs a0)) 1 (.row 1 zdz a1)) 5 (.xi y1)) 6 (.exact v3)) 7 (.xi k))) (λ(v:List Int) (k:Int)=>[vecT Tryz.prog 22 1 zav v3 v]) ?_ (λ W v k h=> ?_)))))
  .exact so (l4 rfl rfl rfl rfl (lq rfl lt0))
  .unfold m_ref21_turns_B2 at h
   refine zan (sr (qm (.xi k) rfl (qm (.exact v3) rfl (G_r rfl (zcl (by kernel_rfl) rfl (gq (zbm rfl rfl (gc (kd (p:=k<(List.length v:Int)) rfl h (λ hc h=> ?_) (λ hc h=> ?_))))))))))
   .refine zap (zaf (zan (zaq (kr (qm (.exact v3) rfl (qm (.xi k) rfl ?_))))))
    obtain⟨n11,h⟩:=zad h
    refine G_r rfl (zbl (by kernel_rfl) rfl rfl n11.1 n11.2 (G_l rfl (zcm (i:=k) (o:=0) (z:=(-1)) (c':=[.xi (-1)]) (by kernel_rfl) zdf rfl n11.1 n11.2 rfl CellsOf.int (lc lf ln) (OneC.int OneC.nil) (by kernel_rfl) (Nat.le_of_ble_eq_true rfl) rfl (zbc (zau (zaf (kr (qm (.xi k) rfl (gq (zbo rfl rfl rfl (qa (.xi (i64 (k+1))) rfl (zbc (zaa ⟨_,_,h,so (l4 rfl rfl rfl rfl (lq rfl lt0))⟩)))))))))))))
   .refine zbr (zbi (zbk (zbj (zaa ⟨_,h,s4 rfl rfl rfl rfl⟩))))
 .refine zbw h ((pt (pt (pt (pt AF0 0 (.xs a0)) 1 (.row 1 zdz a1)) 5 (.xi y1)) 6 (.exact v3))) ([vecT Tryz.prog 22 1 zav v3 g]) (λ k12 h=> ?_) (λ  h=> ?_)
  .refine sr (qm (.xi y1) rfl (gq (zbf rfl rfl (gc (kd (p:=y1=21) rfl h (λ hc h=> ?_) (λ hc h=> ?_))))))
   .refine sr (qm (.xs a0) rfl ?_)
    obtain⟨y171,J,h⟩:=zae h
    refine gq (zal (zeg _ _ J) func42 (by kernel_rfl) (lc lf ln) ?_)
    obtain⟨n172,h⟩:=zad h
    refine gq (zai (by kernel_rfl) rfl rfl n172.1 n172.2 (gq (zak (a:= .xs (gi y171 1)) (by kernel_rfl) rfl rfl ?_)))
    obtain⟨y173,K,h⟩:=zae h
    refine gq (zal (zdo _ _ K) func44 (by kernel_rfl) (lc lf ln) (qa (.xi y173) rfl (gd (qa (.exact (.slice none 0 0)) rfl (gc (zcb h (λ(w:List ((List Int)×Int×(List UInt8))) (v9_j174:Value)=>(pt AF0 9 (.exact v9_j174))) (λ(w:List ((List Int)×Int×(List UInt8))) (v9_j174:Value)=>[vecT Tryz.prog 133 3 zac v9_j174 w]) (λ k174 h=> ?_) (λ w v9_j174 h=> ?_)))))))
    .refine sr (qa (.xi 0) rfl (gc (zaq (k_loop3_1 (m_ref21_turns_L6 a0 a1 y173 k174) (m_ref21_turns_B6 a0 a1 y173 k174) (λ _ _ _=>rfl) (λ m _ _ _=>rfl) h (λ(l:List Int) (x:List ((List Int)×Int×(List UInt8))) (b:Int) (v9_l6:Value)=>(pt (pt (pt (pt (pt (pt AF0 0 (.xs a0)) 1 (.row 1 zdz a1)) 6 (.row 1 zav l)) 8 (.xi y173)) 9 (.exact v9_l6)) 10 (.xi b))) (λ(l:List Int) (x:List ((List Int)×Int×(List UInt8))) (b:Int) (v9_l6:Value)=>[vecT Tryz.prog 133 3 zac v9_l6 x]) (.slice none 0 0) ?_ (λ X l x b v9_l6 h=> ?_)))))
     .refine Sub.trans (SubU.to (SubU.freezeT (s:=6) rfl zdf)) (Sub.trans (SubU.to (SubU.nilT (P:=Tryz.prog) (t:=133) (n:=3) (enc:=zac))) (so (l4 rfl rfl rfl rfl (lq rfl (lq rfl lt0)))))
     .unfold m_ref21_turns_B6 at h
      refine zan (sr (qm (.xi b) rfl (qm (.row 1 zdz a1) rfl (qm (.xi y173) rfl ?_))))
      obtain⟨n304,h⟩:=zad h
      refine gq (zai (by kernel_rfl) rfl rfl n304.1 n304.2 (gq (zak (a:= .row 1 zav (gi a1 y173)) (by kernel_rfl) rfl rfl (gq (zao (by kernel_rfl) rfl (gq (zbm rfl rfl (gc (kd (p:=b<(List.length (gi a1 y173):Int)) rfl h (λ hc h=> ?_) (λ hc h=> ?_))))))))))
      .refine zap (zaf (zan (zaq (zan (k_planE [] [.op 0 0, .op 0 2, .op 0 3, .op 0 4, .op 0 5, .op 0 6, .op 0 7, .op 0 8, .op 0 9, .op 2 1, .op 0 10, .new 11 11 137 [.exact (.slice none 0 0), .xi ((([],0,[]):(List Int)×Int×(List UInt8)).2.1), .xs ((([],0,[]):(List Int)×Int×(List UInt8)).2.2)], .op 2 12] hmixP (by kernel_rfl) (NewOK.many [(0,0),(0,2),(0,3),(0,4),(0,5),(0,6),(0,7),(0,8),(0,9),(2,1),(0,10)] rfl (NewOK.fresh rfl rfl (lc lf (lc lf (lc lf ln))) (NewOK.many [(2,12)] rfl NewOK.nil))) (S_go [(0,0),(0,2),(0,3),(0,4),(0,5),(0,6),(0,7),(0,8),(0,9),(2,1),(0,10)] rfl (pq rfl (zah (av:= .row 1 zav l) rfl (pq rfl (zah (av:= .row 1 zdz a1) rfl (pq rfl (zah (av:= .xi y173) rfl ?_))))))))))))
       obtain⟨n317,h⟩:=zad h
       refine pq rfl (zai (by kernel_rfl) rfl rfl n317.1 n317.2 (pq rfl (zak (a:= .row 1 zav (gi a1 y173)) (by kernel_rfl) rfl rfl (pq rfl (zah (av:= .xi b) rfl ?_)))))
       obtain⟨n318,h⟩:=zad h
       refine pq rfl (zai (by kernel_rfl) rfl rfl n318.1 n318.2 (pq rfl (zak (a:= .xi (gi (gi a1 y173) b)) (by kernel_rfl) rfl rfl (pq rfl (zah (av:= .xs a0) rfl ?_)))))
       obtain⟨n319,h⟩:=zad h
       refine P_l rfl (op_appNs (enc:=zav) (by kernel_rfl) rfl rfl oc_c_int n319 (λ v320 hs_v320=>pq rfl (zft (c':=[.exact v320, .xi (gi (gi a1 y173) b), .xs a0]) (CellsAll.cons rfl (CellsOf.sl hs_v320) (CellsAll.cons rfl CellsOf.int (CellsAll.cons rfl CellsOf.str CellsAll.nil))) rfl (lc lf (lc lf (lc lf ln))) (S_new (λ b321=>S_go [(2,12)] rfl (P_l rfl (zbz (c':=[.exact v320, .xi (gi (gi a1 y173) b), .xs a0]) (c3:=[.exact v320, .xi (gi (gi a1 y173) b), .xs a0]) rfl rfl CellsOf.agg (lc lf (lc lf (lc lf ln))) (OneC.sl hs_v320 (OneC.int (OneC.str OneC.nil))) (by kernel_rfl) (Nat.le_of_ble_eq_true rfl) rfl (S_end (zaf (sr (gq (zba (o:=0) (by kernel_rfl) rfl (G_r rfl (zaz (a:= .exact v320) (by kernel_rfl) rfl rfl (qm (.xi y173) rfl (gq (zba (o:=1) (by kernel_rfl) rfl (G_r rfl (zaz (a:= .xi (gi (gi a1 y173) b)) (by kernel_rfl) rfl rfl ?_)))))))))))))))))))
       obtain⟨n322,h⟩:=zad h
       refine G_r rfl (opR_f1 (zbl (by kernel_rfl) rfl rfl n322.1 n322.2 (G_l rfl (opB_f1 (zcm (i:=y173) (o:=0) (z:=gi (gi a1 y173) b) (c':=[.xi (gi (gi a1 y173) b)]) (by kernel_rfl) zdf rfl n322.1 n322.2 rfl CellsOf.int (lc lf ln) (OneC.int OneC.nil) (by kernel_rfl) (Nat.le_of_ble_eq_true rfl) rfl (gc (zax h (λ(q:List UInt8)=>(pt (pt (pt (pt (pt (pt (pt AF0 0 (.xs a0)) 1 (.row 1 zdz a1)) 6 (.row 1 zav l)) 8 (.xi y173)) 9 (.exact v9_l6)) 10 (.xi b)) 11 (pA b321 0))) (λ(q:List UInt8)=>[vecT Tryz.prog 133 3 zac v9_l6 x,vecT Tryz.prog 22 1 zav v320 (List.set l (Int.toNat y173) (gi (gi a1 y173) b)),boxI 137 b321 [.exact v320, .xi (gi (gi a1 y173) b), .xs q]]) (λ k323 h=> ?_) (λ q h=> ?_))))))))
       .refine sr (gq (zba (o:=1) (by kernel_rfl) rfl (G_r rfl (opR_f1 (zaz (a:= .xi (gi (gi a1 y173) b)) (by kernel_rfl) rfl rfl (gq (zbf rfl rfl (gc (kd (p:=(gi (gi a1 y173) b)=1) rfl h (λ hc h=> ?_) (λ hc h=> ?_))))))))))
        .refine kr ?_
         obtain⟨y325,L,h⟩:=zae h
         refine gq (zal (m_ref16_Omega_ok _ L) func99 (by kernel_rfl) ln (gq (zba (o:=2) (by kernel_rfl) rfl (G_l rfl (opB_f1 (zbz (c':=[.xs y325]) (c3:=[.exact v320, .xi (gi (gi a1 y173) b), .xs y325]) rfl rfl CellsOf.str (lc lf ln) (OneC.str OneC.nil) (by kernel_rfl) (Nat.le_of_ble_eq_true rfl) rfl (zbc (zaa ⟨_,h, ?_⟩))))))))
         refine Sub.trans (SubU.to SubU.f1) (Sub.trans (SubU.to SubU.f2) (so (l4 rfl rfl rfl rfl (lq rfl (lq rfl (lq rfl lt0))))))
        .refine zap (zaa ⟨_,h, ?_⟩)
         refine Sub.trans (SubU.to SubU.f1) (Sub.trans (SubU.to SubU.f1) (Sub.trans (SubU.to SubU.f2) (so (l4 rfl rfl rfl rfl (lq rfl (lq rfl (lq rfl lt0)))))))
       .refine kr (qm (.exact v9_l6) rfl (G_sub rfl (SubU.trans (SubU.f1) (SubU.trans (SubU.know zdf) (SubU.trans (SubU.f2) (SubU.trans (SubU.f1) (SubU.trans (SubU.knowC (j:=0) (c':=[.row 1 zav (List.set l (Int.toNat y173) (gi (gi a1 y173) b)), .xi (gi (gi a1 y173) b), .xs q]) rfl rfl) (SubU.drop)))))) (G_r rfl (zei (m:=3) (c':=zac ((List.set l (Int.toNat y173) (gi (gi a1 y173) b)),gi (gi a1 y173) b,q)) (by kernel_rfl) rfl rfl rfl (gq (zcd (n:=3) (enc:=zac) [((List.set l (Int.toNat y173) (gi (gi a1 y173) b)),gi (gi a1 y173) b,q)] (CellsAll.cons rfl CellsOf.agg CellsAll.nil) rfl (by kernel_rfl) (LEss.cons (lc lf (lc lf (lc lf ln))) LEss.nil) ?_))))))
        obtain⟨n326,h⟩:=zad h
        refine G_l rfl (opB_f1 (zcu (by kernel_rfl) rfl rfl zcx n326 (λ v327=>qa (.exact v327) rfl (zbc (zau (zaf (kr (qm (.xi b) rfl (gq (zbo rfl rfl rfl (qa (.xi (i64 (b+1))) rfl (zbc (zaa ⟨_,_,_,v327,h, ?_⟩)))))))))))))
        refine Sub.trans (SubU.to SubU.f1) (Sub.trans (SubU.to SubU.drop) (so (l4 rfl rfl rfl rfl (lq rfl (lq rfl lt0)))))
      .refine zbr (zbi (zbk (zbj (zaa ⟨_,v9_l6,h,s1 rfl⟩))))
    .refine sr (qm (.exact v9_j174) rfl (qa (.exact v9_j174) rfl (gc (zbn (zek ?_)))))
     obtain rfl:=oi h
     refine ke (pt AF0 4 (.row 3 zac w)) [] rfl (Sub.trans (SubU.to (SubU.freezeT (s:=4) rfl zda)) (s1 rfl)) ⟨rfl,rfl⟩
   .refine zap (zaa ⟨h,s4 rfl rfl rfl rfl⟩)
  .refine sr (qm (.xs a0) rfl ?_)
   obtain⟨y328,M,h⟩:=zae h
   refine gq (zal (zfb _ _ M) func49 (by kernel_rfl) (lc lf ln) (qa (.row 1 zab y328) rfl (gc (zan (sr (qm (.row 1 zab y328) rfl (gq (zao (by kernel_rfl) rfl (gq (zbf rfl rfl (gc (kd (p:=(List.length y328:Int)=0) rfl h (λ hc h=> ?_) (λ hc h=> ?_)))))))))))))
   .refine sr (qa (.exact (.slice none 0 0)) rfl (gc (zbn (zdb ?_))))
    obtain rfl:=oi h
    refine ke (pt AF0 4 (.row 3 zac [])) [] rfl (Sub.trans (SubU.to SubU.drop) (so (AF.le_put (zcy (by decide)) lt0))) ⟨rfl,rfl⟩
   .refine zap (zaf (sr (qm (.row 1 zab y328) rfl ?_)))
    obtain⟨n329,h⟩:=zad h
    refine gq (zai (by kernel_rfl) rfl rfl n329.1 n329.2 (gq (zak (a:= .xs (gi y328 0)) (by kernel_rfl) rfl rfl (qm (.row 1 zdz a1) rfl ?_))))
    obtain⟨y330,N,h⟩:=zae h
    refine gq (zal (hself_ref21_turns _ _ _ N) func57 (by kernel_rfl) (lc lf (lc lf ln)) (qa (.row 3 zac y330) rfl (gd (qa (.exact (.slice none 0 0)) rfl (gc (zax h (λ(c:List ((List Int)×Int×(List UInt8)))=>(pt (pt (pt (pt (pt (pt AF0 0 (.xs a0)) 5 (.xi y1)) 6 (.exact v3)) 12 (.row 1 zab y328)) 13 (.row 3 zac y330)) 14 (.row 3 zac c))) (λ(c:List ((List Int)×Int×(List UInt8)))=>[vecT Tryz.prog 22 1 zav v3 g]) (λ k331 h=> ?_) (λ c h=> ?_)))))))
    .refine sr (qm (.row 1 zab y328) rfl (gq (zao (by kernel_rfl) rfl (gq (zfx rfl rfl (gc (kd (p:=1<(List.length y328:Int)) rfl h (λ hc h=> ?_) (λ hc h=> ?_))))))))
     .refine kr (qm (.row 1 zab y328) rfl ?_)
      obtain⟨n334,h⟩:=zad h
      refine gq (zai (by kernel_rfl) rfl rfl n334.1 n334.2 (gq (zak (a:= .xs (gi y328 1)) (by kernel_rfl) rfl rfl (qm (.row 1 zdz a1) rfl ?_))))
      obtain⟨y335,O,h⟩:=zae h
      refine gq (zal (hself_ref21_turns _ _ _ O) func57 (by kernel_rfl) (lc lf (lc lf ln)) (qa (.row 3 zac y335) rfl (zbc (zaa ⟨_,h,so (l4 rfl rfl rfl rfl (lq rfl (lq rfl lt0)))⟩))))
     .refine zap (zaa ⟨_,h,so (AF.le_put (zcy (by decide)) (l4 rfl rfl rfl rfl (lq rfl lt0)))⟩)
    .refine zan (zax h (λ(y:Bool)=>(pt (pt (pt (pt (pt AF0 0 (.xs a0)) 6 (.exact v3)) 13 (.row 3 zac y330)) 14 (.row 3 zac c)) 115 (.xb y))) (λ(y:Bool)=>[vecT Tryz.prog 22 1 zav v3 g]) (λ k340 h=> ?_) (λ y h=> ?_))
     .refine kr (qm (.row 1 zab y328) rfl (gq (zao (by kernel_rfl) rfl (gq (zfx rfl rfl (qm (.xb (decide (1<(List.length y328:Int)))) rfl (zcc (p:=1<(List.length y328:Int)) 99 rfl (λ hc=> ?_) (λ hc=> ?_))))))))
      .replace h:=zcg h hc
       refine gy (zah (av:= .xi y1) rfl (gy (zfr rfl rfl (gq (zat rfl (av:= .xb (decide (¬y1=7))) rfl (qm (.xb (decide (¬y1=7))) rfl (zcc (p:= ¬y1=7) 103 rfl (λ hc=> ?_) (λ hc=> ?_))))))))
       .replace h:=zcg h hc
        refine gy (zah (av:= .xi y1) rfl (gy (zfr rfl rfl (gq (zat rfl (av:= .xb (decide (¬y1=10))) rfl (qm (.xb (decide (¬y1=10))) rfl (zcc (p:= ¬y1=10) 107 rfl (λ hc=> ?_) (λ hc=> ?_))))))))
        .replace h:=zcg h hc
         refine gy (zah (av:= .xi y1) rfl (gy (zfr rfl rfl (gq (zat rfl (av:= .xb (decide (¬y1=13))) rfl (qm (.xb (decide (¬y1=13))) rfl (zcc (p:= ¬y1=13) 111 rfl (λ hc=> ?_) (λ hc=> ?_))))))))
         .replace h:=zcg h hc
          refine gy (zah (av:= .xi y1) rfl ?_)
          obtain⟨y342,Q,h⟩:=zae h
          refine gy (zal (m_ref21_Parallel_ok _ _ Q) func48 (by kernel_rfl) (lc lf ln) (gy (zdh rfl (gq (zat rfl (av:= .xb (!y342)) rfl (zbc (zaa ⟨_,h,so (l4 rfl rfl rfl rfl (lq rfl lt0))⟩)))))))
         .replace h:=zcf h hc
          refine gn (gn (gn (gq (zar rfl (av:= .xb false) rfl (zbc (zaa ⟨_,h,so (l4 rfl rfl rfl rfl (lq rfl lt0))⟩))))))
        .replace h:=zcf h hc
         refine gn (gn (gq (zar rfl (av:= .xb false) rfl (qm (.xb false) rfl (gn (gn (gn (gq (zar rfl (av:= .xb false) rfl (zbc (zaa ⟨_,h,so (l4 rfl rfl rfl rfl (lq rfl lt0))⟩)))))))))))
       .replace h:=zcf h hc
        refine gn (gn (gq (zar rfl (av:= .xb false) rfl (qm (.xb false) rfl (gn (gn (gq (zar rfl (av:= .xb false) rfl (qm (.xb false) rfl (gn (gn (gn (gq (zar rfl (av:= .xb false) rfl (zbc (zaa ⟨_,h,so (l4 rfl rfl rfl rfl (lq rfl lt0))⟩))))))))))))))))
      .replace h:=zcf h hc
       refine gn (gn (gq (zar rfl (av:= .xb false) rfl (qm (.xb false) rfl (gn (gn (gq (zar rfl (av:= .xb false) rfl (qm (.xb false) rfl (gn (gn (gq (zar rfl (av:= .xb false) rfl (qm (.xb false) rfl (gn (gn (gn (gq (zar rfl (av:= .xb false) rfl (zbc (zaa ⟨_,h,so (l4 rfl rfl rfl rfl (lq rfl lt0))⟩)))))))))))))))))))))
     .refine kb (p:=y) rfl h (λ hc h=> ?_) (λ hc h=> ?_)
      .cases h
      .refine zap (zaf (sr (qa (.exact (.slice none 0 0)) rfl (gd (qm (.exact (.slice none 0 0)) rfl (qm (.xs a0) rfl (qm (.row 3 zac y330) rfl ?_)))))))
       obtain⟨y343,R,h⟩:=zae h
       refine gq (zal (m_ref21_single_ok _ _ _ _ _ R) func100 (by kernel_rfl) (lc lf (lc lf (lc (zcy (by decide)) (lc lf ln)))) ?_)
       obtain⟨n344,h⟩:=zad h
       refine G_l rfl (op_appN (enc:=zac) (by kernel_rfl) rfl rfl zcx n344 (λ v345=>qa (.exact v345) rfl (gd (qm (.exact v345) rfl (qm (.xs a0) rfl (qm (.row 3 zac c) rfl ?_))))))
       obtain⟨y346,S,h⟩:=zae h
       refine gq (zal (m_ref21_single_ok _ _ _ _ _ S) func100 (by kernel_rfl) (lc lf (lc (zcy (by decide)) (lc lf (lc lf ln)))) ?_)
       obtain⟨n347,h⟩:=zad h
       refine G_l rfl (zcu (by kernel_rfl) rfl rfl zcx n347 (λ v348=>qa (.exact v348) rfl (gc (zcb h (λ(B:List ((List Int)×Int×(List UInt8))) (v15_j349:Value)=>(pt (pt (pt AF0 0 (.xs a0)) 6 (.exact v3)) 15 (.exact v15_j349))) (λ(B:List ((List Int)×Int×(List UInt8))) (v15_j349:Value)=>[vecT Tryz.prog 22 1 zav v3 g,vecT Tryz.prog 133 3 zac v15_j349 B]) (λ k349 h=> ?_) (λ B v15_j349 h=> ?_)))))
       .refine sr (qa (.xi 0) rfl (gc (zaq (zcz (m_ref21_turns_L14 a0 y330 c k349) (m_ref21_turns_B14 a0 y330 c k349) (λ _ _=>rfl) (λ m _ _=>rfl) h (λ(C:List ((List Int)×Int×(List UInt8))) (d:Int) (v15_l14:Value)=>(pt (pt (pt (pt (pt (pt AF0 0 (.xs a0)) 6 (.exact v3)) 13 (.row 3 zac y330)) 14 (.row 3 zac c)) 15 (.exact v15_l14)) 16 (.xi d))) (λ(C:List ((List Int)×Int×(List UInt8))) (d:Int) (v15_l14:Value)=>[vecT Tryz.prog 22 1 zav v3 g,vecT Tryz.prog 133 3 zac v15_l14 C]) v348 ?_ (λ Y C d v15_l14 h=> ?_)))))
        .refine Sub.trans (SubU.to SubU.f1) (so (l4 rfl rfl rfl rfl (lq rfl (lq rfl lt0))))
        .unfold m_ref21_turns_B14 at h
         refine zan (sr (qm (.xi d) rfl (qm (.row 3 zac y330) rfl (gq (zao (by kernel_rfl) rfl (gq (zbm rfl rfl (gc (kd (p:=d<(List.length y330:Int)) rfl h (λ hc h=> ?_) (λ hc h=> ?_))))))))))
         .refine zap (zaf (zcb h (λ(D:List ((List Int)×Int×(List UInt8))) (v15_j666:Value)=>(pt (pt (pt (pt (pt (pt AF0 0 (.xs a0)) 6 (.exact v3)) 13 (.row 3 zac y330)) 14 (.row 3 zac c)) 15 (.exact v15_j666)) 16 (.xi d))) (λ(D:List ((List Int)×Int×(List UInt8))) (v15_j666:Value)=>[vecT Tryz.prog 22 1 zav v3 g,vecT Tryz.prog 133 3 zac v15_j666 D]) (λ k666 h=> ?_) (λ D v15_j666 h=> ?_)))
          .refine zaq (sr (qa (.xi 0) rfl (gc (zaq (zcz (m_ref21_turns_L20 a0 y330 c d k666) (m_ref21_turns_B20 a0 y330 c d k666) (λ _ _=>rfl) (λ m _ _=>rfl) h (λ(F:List ((List Int)×Int×(List UInt8))) (e:Int) (v15_l20:Value)=>(pt (pt (pt (pt (pt (pt (pt AF0 0 (.xs a0)) 6 (.exact v3)) 13 (.row 3 zac y330)) 14 (.row 3 zac c)) 15 (.exact v15_l20)) 16 (.xi d)) 17 (.xi e))) (λ(F:List ((List Int)×Int×(List UInt8))) (e:Int) (v15_l20:Value)=>[vecT Tryz.prog 22 1 zav v3 g,vecT Tryz.prog 133 3 zac v15_l20 F]) v15_l14 ?_ (λ Z F e v15_l20 h=> ?_))))))
           .exact so (l4 rfl rfl rfl rfl (lq rfl (lq rfl (lq rfl lt0))))
           .unfold m_ref21_turns_B20 at h
            refine zan (sr (qm (.xi e) rfl (qm (.row 3 zac c) rfl (gq (zao (by kernel_rfl) rfl (gq (zbm rfl rfl (gc (kd (p:=e<(List.length c:Int)) rfl h (λ hc h=> ?_) (λ hc h=> ?_))))))))))
            .refine zap (zaf (zan (zaq (zan (zck [] [(0,0),(0,1),(0,2),(0,3),(0,4),(0,5),(0,6),(0,7),(0,8),(0,9),(0,10),(0,11),(0,12),(0,13),(0,14),(0,15),(0,16),(0,17),(0,18),(0,19),(0,20),(0,21),(0,22),(0,23),(0,24),(0,25),(0,26)] hmixP (by kernel_rfl) (pq rfl (zah (av:= .xs a0) rfl (pq rfl (zah (av:= .row 3 zac y330) rfl (pq rfl (zah (av:= .xi d) rfl ?_)))))))))))
             obtain⟨n718,h⟩:=zad h
             refine pq rfl (zai (by kernel_rfl) rfl rfl n718.1 n718.2 (pq rfl (zaj (o:=1) (c':=(List.drop 1 (zac (gi y330 d)))) (by kernel_rfl) rfl rfl (pq rfl (zak (a:= .xi ((gi y330 d).2.1)) (by kernel_rfl) rfl rfl (pq rfl (zah (av:= .row 3 zac y330) rfl (pq rfl (zah (av:= .xi d) rfl ?_)))))))))
             obtain⟨n719,h⟩:=zad h
             refine pq rfl (zai (by kernel_rfl) rfl rfl n719.1 n719.2 (pq rfl (zaj (o:=2) (c':=(List.drop 2 (zac (gi y330 d)))) (by kernel_rfl) rfl rfl (pq rfl (zak (a:= .xs ((gi y330 d).2.2)) (by kernel_rfl) rfl rfl (pq rfl (zft (c':=zag ((gi y330 d).2.1,(gi y330 d).2.2)) (CellsAll.cons rfl CellsOf.int (CellsAll.cons rfl CellsOf.str CellsAll.nil)) rfl (lc lf (lc lf ln)) (pq rfl (zcd (n:=2) (enc:=zag) [((gi y330 d).2.1,(gi y330 d).2.2)] (CellsAll.cons rfl CellsOf.agg CellsAll.nil) rfl (by kernel_rfl) (LEss.cons (lc lf (lc lf ln)) LEss.nil) (pq rfl (zah (av:= .row 3 zac c) rfl (pq rfl (zah (av:= .xi e) rfl ?_)))))))))))))
             obtain⟨n720,h⟩:=zad h
             refine pq rfl (zai (by kernel_rfl) rfl rfl n720.1 n720.2 (pq rfl (zaj (o:=1) (c':=(List.drop 1 (zac (gi c e)))) (by kernel_rfl) rfl rfl (pq rfl (zak (a:= .xi ((gi c e).2.1)) (by kernel_rfl) rfl rfl (pq rfl (zah (av:= .row 3 zac c) rfl (pq rfl (zah (av:= .xi e) rfl ?_)))))))))
             obtain⟨n721,h⟩:=zad h
             refine pq rfl (zai (by kernel_rfl) rfl rfl n721.1 n721.2 (pq rfl (zaj (o:=2) (c':=(List.drop 2 (zac (gi c e)))) (by kernel_rfl) rfl rfl (pq rfl (zak (a:= .xs ((gi c e).2.2)) (by kernel_rfl) rfl rfl (pq rfl (zft (c':=zag ((gi c e).2.1,(gi c e).2.2)) (CellsAll.cons rfl CellsOf.int (CellsAll.cons rfl CellsOf.str CellsAll.nil)) rfl (lc lf (lc lf ln)) (pq rfl (zcd (n:=2) (enc:=zag) [((gi c e).2.1,(gi c e).2.2)] (CellsAll.cons rfl CellsOf.agg CellsAll.nil) rfl (by kernel_rfl) (LEss.cons (lc lf (lc lf ln)) LEss.nil) ?_)))))))))
             obtain⟨y722,T,h⟩:=zae h
             refine pq rfl (zal (zeu _ _ _ _ T) func101 (by kernel_rfl) (lc lf (lc lf (lc lf ln))) (pq rfl (zcj (av:= .row 2 zag y722) rfl (zcn (zaf (zck [] [(0,0),(0,1),(0,2),(0,3),(0,4),(0,5),(0,6),(0,7),(0,8),(0,9),(0,10),(0,11),(2,12),(0,13)] hmixP (by kernel_rfl) (pq rfl (zah (av:= .exact v15_l20) rfl (pq rfl (zah (av:= .xs a0) rfl (pq rfl (zah (av:= .row 2 zag y722) rfl (pq rfl (zah (av:= .row 3 zac y330) rfl (pq rfl (zah (av:= .xi d) rfl ?_))))))))))))))))
             obtain⟨n723,h⟩:=zad h
             refine pq rfl (zai (by kernel_rfl) rfl rfl n723.1 n723.2 (pq rfl (zbx (m:=3) (c':=zac (gi y330 d)) (by kernel_rfl) rfl rfl rfl (pq rfl (zah (av:= .row 3 zac c) rfl (pq rfl (zah (av:= .xi e) rfl ?_)))))))
             obtain⟨n724,h⟩:=zad h
             refine pq rfl (zai (by kernel_rfl) rfl rfl n724.1 n724.2 (pq rfl (zbx (m:=3) (c':=zac (gi c e)) (by kernel_rfl) rfl rfl rfl ?_)))
             obtain⟨y725,U,h⟩:=zae h
             refine pq rfl (zal (m_ref21_both_ok _ _ _ _ _ U) func102 (by kernel_rfl) (lc lf (lc lf (lc lf (lc lf ln)))) ?_)
             obtain⟨n726,h⟩:=zad h
             refine P_l rfl (opB_f1 (zcu (by kernel_rfl) rfl rfl zcx n726 (λ v727=>pq rfl (zcj (av:= .exact v727) rfl (zcn (zau (zaf (kr (qm (.xi e) rfl (gq (zbo rfl rfl rfl (qa (.xi (i64 (e+1))) rfl (zbc (zaa ⟨_,_,v727,h, ?_⟩))))))))))))))
             refine Sub.trans (SubU.to SubU.f1) (so (l4 rfl rfl rfl rfl (lq rfl (lq rfl (lq rfl lt0)))))
            .refine zbr (zbi (zbk (zbj (zau (zaa ⟨_,v15_l20,h,so (l4 rfl rfl rfl rfl (lq rfl (lq rfl lt0)))⟩)))))
          .refine kr (qm (.xi d) rfl (gq (zbo rfl rfl rfl (qa (.xi (i64 (d+1))) rfl (zbc (zaa ⟨_,_,v15_j666,h,so (l4 rfl rfl rfl rfl (lq rfl (lq rfl lt0)))⟩))))))
         .refine zbr (zbi (zbk (zbj (zaa ⟨_,v15_l14,h,s3 rfl rfl rfl⟩))))
       .refine zcb h (λ(A:List ((List Int)×Int×(List UInt8))) (v15_j728:Value)=>(pt AF0 15 (.exact v15_j728))) (λ(A:List ((List Int)×Int×(List UInt8))) (v15_j728:Value)=>[vecT Tryz.prog 133 3 zac v15_j728 A]) (λ k728 h=> ?_) (λ A v15_j728 h=> ?_)
        .refine sr (qm (.xs a0) rfl ?_)
         obtain⟨y745,V,h⟩:=zae h
         refine gq (zal (zeu _ _ _ _ V) func101 (by kernel_rfl) (lc lf (lc (zcy (by decide)) (lc (zcy (by decide)) ln))) (qa (.row 2 zag y745) rfl (gd (qm (.row 2 zag y745) rfl (gq (zao (by kernel_rfl) rfl (gq (zfx rfl rfl (gc (kd (p:=0<(List.length y745:Int)) rfl h (λ hc h=> ?_) (λ hc h=> ?_)))))))))))
         .refine sr (qa (.xi 0) rfl (gc (zaq (k_loop3_1 (m_ref21_turns_L22 k728 y745) (m_ref21_turns_B22 k728 y745) (λ _ _ _=>rfl) (λ m _ _ _=>rfl) h (λ(u:List Int) (G:List ((List Int)×Int×(List UInt8))) (f:Int) (v15_l22:Value)=>(pt (pt (pt (pt AF0 6 (.row 1 zav u)) 15 (.exact v15_l22)) 19 (.row 2 zag y745)) 20 (.xi f))) (λ(u:List Int) (G:List ((List Int)×Int×(List UInt8))) (f:Int) (v15_l22:Value)=>[vecT Tryz.prog 133 3 zac v15_l22 G]) v15_j349 ?_ (λ aa u G f v15_l22 h=> ?_)))))
          .refine Sub.trans (SubU.to (SubU.freezeT (s:=6) rfl zdf)) (s4 rfl rfl rfl rfl)
          .unfold m_ref21_turns_B22 at h
           refine zan (sr (qm (.xi f) rfl (qm (.row 2 zag y745) rfl (gq (zao (by kernel_rfl) rfl (gq (zbm rfl rfl (gc (kd (p:=f<(List.length y745:Int)) rfl h (λ hc h=> ?_) (λ hc h=> ?_))))))))))
           .refine zap (zaf (zan (zaq (zck [] [(0,0),(0,1),(0,2),(0,3),(0,4),(0,5),(0,6),(0,7),(0,8),(0,9),(0,10),(0,11),(0,12),(0,13),(2,14),(0,15)] hmixP (by kernel_rfl) (pq rfl (zah (av:= .exact v15_l22) rfl (pq rfl (zah (av:= .row 1 zav u) rfl (pq rfl (zah (av:= .row 2 zag y745) rfl (pq rfl (zah (av:= .xi f) rfl ?_))))))))))))
            obtain⟨n756,h⟩:=zad h
            refine pq rfl (zai (by kernel_rfl) rfl rfl n756.1 n756.2 (pq rfl (zaj (o:=0) (c':=(List.drop 0 (zag (gi y745 f)))) (by kernel_rfl) rfl rfl (pq rfl (zak (a:= .xi ((gi y745 f).1)) (by kernel_rfl) rfl rfl (pq rfl (zah (av:= .row 2 zag y745) rfl (pq rfl (zah (av:= .xi f) rfl ?_)))))))))
            obtain⟨n757,h⟩:=zad h
            refine pq rfl (zai (by kernel_rfl) rfl rfl n757.1 n757.2 (pq rfl (zaj (o:=1) (c':=(List.drop 1 (zag (gi y745 f)))) (by kernel_rfl) rfl rfl (pq rfl (zak (a:= .xs ((gi y745 f).2)) (by kernel_rfl) rfl rfl (pq rfl (zft (c':=zac (u,(gi y745 f).1,(gi y745 f).2)) (CellsAll.cons rfl CellsOf.row (CellsAll.cons rfl CellsOf.int (CellsAll.cons rfl CellsOf.str CellsAll.nil))) rfl (lc lf (lc lf (lc lf ln))) (pq rfl (zcd (n:=3) (enc:=zac) [(u,(gi y745 f).1,(gi y745 f).2)] (CellsAll.cons rfl CellsOf.agg CellsAll.nil) rfl (by kernel_rfl) (LEss.cons (lc lf (lc lf (lc lf ln))) LEss.nil) ?_)))))))))
            obtain⟨n758,h⟩:=zad h
            refine P_l rfl (zcu (by kernel_rfl) rfl rfl zcx n758 (λ v759=>pq rfl (zcj (av:= .exact v759) rfl (zcn (zau (zaf (kr (qm (.xi f) rfl (gq (zbo rfl rfl rfl (qa (.xi (i64 (f+1))) rfl (zbc (zaa ⟨_,_,_,v759,h,s4 rfl rfl rfl rfl⟩)))))))))))))
           .refine zbr (zbi (zbk (zbj (zaa ⟨_,v15_l22,h,s1 rfl⟩))))
         .refine zap (zaa ⟨_,v15_j349,h, ?_⟩)
          refine Sub.trans (SubU.to SubU.drop) (s1 rfl)
        .refine sr (qm (.exact v15_j728) rfl (qa (.exact v15_j728) rfl (gc (zbn ?_))))
         obtain rfl:=oi h
         refine ke (pt AF0 4 (.row 3 zac A)) [] rfl (Sub.trans (SubU.to (SubU.freezeT (s:=4) rfl zda)) (s1 rfl)) ⟨rfl,rfl⟩
theorem m_ref21_turns_S_ok: ∀n:Nat,(∀(a0:List UInt8) (a1:List (List Int)) (r:(List ((List Int)×Int×(List UInt8)))),m_ref21_turns_S n a0 a1=some r->Pure Tryz.prog 57 [(.exact (.string (bs a0))),(.row 1 zdz a1)] (.row 3 zac r))
  |0=>(λ _ _ _ h=>by have h':(none:Option _)=some _:=h;cases h')
  |n+1=>by
    have ih:=m_ref21_turns_S_ok n
    exact λ a0 a1 r h=>m_ref21_turns_F_ok (m_ref21_turns_S n) ih a0 a1 r h
theorem m_ref21_turns_ok (a0:List UInt8) (a1:List (List Int)) (r:(List ((List Int)×Int×(List UInt8)))) (h:m_ref21_turns a0 a1=some r):Pure Tryz.prog 57 [(.exact (.string (bs a0))),(.row 1 zdz a1)] (.row 3 zac r):=(m_ref21_turns_S_ok FU) a0 a1 r h
theorem m_ref21_order_ok (a0:(List Int)×Int×(List UInt8)) (a1:(List Int)×Int×(List UInt8)) (r:Int) (h:m_ref21_order a0 a1=some r):Pure Tryz.prog 98 [(.agg (zac a0)),(.agg (zac a1))] (.exact (.int .i64 r)):=by
 unfold m_ref21_order at h
 refine Pure.ofFun (zam func98 rfl ntmps98 (by simp) rfl (res1 rfl) λ E hE=>zca (sr (gq (zfe (c:=zac a0) rfl CellsOf.agg (gq (zfe (c:=zac a1) rfl CellsOf.agg (qa (.xi 0) rfl (gc (zbw h ((pt (pt AF0 2 (.ptr (zac a0))) 3 (.ptr (zac a1)))) ([]) (λ k1 h=> ?_) (λ  h=> ?_))))))))))
 .refine sr (qa (.xi 0) rfl (gc (zaq (zcr (m_ref21_order_L2 a0 a1 k1) (m_ref21_order_B2 a0 a1 k1) (λ _=>rfl) (λ m _=>rfl) h (λ(b:Int)=>(pt (pt (pt AF0 2 (.ptr (zac a0))) 3 (.ptr (zac a1))) 5 (.xi b))) (λ(b:Int)=>[]) ?_ (λ d b h=> ?_)))))
  .exact s3 rfl rfl rfl
  .unfold m_ref21_order_B2 at h
   refine zan (sr (qm (.xi b) rfl (gq (zaj (o:=0) (c':=(List.drop 0 (zac a0))) (by kernel_rfl) rfl rfl (gq (zak (a:= .row 1 zav a0.1) (by kernel_rfl) rfl rfl (gq (zao (by kernel_rfl) rfl (gq (zbm rfl rfl (gc (kd (p:=b<(List.length a0.1:Int)) rfl h (λ hc h=> ?_) (λ hc h=> ?_)))))))))))))
   .refine zap (zaf (zan (zaq (zan (zck [] [(0,0),(0,1),(0,2),(0,3),(0,4),(0,5),(0,6),(0,7),(0,8),(0,9),(0,10)] hmixP (by kernel_rfl) (pq rfl (zaj (o:=0) (c':=(List.drop 0 (zac a0))) (by kernel_rfl) rfl rfl (pq rfl (zak (a:= .row 1 zav a0.1) (by kernel_rfl) rfl rfl (pq rfl (zah (av:= .xi b) rfl ?_)))))))))))
    obtain⟨n23,h⟩:=zad h
    refine pq rfl (zai (by kernel_rfl) rfl rfl n23.1 n23.2 (pq rfl (zak (a:= .xi (gi a0.1 b)) (by kernel_rfl) rfl rfl (pq rfl (zaj (o:=0) (c':=(List.drop 0 (zac a1))) (by kernel_rfl) rfl rfl (pq rfl (zak (a:= .row 1 zav a1.1) (by kernel_rfl) rfl rfl (pq rfl (zah (av:= .xi b) rfl ?_)))))))))
    obtain⟨n24,h⟩:=zad h
    refine pq rfl (zai (by kernel_rfl) rfl rfl n24.1 n24.2 (pq rfl (zak (a:= .xi (gi a1.1 b)) (by kernel_rfl) rfl rfl (pq rfl (zfr rfl rfl (zcn (zaf (kd (p:= ¬(gi a0.1 b)=(gi a1.1 b)) rfl h (λ hc h=> ?_) (λ hc h=> ?_)))))))))
    .refine zan (zck [] [(0,0),(0,1),(0,2),(0,3),(0,4),(0,5),(0,6),(0,7),(0,8),(0,9),(0,10),(0,11)] hmixP (by kernel_rfl) (pq rfl (zaj (o:=0) (c':=(List.drop 0 (zac a0))) (by kernel_rfl) rfl rfl (pq rfl (zak (a:= .row 1 zav a0.1) (by kernel_rfl) rfl rfl (pq rfl (zah (av:= .xi b) rfl ?_)))))))
     obtain⟨n25,h⟩:=zad h
     refine pq rfl (zai (by kernel_rfl) rfl rfl n25.1 n25.2 (pq rfl (zak (a:= .xi (gi a0.1 b)) (by kernel_rfl) rfl rfl (pq rfl (zaj (o:=0) (c':=(List.drop 0 (zac a1))) (by kernel_rfl) rfl rfl (pq rfl (zak (a:= .row 1 zav a1.1) (by kernel_rfl) rfl rfl (pq rfl (zah (av:= .xi b) rfl ?_)))))))))
     obtain⟨n26,h⟩:=zad h
     refine pq rfl (zai (by kernel_rfl) rfl rfl n26.1 n26.2 (pq rfl (zak (a:= .xi (gi a1.1 b)) (by kernel_rfl) rfl rfl (pq rfl (op_sub rfl rfl rfl (pq rfl (zcj (av:= .xi (i64 ((gi a0.1 b) - (gi a1.1 b)))) rfl (zcn (zaf (zbn (zde (zdb (zek (zde (zek ?_)))))))))))))))
     obtain rfl:=oi h
     refine ke (pt AF0 4 (.xi (i64 ((gi a0.1 b) - (gi a1.1 b))))) [] rfl (s1 rfl) ⟨rfl,rfl⟩
    .refine zap (zau (zaf (kr (qm (.xi b) rfl (gq (zbo rfl rfl rfl (qa (.xi (i64 (b+1))) rfl (zbc (zaa ⟨_,h,s3 rfl rfl rfl⟩)))))))))
   .refine zbr (zbi (zbk (zbj (zaa ⟨h,s2 rfl rfl⟩))))
 .refine zan (zan ?_)
  cases h
theorem m_ref21_sorted_ok (a0:List ((List Int)×Int×(List UInt8))) (r:(List ((List Int)×Int×(List UInt8)))) (h:m_ref21_sorted a0=some r):Pure Tryz.prog 56 [(.row 3 zac a0)] (.row 3 zac r):=by
 unfold m_ref21_sorted at h
 refine Pure.ofFun (zam func56 rfl ntmps56 (by simp) rfl (res1 rfl) λ E hE=>zca (sr (qa (.exact (.slice none 0 0)) rfl (gd (qa (.exact (.slice none 0 0)) rfl (gc (zcb h (λ(e:List ((List Int)×Int×(List UInt8))) (v3_j1:Value)=>(pt AF0 3 (.exact v3_j1))) (λ(e:List ((List Int)×Int×(List UInt8))) (v3_j1:Value)=>[vecT Tryz.prog 133 3 zac v3_j1 e]) (λ k1 h=> ?_) (λ e v3_j1 h=> ?_))))))))
 .refine sr (qa (.xi 0) rfl (gc (zaq (zcz (m_ref21_sorted_L14 a0 k1) (m_ref21_sorted_B14 a0 k1) (λ _ _=>rfl) (λ m _ _=>rfl) h (λ(b:List ((List Int)×Int×(List UInt8))) (a:Int) (v3_l14:Value)=>(pt (pt (pt AF0 0 (.row 3 zac a0)) 3 (.exact v3_l14)) 4 (.xi a))) (λ(b:List ((List Int)×Int×(List UInt8))) (a:Int) (v3_l14:Value)=>[vecT Tryz.prog 133 3 zac v3_l14 b]) (.slice none 0 0) ?_ (λ u b a v3_l14 h=> ?_)))))
  .refine Sub.trans (SubU.to (SubU.nilT (P:=Tryz.prog) (t:=133) (n:=3) (enc:=zac))) (s3 rfl rfl rfl)
  .unfold m_ref21_sorted_B14 at h
   refine zan (sr (qm (.xi a) rfl (qm (.row 3 zac a0) rfl (gq (zao (by kernel_rfl) rfl (gq (zbm rfl rfl (gc (kd (p:=a<(List.length a0:Int)) rfl h (λ hc h=> ?_) (λ hc h=> ?_))))))))))
   .refine zap (zaf (zcb h (λ(j:List ((List Int)×Int×(List UInt8))) (v3_j868:Value)=>(pt (pt (pt AF0 0 (.row 3 zac a0)) 3 (.exact v3_j868)) 4 (.xi a))) (λ(j:List ((List Int)×Int×(List UInt8))) (v3_j868:Value)=>[vecT Tryz.prog 133 3 zac v3_j868 j]) (λ k868 h=> ?_) (λ j v3_j868 h=> ?_)))
    .refine zaq (sr (qa (.xi 0) rfl (gc (zax h (λ(c:Int)=>(pt (pt (pt (pt AF0 0 (.row 3 zac a0)) 3 (.exact v3_l14)) 4 (.xi a)) 5 (.xi c))) (λ(c:Int)=>[vecT Tryz.prog 133 3 zac v3_l14 b]) (λ k983 h=> ?_) (λ c h=> ?_)))))
     .refine zaq (zcr (m_ref21_sorted_L26 a0 b a k983) (m_ref21_sorted_B26 a0 b a k983) (λ _=>rfl) (λ m _=>rfl) h (λ(d:Int)=>(pt (pt (pt (pt AF0 0 (.row 3 zac a0)) 3 (.exact v3_l14)) 4 (.xi a)) 5 (.xi d))) (λ(d:Int)=>[vecT Tryz.prog 133 3 zac v3_l14 b]) ?_ (λ v d h=> ?_))
      .exact s4 rfl rfl rfl rfl
      .unfold m_ref21_sorted_B26 at h
       refine zan (zax h (λ(f:Bool)=>(pt (pt (pt (pt (pt AF0 0 (.row 3 zac a0)) 3 (.exact v3_l14)) 4 (.xi a)) 5 (.xi d)) 27 (.xb f))) (λ(f:Bool)=>[vecT Tryz.prog 133 3 zac v3_l14 b]) (λ k1068 h=> ?_) (λ f h=> ?_))
       .refine zck [] [(0,0),(0,1),(1,2),(0,3),(0,4),(0,5),(0,6),(0,9),(0,10),(0,11),(0,12),(1,7),(1,8),(0,13),(0,14),(0,15)] hmixP (by kernel_rfl) (pq rfl (zah (av:= .xi d) rfl (pq rfl (zah (av:= .exact v3_l14) rfl (P_r rfl (zcl (by kernel_rfl) rfl (pq rfl (zbm rfl rfl (pq rfl (zah (av:= .xb (decide (d<(List.length b:Int)))) rfl (zfd (p:=d<(List.length b:Int)) 16 rfl (λ hc=> ?_) (λ hc=> ?_))))))))))))
        .replace h:=zcg h hc
         refine py rfl (zah (av:= .exact v3_l14) rfl (py rfl (zah (av:= .xi d) rfl (py rfl (zah (av:= .row 3 zac a0) rfl (py rfl (zah (av:= .xi a) rfl ?_)))))))
         obtain⟨n1072,h⟩:=zad h
         refine py rfl (zai (by kernel_rfl) rfl rfl n1072.1 n1072.2 (py rfl (zbx (m:=3) (c':=zac (gi a0 a)) (by kernel_rfl) rfl rfl rfl ?_)))
         obtain⟨n1073,h⟩:=zad h
         refine Py_r rfl rfl rfl (zbl (by kernel_rfl) rfl rfl n1073.1 n1073.2 (Py_r rfl rfl rfl (zet (i:=d) (o:=0) (m:=3) (c':=zac (gi b d)) (by kernel_rfl) zda rfl n1073.1 n1073.2 rfl rfl ?_)))
         obtain⟨y1074,k,h⟩:=zae h
         refine py rfl (zal (m_ref21_order_ok _ _ _ k) func98 (by kernel_rfl) (lc lf (lc lf ln)) (py rfl (zbm rfl rfl (pq rfl (zat rfl (av:= .xb (decide (y1074<0))) rfl (zcn (zaa ⟨_,h,so (l4 rfl rfl rfl rfl (lq rfl lt0))⟩)))))))
        .replace h:=zcf h hc
         refine pn rfl (pn rfl (pn rfl (pn rfl (pn rfl (pn rfl (P_n zdl rfl rfl rfl (P_n zdl rfl rfl rfl (pn rfl (pn rfl (pq rfl (zar rfl (av:= .xb false) rfl (zcn (zaa ⟨_,h,so (l4 rfl rfl rfl rfl (lq rfl lt0))⟩)))))))))))))
       .refine kb (p:=f) rfl h (λ hc h=> ?_) (λ hc h=> ?_)
        .refine zap (zaf (zaq (kr (qm (.xi d) rfl (gq (zbo rfl rfl rfl (qa (.xi (i64 (d+1))) rfl (zbc (zau (zaa ⟨_,h,s4 rfl rfl rfl rfl⟩))))))))))
        .refine zbr (zbi (zbk (zbj (zaa ⟨_,h,s4 rfl rfl rfl rfl⟩))))
     .refine zan (zax h (λ(g:Bool)=>(pt (pt (pt (pt (pt AF0 0 (.row 3 zac a0)) 3 (.exact v3_l14)) 4 (.xi a)) 5 (.xi c)) 45 (.xb g))) (λ(g:Bool)=>[vecT Tryz.prog 133 3 zac v3_l14 b]) (λ k1083 h=> ?_) (λ g h=> ?_))
      .refine zck [] [(0,0),(0,1),(1,2),(0,3),(0,4),(0,5),(0,6),(0,9),(0,10),(0,11),(0,12),(1,7),(1,8),(0,13),(0,14),(0,15)] hmixP (by kernel_rfl) (pq rfl (zah (av:= .xi c) rfl (pq rfl (zah (av:= .exact v3_l14) rfl (P_r rfl (zcl (by kernel_rfl) rfl (pq rfl (zbm rfl rfl (pq rfl (zah (av:= .xb (decide (c<(List.length b:Int)))) rfl (zfd (p:=c<(List.length b:Int)) 34 rfl (λ hc=> ?_) (λ hc=> ?_))))))))))))
       .replace h:=zcg h hc
        refine py rfl (zah (av:= .exact v3_l14) rfl (py rfl (zah (av:= .xi c) rfl (py rfl (zah (av:= .row 3 zac a0) rfl (py rfl (zah (av:= .xi a) rfl ?_)))))))
        obtain⟨n1087,h⟩:=zad h
        refine py rfl (zai (by kernel_rfl) rfl rfl n1087.1 n1087.2 (py rfl (zbx (m:=3) (c':=zac (gi a0 a)) (by kernel_rfl) rfl rfl rfl ?_)))
        obtain⟨n1088,h⟩:=zad h
        refine Py_r rfl rfl rfl (zbl (by kernel_rfl) rfl rfl n1088.1 n1088.2 (Py_r rfl rfl rfl (zet (i:=c) (o:=0) (m:=3) (c':=zac (gi b c)) (by kernel_rfl) zda rfl n1088.1 n1088.2 rfl rfl ?_)))
        obtain⟨y1089,l,h⟩:=zae h
        refine py rfl (zal (m_ref21_order_ok _ _ _ l) func98 (by kernel_rfl) (lc lf (lc lf ln)) (py rfl (zbf rfl rfl (pq rfl (zat rfl (av:= .xb (decide (y1089=0))) rfl (zcn (zaa ⟨_,h,so (l4 rfl rfl rfl rfl (lq rfl lt0))⟩)))))))
       .replace h:=zcf h hc
        refine pn rfl (pn rfl (pn rfl (pn rfl (pn rfl (pn rfl (P_n zdl rfl rfl rfl (P_n zdl rfl rfl rfl (pn rfl (pn rfl (pq rfl (zar rfl (av:= .xb false) rfl (zcn (zaa ⟨_,h,so (l4 rfl rfl rfl rfl (lq rfl lt0))⟩)))))))))))))
      .refine kb (p:=g) rfl h (λ hc h=> ?_) (λ hc h=> ?_)
       .refine zbr (zbi (zbj (zaa ⟨_,v3_l14,h,s3 rfl rfl rfl⟩)))
       .refine zap (zaf (sr (qm (.exact v3_l14) rfl (gq (zft (c':=zac (([],0,[]):(List Int)×Int×(List UInt8))) CellsAll.nil rfl (lc (zcy (by decide)) (lc lf (lc lf ln))) (gq (zcd (n:=3) (enc:=zac) ([(([],0,[]):(List Int)×Int×(List UInt8))]:List ((List Int)×Int×(List UInt8))) (CellsAll.cons rfl CellsOf.agg CellsAll.nil) rfl (by kernel_rfl) (LEss.cons (lc lf (lc lf (lc lf ln))) LEss.nil) ?_)))))))
        obtain⟨n1090,h⟩:=zad h
        refine G_l rfl (zcu (by kernel_rfl) rfl rfl zcx n1090 (λ v1091=>qa (.exact v1091) rfl (gc (zan (zck [] [(0,0),(0,1),(0,2),(0,4),(0,5),(1,3),(1,6),(2,7)] hmixP (by kernel_rfl) (pq rfl (zah (av:= .exact v1091) rfl (pq rfl (zah (av:= .xi c) rfl (pq rfl (zbo rfl rfl rfl (pq rfl (zah (av:= .exact v1091) rfl (pq rfl (zah (av:= .xi c) rfl ?_)))))))))))))))
        obtain⟨n1092,h⟩:=zad h
        refine P_r rfl (zeh (by kernel_rfl) rfl (zdn rfl) zdu n1092.1 n1092.2.1 n1092.2.2 ?_)
        obtain⟨n1093,h⟩:=zad h
        refine P_r rfl (zeh (by kernel_rfl) rfl (zdn rfl) zdu n1093.1 n1093.2.1 n1093.2.2 (P_l rfl (op_copy (q:=(Nat.min (Int.toNat (List.length (b++([(([],0,[]):(List Int)×Int×(List UInt8))]:List ((List Int)×Int×(List UInt8)))):Int) - Int.toNat c) (Int.toNat (List.length (b++([(([],0,[]):(List Int)×Int×(List UInt8))]:List ((List Int)×Int×(List UInt8)))):Int) - Int.toNat (i64 (c+1))))) (by kernel_rfl) (by kernel_rfl) zda zcx rfl rfl (by have hh:=n1092;first|omega|(simp only[i64]at hh;omega)|(simp only[i64]at hh ⊢;omega)) (by have hh:=n1093;first|omega|(simp only[i64]at hh;omega)|(simp only[i64]at hh ⊢;omega)) rfl (zcn (zaf (kr (qm (.exact v1091) rfl (qm (.xi c) rfl (qm (.row 3 zac a0) rfl (qm (.xi a) rfl ?_))))))))))
        obtain⟨n1094,h⟩:=zad h
        refine gq (zai (by kernel_rfl) rfl rfl n1094.1 n1094.2 (gq (zbx (m:=3) (c':=zac (gi a0 a)) (by kernel_rfl) rfl rfl rfl ?_)))
        obtain⟨n1095,h⟩:=zad h
        refine G_r rfl (zbl (by kernel_rfl) rfl rfl n1095.1 n1095.2 (G_l rfl (zcm (i:=c) (o:=0) (z:=gi a0 a) (c':=[.row 1 zav ((gi a0 a).1), .xi ((gi a0 a).2.1), .xs ((gi a0 a).2.2)]) (by kernel_rfl) zda rfl n1095.1 n1095.2 rfl CellsOf.agg (lc lf (lc lf (lc lf ln))) (zcx _) (by kernel_rfl) (Nat.le_of_ble_eq_true rfl) rfl (zbc (zau (zaa ⟨_,v1091,h,s3 rfl rfl rfl⟩))))))
    .refine kr (qm (.xi a) rfl (gq (zbo rfl rfl rfl (qa (.xi (i64 (a+1))) rfl (zbc (zaa ⟨_,_,v3_j868,h,s3 rfl rfl rfl⟩))))))
   .refine zbr (zbi (zbk (zbj (zaa ⟨_,v3_l14,h,s1 rfl⟩))))
 .refine sr (qm (.exact v3_j1) rfl (qa (.exact v3_j1) rfl (gc (zbn ?_))))
  obtain rfl:=oi h
  refine ke (pt AF0 2 (.row 3 zac e)) [] rfl (Sub.trans (SubU.to (SubU.freezeT (s:=2) rfl zda)) (s1 rfl)) ⟨rfl,rfl⟩
theorem m_ref21_Rules_ok (a0:List UInt8) (a1:List (List Int)) (r:(List ((List Int)×Int×Int))×(List (List UInt8))×Int) (h:m_ref21_Rules a0 a1=some r):Fun Tryz.prog 25 [(.exact (.string (bs a0))),(.row 1 zdz a1)] [] (λ a s=> ∃z0 z1,a= .tup [.exact z0, .exact z1, .exact (.int .i64 r.2.2)]/\s=[vecT Tryz.prog 82 3 zay z0 r.1,vecT Tryz.prog 36 1 zab z1 r.2.1]):=by
 unfold m_ref21_Rules at h
 refine zam func25 rfl ntmps25 (by simp) rfl (res3 rfl) λ E hE=>zca (sr (qa (.exact (.slice none 0 0)) rfl (qa (.exact (.slice none 0 0)) rfl (qa (.xi 0) rfl (gc (zan (zax h (λ(e:Bool)=>(pt (pt (pt AF0 0 (.xs a0)) 1 (.row 1 zdz a1)) 22 (.xb e))) (λ(e:Bool)=>[]) (λ k11 h=> ?_) (λ e h=> ?_))))))))
 .refine kr (qm (.xs a0) rfl ?_)
  obtain⟨y16,k,h⟩:=zae h
  refine gq (zal (zfj _ _ k) func17 (by kernel_rfl) (lc lf ln) (gq (zdh rfl (qm (.xb (!y16)) rfl (zfl (c:= !y16) 15 rfl (λ hc=> ?_) (λ hc=> ?_))))))
  .replace h:=zcg h hc
   refine gn (gn (gn (gn (gn (gn (gq (zat rfl (av:= .xb true) rfl (zbc (zaa ⟨_,h,s3 rfl rfl rfl⟩)))))))))
  .replace h:=zcf h hc
   refine gy (zah (av:= .xs a0) rfl (gy (zah (av:= .row 1 zdz a1) rfl (gy (zao (by kernel_rfl) rfl ?_)))))
   obtain⟨n17,h⟩:=zad h
   refine Gy_l rfl rfl rfl (op_make (enc:=zdk) (zr:=(false:Bool)) (by kernel_rfl) rfl rfl n17.1 n17.2 len_c_bool zeroValue4 (λ _ _=>(Fit.ex Fit.nil0)) (λ v18=> ?_))
   obtain⟨y19,l,h⟩:=zae h
   refine Gy_l rfl rfl rfl (zdg (m_ref21_shaped_ok _ _ _ l) func54 (by kernel_rfl) (lc lf (lc lf ln)) (gy (zdh rfl (gq (zar rfl (av:= .xb (!y19.1)) rfl (zbc (zaa ⟨_,h, ?_⟩)))))))
   refine Sub.trans (SubU.to SubU.drop) (s3 rfl rfl rfl)
 .refine kb (p:=e) rfl h (λ hc h=> ?_) (λ hc h=> ?_)
  .refine zan ?_
   cases h
  .refine zap (zaf (zbw h ((pt (pt AF0 0 (.xs a0)) 1 (.row 1 zdz a1))) ([]) (λ k20 h=> ?_) (λ  h=> ?_)))
   .refine sr (qa (.xi 0) rfl (gc (zaq (zcr (m_ref21_Rules_L2 a1 k20) (m_ref21_Rules_B2 a1 k20) (λ _=>rfl) (λ m _=>rfl) h (λ(d:Int)=>(pt (pt (pt AF0 0 (.xs a0)) 1 (.row 1 zdz a1)) 7 (.xi d))) (λ(d:Int)=>[]) ?_ (λ w d h=> ?_)))))
    .exact s3 rfl rfl rfl
    .unfold m_ref21_Rules_B2 at h
     refine zan (sr (qm (.xi d) rfl (qm (.row 1 zdz a1) rfl (gq (zao (by kernel_rfl) rfl (gq (zbm rfl rfl (gc (kd (p:=d<(List.length a1:Int)) rfl h (λ hc h=> ?_) (λ hc h=> ?_))))))))))
     .refine zap (zaf (zan (zaq (sr (qm (.row 1 zdz a1) rfl (qm (.xi d) rfl ?_))))))
      obtain⟨n32,h⟩:=zad h
      refine gq (zai (by kernel_rfl) rfl rfl n32.1 n32.2 (gq (zak (a:= .row 1 zav (gi a1 d)) (by kernel_rfl) rfl rfl ?_)))
      obtain⟨y33,q,h⟩:=zae h
      refine gq (zal (m_ref21_listed_ok _ _ q) func55 (by kernel_rfl) (lc lf ln) (gq (zdh rfl (gc (kb (p:= !y33) rfl h (λ hc h=> ?_) (λ hc h=> ?_))))))
      .refine zan ?_
       cases h
      .refine zap (zau (zaf (kr (qm (.xi d) rfl (gq (zbo rfl rfl rfl (qa (.xi (i64 (d+1))) rfl (zbc (zaa ⟨_,h,s3 rfl rfl rfl⟩)))))))))
     .refine zbr (zbi (zbk (zbj (zaa ⟨h,s2 rfl rfl⟩))))
   .refine sr (qa (.exact (.slice none 0 0)) rfl (gd (qa (.exact (.slice none 0 0)) rfl (gd (qm (.xs a0) rfl (qm (.row 1 zdz a1) rfl ?_))))))
    obtain⟨y34,u,h⟩:=zae h
    refine gq (zal (m_ref21_turns_ok _ _ _ u) func57 (by kernel_rfl) (lc lf (lc lf ln)) ?_)
    obtain⟨y35,v,h⟩:=zae h
    refine gq (zal (m_ref21_sorted_ok _ _ v) func56 (by kernel_rfl) (lc lf ln) (qa (.row 3 zac y35) rfl (gc (k_join2_2 h (λ(f:List ((List Int)×Int×Int)) (g:List (List UInt8)) (v8_j36:Value) (v9_j36:Value)=>(pt (pt AF0 8 (.exact v8_j36)) 9 (.exact v9_j36))) (λ(f:List ((List Int)×Int×Int)) (g:List (List UInt8)) (v8_j36:Value) (v9_j36:Value)=>[vecT Tryz.prog 82 3 zay v8_j36 f,vecT Tryz.prog 36 1 zab v9_j36 g]) (λ k36 h=> ?_) (λ f g v8_j36 v9_j36 h=> ?_)))))
    .refine sr (qa (.xi 0) rfl (gc (zaq (k_loop3_2 (m_ref21_Rules_L4 y35 k36) (m_ref21_Rules_B4 y35 k36) (λ _ _ _=>rfl) (λ m _ _ _=>rfl) h (λ(i:List ((List Int)×Int×Int)) (j:List (List UInt8)) (b:Int) (v8_l4:Value) (v9_l4:Value)=>(pt (pt (pt (pt AF0 8 (.exact v8_l4)) 9 (.exact v9_l4)) 10 (.row 3 zac y35)) 11 (.xi b))) (λ(i:List ((List Int)×Int×Int)) (j:List (List UInt8)) (b:Int) (v8_l4:Value) (v9_l4:Value)=>[vecT Tryz.prog 82 3 zay v8_l4 i,vecT Tryz.prog 36 1 zab v9_l4 j]) (.slice none 0 0) (.slice none 0 0) ?_ (λ x i j b v8_l4 v9_l4 h=> ?_)))))
     .refine Sub.trans (SubU.to (SubU.nilT (P:=Tryz.prog) (t:=82) (n:=3) (enc:=zay))) (Sub.trans (SubU.to (SubU.nilT (P:=Tryz.prog) (t:=36) (n:=1) (enc:=zab))) (Sub.trans (SubU.to SubU.f1) (s4 rfl rfl rfl rfl)))
     .unfold m_ref21_Rules_B4 at h
      refine zan (sr (qm (.xi b) rfl (qm (.row 3 zac y35) rfl (gq (zao (by kernel_rfl) rfl (gq (zbm rfl rfl (gc (kd (p:=b<(List.length y35:Int)) rfl h (λ hc h=> ?_) (λ hc h=> ?_))))))))))
      .refine zap (zaf (zan (zaq (zan (zck [] [(0,0),(0,1),(0,2),(0,3),(0,4),(0,5),(0,7),(0,8),(0,9),(0,10),(0,11),(2,6),(0,12),(0,13),(2,14),(0,15)] hmixP (by kernel_rfl) (pq rfl (zah (av:= .exact v8_l4) rfl (pq rfl (zah (av:= .row 3 zac y35) rfl (pq rfl (zah (av:= .xi b) rfl ?_)))))))))))
       obtain⟨n83,h⟩:=zad h
       refine pq rfl (zai (by kernel_rfl) rfl rfl n83.1 n83.2 (pq rfl (zaj (o:=0) (c':=(List.drop 0 (zac (gi y35 b)))) (by kernel_rfl) rfl rfl (pq rfl (zak (a:= .row 1 zav ((gi y35 b).1)) (by kernel_rfl) rfl rfl (pq rfl (zah (av:= .row 3 zac y35) rfl (pq rfl (zah (av:= .xi b) rfl ?_)))))))))
       obtain⟨n84,h⟩:=zad h
       refine pq rfl (zai (by kernel_rfl) rfl rfl n84.1 n84.2 (pq rfl (zaj (o:=1) (c':=(List.drop 1 (zac (gi y35 b)))) (by kernel_rfl) rfl rfl (pq rfl (zak (a:= .xi ((gi y35 b).2.1)) (by kernel_rfl) rfl rfl ?_)))))
       obtain⟨n85,h⟩:=zad h
       refine P_l rfl (opB_frz (t:=22) (n:=1) (enc:=zav) rfl zdf (op_appN (enc:=zav) (by kernel_rfl) rfl rfl oc_c_int n85 (λ v86=>⟨v86,_,_,rfl,rfl, ?_⟩)))
       refine pq rfl (zft (c':=zay ((gi y35 b).1,(gi y35 b).2.1,0)) (CellsAll.cons rfl CellsOf.row (CellsAll.cons rfl CellsOf.int CellsAll.nil)) rfl (lc lf (lc lf (lc lf ln))) (pq rfl (zcd (n:=3) (enc:=zay) [((gi y35 b).1,(gi y35 b).2.1,0)] (CellsAll.cons rfl CellsOf.agg CellsAll.nil) rfl (by kernel_rfl) (LEss.cons (lc lf (lc lf (lc lf ln))) LEss.nil) ?_)))
       obtain⟨n87,h⟩:=zad h
       refine P_l rfl (zcu (by kernel_rfl) rfl rfl oc_c_api_Rule n87 (λ v88=>pq rfl (zcj (av:= .exact v88) rfl (zcn (zaf (kr (qm (.exact v9_l4) rfl (qm (.row 3 zac y35) rfl (qm (.xi b) rfl ?_)))))))))
       obtain⟨n89,h⟩:=zad h
       refine gq (zai (by kernel_rfl) rfl rfl n89.1 n89.2 (gq (zaj (o:=2) (c':=(List.drop 2 (zac (gi y35 b)))) (by kernel_rfl) rfl rfl (gq (zak (a:= .xs ((gi y35 b).2.2)) (by kernel_rfl) rfl rfl (gq (zcd (n:=1) (enc:=zab) [(gi y35 b).2.2] (CellsAll.cons rfl CellsOf.str CellsAll.nil) rfl (by kernel_rfl) (LEss.cons (lc lf ln) LEss.nil) ?_)))))))
       obtain⟨n90,h⟩:=zad h
       refine G_l rfl (opB_f1 (zcu (by kernel_rfl) rfl rfl zco n90 (λ v91=>qa (.exact v91) rfl (zbc (zau (zaf (kr (qm (.xi b) rfl (gq (zbo rfl rfl rfl (qa (.xi (i64 (b+1))) rfl (zbc (zaa ⟨_,_,_,v88,v91,h, ?_⟩)))))))))))))
       refine Sub.trans (SubU.to SubU.f1) (s4 rfl rfl rfl rfl)
      .refine zbr (zbi (zbk (zbj (zaa ⟨_,_,v8_l4,v9_l4,h,s2 rfl rfl⟩))))
    .refine sr (qm (.exact v8_j36) rfl (qm (.exact v9_j36) rfl (qa (.exact v8_j36) rfl (qa (.exact v9_j36) rfl (qa (.xi 0) rfl (gc (zbn ?_)))))))
     obtain rfl:=oi h
     refine ke (pt (pt (pt AF0 4 (.exact v8_j36)) 5 (.exact v9_j36)) 6 (.xi 0)) [vecT Tryz.prog 82 3 zay v8_j36 f,vecT Tryz.prog 36 1 zab v9_j36 g] rfl (s3 rfl rfl rfl) ⟨v8_j36,v9_j36,rfl,rfl⟩
theorem m_ref16_marks_F_ok {w1:Nat} (c:(List UInt8)->(List Bool)->Option (List Bool)) (hself_ref16_marks: ∀ ⦃w1:Nat⦄ (a0:List UInt8) (a1:List Bool) (r:(List Bool)),c a0 a1=some r->Fun Tryz.prog 103 [(.exact (.string (bs a0))),(pA w1 0)] [boxI 184 w1 (List.map (λ(x:Bool)=> .exact (.bool x)) a1)] (λ a s=>a= .tup []/\s=[boxI 184 w1 (List.map (λ(x:Bool)=> .exact (.bool x)) r)])) (a0:List UInt8) (a1:List Bool) (r:(List Bool)) (h:m_ref16_marks_F c a0 a1=some r):Fun Tryz.prog 103 [(.exact (.string (bs a0))),(pA w1 0)] [boxI 184 w1 (List.map (λ(x:Bool)=> .exact (.bool x)) a1)] (λ a s=>a= .tup []/\s=[boxI 184 w1 (List.map (λ(x:Bool)=> .exact (.bool x)) r)]):=by
 unfold m_ref16_marks_F at h
 refine zam func103 rfl ntmps103 (by simp) rfl (res0 rfl) λ E hE=>zca (zax h (λ(e:List Bool)=>(pt (pt AF0 0 (.xs a0)) 1 (pA w1 0))) (λ(e:List Bool)=>[boxI 184 w1 (List.map (λ(x:Bool)=> .xb x) e)]) (λ k1 h=> ?_) (λ e h=> ?_))
 .refine sr (qm (.xs a0) rfl ?_)
  obtain⟨y7,g,h⟩:=zae h
  refine gq (zal (zdm _ _ g) func45 (by kernel_rfl) (lc lf ln) (gq (zbf rfl rfl (gc (kd (p:=y7=21) rfl h (λ hc h=> ?_) (λ hc h=> ?_))))))
  .refine zck [] [(0,0),(0,1),(0,2),(0,3),(0,4),(0,5),(0,6),(0,7),(2,8)] hmixP (by kernel_rfl) (pq rfl (zah (av:=pA w1 0) rfl (pq rfl (zah (av:= .xs a0) rfl ?_))))
   obtain⟨y8,i,h⟩:=zae h
   refine pq rfl (zal (zeg _ _ i) func42 (by kernel_rfl) (lc lf ln) ?_)
   obtain⟨n9,h⟩:=zad h
   refine pq rfl (zai (by kernel_rfl) rfl rfl n9.1 n9.2 (pq rfl (zak (a:= .xs (gi y8 1)) (by kernel_rfl) rfl rfl ?_)))
   obtain⟨y10,j,h⟩:=zae h
   refine pq rfl (zal (zdo _ _ j) func44 (by kernel_rfl) (lc lf ln) (pq rfl (zes rfl ?_)))
   obtain⟨n11,h⟩:=zad h
   refine pq rfl (op_indexArr (m:=12) (n:=1) (by kernel_rfl) rfl rfl n11.1 n11.2.1 (P_l rfl (zbz (c':=[.xb true]) (c3:=List.map (λ(x:Bool)=> .xb x) (List.set a1 (Int.toNat y10) true)) rfl rfl CellsOf.bool (lc lf ln) (OneC.bool OneC.nil) (by kernel_rfl) (arr_set_le n11.1 n11.2.2) (arr_set (f:=(λ(x:Bool)=> .xb x)) (z:=true) n11.1 n11.2.2) (zcn (zaa ⟨_,h,s2 rfl rfl⟩)))))
  .refine zap (zaa ⟨_,h,s2 rfl rfl⟩)
 .refine sr (qm (.xs a0) rfl ?_)
  obtain⟨y12,k,h⟩:=zae h
  refine gq (zal (zfb _ _ k) func49 (by kernel_rfl) (lc lf ln) (qa (.row 1 zab y12) rfl (gd (qa (.xi 0) rfl (gc (zaq (zey (m_ref16_marks_L1 c y12) (m_ref16_marks_B1 c y12) (λ _ _=>rfl) (λ m _ _=>rfl) h (λ(d:List Bool) (b:Int)=>(pt (pt (pt AF0 1 (pA w1 0)) 4 (.row 1 zab y12)) 5 (.xi b))) (λ(d:List Bool) (b:Int)=>[boxI 184 w1 (List.map (λ(x:Bool)=> .xb x) d)]) ?_ (λ o d b h=> ?_))))))))
  .exact s3 rfl rfl rfl
  .unfold m_ref16_marks_B1 at h
   refine zan (sr (qm (.xi b) rfl (qm (.row 1 zab y12) rfl (gq (zao (by kernel_rfl) rfl (gq (zbm rfl rfl (gc (kd (p:=b<(List.length y12:Int)) rfl h (λ hc h=> ?_) (λ hc h=> ?_))))))))))
   .refine zap (zaf (zan (zaq (kr (qm (.row 1 zab y12) rfl (qm (.xi b) rfl ?_))))))
    obtain⟨n17,h⟩:=zad h
    refine gq (zai (by kernel_rfl) rfl rfl n17.1 n17.2 (gq (zak (a:= .xs (gi y12 b)) (by kernel_rfl) rfl rfl (qm (pA w1 0) rfl ?_))))
    obtain⟨y18,l,h⟩:=zae h
    refine G_l rfl (zdg (hself_ref16_marks _ _ _ l) func103 (by kernel_rfl) (lc lf (lc lf ln)) (zbc (zau (zaf (kr (qm (.xi b) rfl (gq (zbo rfl rfl rfl (qa (.xi (i64 (b+1))) rfl (zbc (zaa ⟨_,_,h,s3 rfl rfl rfl⟩)))))))))))
   .refine zbr (zbi (zbk (zbj ?_)))
    obtain rfl:=oi h
    refine kP_any (endNn (af':=AF0) (σ':=[boxI 184 w1 (List.map (λ(x:Bool)=> .xb x) d)]) _ rfl (Sub.of_le lt0) ⟨rfl,rfl⟩)
theorem m_ref16_marks_S_ok: ∀n:Nat,(∀ ⦃w1:Nat⦄ (a0:List UInt8) (a1:List Bool) (r:(List Bool)),m_ref16_marks_S n a0 a1=some r->Fun Tryz.prog 103 [(.exact (.string (bs a0))),(pA w1 0)] [boxI 184 w1 (List.map (λ(x:Bool)=> .exact (.bool x)) a1)] (λ a s=>a= .tup []/\s=[boxI 184 w1 (List.map (λ(x:Bool)=> .exact (.bool x)) r)]))
  |0=>(λ _ _ _ _ h=>by have h':(none:Option _)=some _:=h;cases h')
  |n+1=>by
    have ih:=m_ref16_marks_S_ok n
    exact λ w1 a0 a1 r h=>m_ref16_marks_F_ok (m_ref16_marks_S n) ih a0 a1 r h
theorem m_ref16_marks_ok {w1:Nat} (a0:List UInt8) (a1:List Bool) (r:(List Bool)) (h:m_ref16_marks a0 a1=some r):Fun Tryz.prog 103 [(.exact (.string (bs a0))),(pA w1 0)] [boxI 184 w1 (List.map (λ(x:Bool)=> .exact (.bool x)) a1)] (λ a s=>a= .tup []/\s=[boxI 184 w1 (List.map (λ(x:Bool)=> .exact (.bool x)) r)]):=(m_ref16_marks_S_ok FU) a0 a1 r h
theorem m_ref16_Holes_ok (a0:List UInt8) (r:(List Int)) (h:m_ref16_Holes a0=some r):Pure Tryz.prog 58 [(.exact (.string (bs a0)))] (.row 1 zav r):=by
 unfold m_ref16_Holes at h
 refine Pure.ofFun (zam func58 rfl ntmps58 (by simp) rfl (res1 rfl) λ E hE=>zca (sr (qa (.exact (.slice none 0 0)) rfl (gd (G_l rfl (op_allocA (f:=(λ(x:Bool)=> .xb x)) 12 (false:Bool) (.bool false) rfl (by kernel_rfl) rfl (λ b1=>gd (qm (.xs a0) rfl ?_))))))))
 obtain⟨y2,g,h⟩:=zae h
 refine G_l rfl (zdg (m_ref16_marks_ok _ _ _ g) func103 (by kernel_rfl) (lc lf (lc lf ln)) (gd (qa (.exact (.slice none 0 0)) rfl (gc (zcb h (λ(c:List Int) (v4_j3:Value)=>(pt AF0 4 (.exact v4_j3))) (λ(c:List Int) (v4_j3:Value)=>[vecT Tryz.prog 22 1 zav v4_j3 c]) (λ k3 h=> ?_) (λ c v4_j3 h=> ?_))))))
 .refine sr (qa (.xi 0) rfl (gc (zaq (zcz (m_ref16_Holes_L2 y2 k3) (m_ref16_Holes_B2 y2 k3) (λ _ _=>rfl) (λ m _ _=>rfl) h (λ(d:List Int) (b:Int) (v4_l2:Value)=>(pt (pt (pt AF0 3 (pA b1 0)) 4 (.exact v4_l2)) 5 (.xi b))) (λ(d:List Int) (b:Int) (v4_l2:Value)=>[boxI 184 b1 (List.map (λ(x:Bool)=> .xb x) y2),vecT Tryz.prog 22 1 zav v4_l2 d]) (.slice none 0 0) ?_ (λ i d b v4_l2 h=> ?_)))))
  .refine Sub.trans (SubU.to (SubU.nilT (P:=Tryz.prog) (t:=22) (n:=1) (enc:=zav))) (Sub.trans (SubU.to SubU.f1) (s3 rfl rfl rfl))
  .unfold m_ref16_Holes_B2 at h
   refine zan (sr (qm (.xi b) rfl (gq (zbm rfl rfl (gc (kd (p:=b<12) rfl h (λ hc h=> ?_) (λ hc h=> ?_)))))))
   .refine zap (zaf (zcb h (λ(e:List Int) (v4_j40:Value)=>(pt (pt (pt AF0 3 (pA b1 0)) 4 (.exact v4_j40)) 5 (.xi b))) (λ(e:List Int) (v4_j40:Value)=>[boxI 184 b1 (List.map (λ(x:Bool)=> .xb x) y2),vecT Tryz.prog 22 1 zav v4_j40 e]) (λ k40 h=> ?_) (λ e v4_j40 h=> ?_)))
    .refine zaq (sr (qm (.xi b) rfl ?_))
     obtain⟨n44,h⟩:=zad h
     refine gq (op_indexArr (m:=12) (n:=1) (by kernel_rfl) rfl rfl n44.1 n44.2.1 (G_r rfl (zaz (a:= .xb (gi y2 b)) (by kernel_rfl) rfl (arr_get (f:=(λ(x:Bool)=> .xb x)) n44.1 n44.2.2) (gc (kb (p:=gi y2 b) rfl h (λ hc h=> ?_) (λ hc h=> ?_))))))
     .refine kr (qm (.exact v4_l2) rfl (qm (.xi b) rfl (gq (zcd (n:=1) (enc:=zav) [b] (CellsAll.cons rfl CellsOf.int CellsAll.nil) rfl (by kernel_rfl) (LEss.cons (lc lf ln) LEss.nil) ?_))))
      obtain⟨n45,h⟩:=zad h
      refine G_l rfl (opB_f1 (zcu (by kernel_rfl) rfl rfl oc_c_int n45 (λ v46=>qa (.exact v46) rfl (zbc (zau (zaa ⟨_,v46,h, ?_⟩))))))
      refine Sub.trans (SubU.to SubU.f1) (s3 rfl rfl rfl)
     .refine zap (zau (zaa ⟨_,v4_l2,h,s3 rfl rfl rfl⟩))
    .refine kr (qm (.xi b) rfl (gq (zbo rfl rfl rfl (qa (.xi (i64 (b+1))) rfl (zbc (zaa ⟨_,_,v4_j40,h,s3 rfl rfl rfl⟩))))))
   .refine zbr (zbi (zbk (zbj (zaa ⟨_,v4_l2,h, ?_⟩))))
    refine Sub.trans (SubU.to SubU.drop) (s1 rfl)
 .refine sr (qm (.exact v4_j3) rfl (qa (.exact v4_j3) rfl (gc (zbn ?_))))
  obtain rfl:=oi h
  refine ke (pt AF0 2 (.row 1 zav c)) [] rfl (Sub.trans (SubU.to (SubU.freezeT (s:=2) rfl zdf)) (s1 rfl)) ⟨rfl,rfl⟩
theorem m_ref21_alive_ok (a0:List UInt8) (a1:Int) (r:(List Bool)) (h:m_ref21_alive a0 a1=some r):Pure Tryz.prog 26 [(.exact (.string (bs a0))),(.exact (.int .i64 a1))] (.row 1 zdk r):=by
 unfold m_ref21_alive at h
 refine Pure.ofFun (zam func26 rfl ntmps26 (by simp) rfl (res1 rfl) λ E hE=>zca (sr (qa (.exact (.slice none 0 0)) rfl (gd (qm (.xi a1) rfl ?_)))))
 obtain⟨n1,h⟩:=zad h
 refine G_l rfl (op_make (enc:=zdk) (zr:=(false:Bool)) (by kernel_rfl) rfl rfl n1.1 n1.2 len_c_bool zeroValue4 (λ _ _=>(Fit.ex Fit.nil0)) (λ v2=>qa (.exact v2) rfl (gd (qm (.xs a0) rfl ?_))))
 obtain⟨y3,e,h⟩:=zae h
 refine gq (zal (m_ref16_Holes_ok _ _ e) func58 (by kernel_rfl) (lc lf ln) (qa (.row 1 zav y3) rfl (gc (zax h (λ(c:List Bool)=>(pt AF0 5 (.exact v2))) (λ(c:List Bool)=>[vecT Tryz.prog 87 1 zdk v2 c]) (λ k4 h=> ?_) (λ c h=> ?_)))))
 .refine sr (qa (.xi 0) rfl (gc (zaq (zey (m_ref21_alive_L2 y3 k4) (m_ref21_alive_B2 y3 k4) (λ _ _=>rfl) (λ m _ _=>rfl) h (λ(d:List Bool) (b:Int)=>(pt (pt (pt AF0 5 (.exact v2)) 6 (.row 1 zav y3)) 7 (.xi b))) (λ(d:List Bool) (b:Int)=>[vecT Tryz.prog 87 1 zdk v2 d]) ?_ (λ f d b h=> ?_)))))
  .exact s3 rfl rfl rfl
  .unfold m_ref21_alive_B2 at h
   refine zan (sr (qm (.xi b) rfl (qm (.row 1 zav y3) rfl (gq (zao (by kernel_rfl) rfl (gq (zbm rfl rfl (gc (kd (p:=b<(List.length y3:Int)) rfl h (λ hc h=> ?_) (λ hc h=> ?_))))))))))
   .refine zap (zaf (zan (zaq (kr (qm (.exact v2) rfl (qm (.row 1 zav y3) rfl (qm (.xi b) rfl ?_)))))))
    obtain⟨n16,h⟩:=zad h
    refine gq (zai (by kernel_rfl) rfl rfl n16.1 n16.2 (gq (zak (a:= .xi (gi y3 b)) (by kernel_rfl) rfl rfl ?_)))
    obtain⟨n17,h⟩:=zad h
    refine G_r rfl (zbl (by kernel_rfl) rfl rfl n17.1 n17.2 (G_l rfl (zcm (i:=gi y3 b) (o:=0) (z:=true) (c':=[.xb true]) (by kernel_rfl) len_c_bool rfl n17.1 n17.2 rfl CellsOf.bool (lc lf ln) (OneC.bool OneC.nil) (by kernel_rfl) (Nat.le_of_ble_eq_true rfl) rfl (zbc (zau (zaf (kr (qm (.xi b) rfl (gq (zbo rfl rfl rfl (qa (.xi (i64 (b+1))) rfl (zbc (zaa ⟨_,_,h,s3 rfl rfl rfl⟩)))))))))))))
   .refine zbr (zbi (zbk (zbj (zaa ⟨_,h,s1 rfl⟩))))
 .refine sr (qm (.exact v2) rfl (qa (.exact v2) rfl (gc (zbn ?_))))
  obtain rfl:=oi h
  refine ke (pt AF0 4 (.row 1 zdk c)) [] rfl (Sub.trans (SubU.to (SubU.freezeT (s:=4) rfl len_c_bool)) (s1 rfl)) ⟨rfl,rfl⟩
theorem m_ref21_ruleOrder_ok (a0:(List Int)×Int×Int) (a1:(List Int)×Int×Int) (r:Int) (h:m_ref21_ruleOrder a0 a1=some r):Pure Tryz.prog 59 [(.agg (zay a0)),(.agg (zay a1))] (.exact (.int .i64 r)):=by
 unfold m_ref21_ruleOrder at h
 refine Pure.ofFun (zam func59 rfl ntmps59 (by simp) rfl (res1 rfl) λ E hE=>zca (sr (gq (zfe (c:=zay a0) rfl CellsOf.agg (gq (zfe (c:=zay a1) rfl CellsOf.agg (qa (.xi 0) rfl (gc (zbw h ((pt (pt AF0 2 (.ptr (zay a0))) 3 (.ptr (zay a1)))) ([]) (λ k1 h=> ?_) (λ  h=> ?_))))))))))
 .refine sr (qa (.xi 0) rfl (gc (zaq (zcr (m_ref21_ruleOrder_L2 a0 a1 k1) (m_ref21_ruleOrder_B2 a0 a1 k1) (λ _=>rfl) (λ m _=>rfl) h (λ(b:Int)=>(pt (pt (pt AF0 2 (.ptr (zay a0))) 3 (.ptr (zay a1))) 5 (.xi b))) (λ(b:Int)=>[]) ?_ (λ e b h=> ?_)))))
  .exact s3 rfl rfl rfl
  .unfold m_ref21_ruleOrder_B2 at h
   refine zan (zax h (λ(d:Bool)=>(pt (pt (pt (pt AF0 2 (.ptr (zay a0))) 3 (.ptr (zay a1))) 5 (.xi b)) 17 (.xb d))) (λ(d:Bool)=>[]) (λ k40 h=> ?_) (λ d h=> ?_))
   .refine kr (qm (.xi b) rfl (gq (zaj (o:=0) (c':=(List.drop 0 (zay a0))) (by kernel_rfl) rfl rfl (gq (zak (a:= .row 1 zav a0.1) (by kernel_rfl) rfl rfl (gq (zao (by kernel_rfl) rfl (gq (zbm rfl rfl (qm (.xb (decide (b<(List.length a0.1:Int)))) rfl (zcc (p:=b<(List.length a0.1:Int)) 11 rfl (λ hc=> ?_) (λ hc=> ?_))))))))))))
    .replace h:=zcg h hc
     refine gy (zah (av:= .xi b) rfl (gy (zaj (o:=0) (c':=(List.drop 0 (zay a1))) (by kernel_rfl) rfl rfl (gy (zak (a:= .row 1 zav a1.1) (by kernel_rfl) rfl rfl (gy (zao (by kernel_rfl) rfl (gy (zbm rfl rfl (gq (zat rfl (av:= .xb (decide (b<(List.length a1.1:Int)))) rfl (zbc (zaa ⟨_,h,s4 rfl rfl rfl rfl⟩)))))))))))))
    .replace h:=zcf h hc
     refine gn (gn (gn (gn (gn (gq (zar rfl (av:= .xb false) rfl (zbc (zaa ⟨_,h,s4 rfl rfl rfl rfl⟩))))))))
   .refine kb (p:=d) rfl h (λ hc h=> ?_) (λ hc h=> ?_)
    .refine zap (zaf (zan (zaq (zan (zck [] [(0,0),(0,1),(0,2),(0,3),(0,4),(0,5),(0,6),(0,7),(0,8),(0,9),(0,10)] hmixP (by kernel_rfl) (pq rfl (zaj (o:=0) (c':=(List.drop 0 (zay a0))) (by kernel_rfl) rfl rfl (pq rfl (zak (a:= .row 1 zav a0.1) (by kernel_rfl) rfl rfl (pq rfl (zah (av:= .xi b) rfl ?_)))))))))))
     obtain⟨n41,h⟩:=zad h
     refine pq rfl (zai (by kernel_rfl) rfl rfl n41.1 n41.2 (pq rfl (zak (a:= .xi (gi a0.1 b)) (by kernel_rfl) rfl rfl (pq rfl (zaj (o:=0) (c':=(List.drop 0 (zay a1))) (by kernel_rfl) rfl rfl (pq rfl (zak (a:= .row 1 zav a1.1) (by kernel_rfl) rfl rfl (pq rfl (zah (av:= .xi b) rfl ?_)))))))))
     obtain⟨n42,h⟩:=zad h
     refine pq rfl (zai (by kernel_rfl) rfl rfl n42.1 n42.2 (pq rfl (zak (a:= .xi (gi a1.1 b)) (by kernel_rfl) rfl rfl (pq rfl (zfr rfl rfl (zcn (zaf (kd (p:= ¬(gi a0.1 b)=(gi a1.1 b)) rfl h (λ hc h=> ?_) (λ hc h=> ?_)))))))))
     .refine zan (zck [] [(0,0),(0,1),(0,2),(0,3),(0,4),(0,5),(0,6),(0,7),(0,8),(0,9),(0,10),(0,11)] hmixP (by kernel_rfl) (pq rfl (zaj (o:=0) (c':=(List.drop 0 (zay a0))) (by kernel_rfl) rfl rfl (pq rfl (zak (a:= .row 1 zav a0.1) (by kernel_rfl) rfl rfl (pq rfl (zah (av:= .xi b) rfl ?_)))))))
      obtain⟨n43,h⟩:=zad h
      refine pq rfl (zai (by kernel_rfl) rfl rfl n43.1 n43.2 (pq rfl (zak (a:= .xi (gi a0.1 b)) (by kernel_rfl) rfl rfl (pq rfl (zaj (o:=0) (c':=(List.drop 0 (zay a1))) (by kernel_rfl) rfl rfl (pq rfl (zak (a:= .row 1 zav a1.1) (by kernel_rfl) rfl rfl (pq rfl (zah (av:= .xi b) rfl ?_)))))))))
      obtain⟨n44,h⟩:=zad h
      refine pq rfl (zai (by kernel_rfl) rfl rfl n44.1 n44.2 (pq rfl (zak (a:= .xi (gi a1.1 b)) (by kernel_rfl) rfl rfl (pq rfl (op_sub rfl rfl rfl (pq rfl (zcj (av:= .xi (i64 ((gi a0.1 b) - (gi a1.1 b)))) rfl (zcn (zaf (zbn (zde (zdb (zek (zde (zek ?_)))))))))))))))
      obtain rfl:=oi h
      refine ke (pt AF0 4 (.xi (i64 ((gi a0.1 b) - (gi a1.1 b))))) [] rfl (s1 rfl) ⟨rfl,rfl⟩
     .refine zap (zau (zaf (kr (qm (.xi b) rfl (gq (zbo rfl rfl rfl (qa (.xi (i64 (b+1))) rfl (zbc (zaa ⟨_,h,s3 rfl rfl rfl⟩)))))))))
    .refine zbr (zbi (zbk (zbj (zaa ⟨h,s2 rfl rfl⟩))))
 .refine zan (zan ?_)
  cases h
end
end Go.Proofs.YtohjfjmjnkglgaaGreatDoor
