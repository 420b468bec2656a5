/- Parts, merged. -/
import Derived.Test.YtloigebekdkijaaGreatQB6
namespace Go.Proofs.YtloigebekdkijaaGreat
open _root_.Go.Proofs.Tryz
noncomputable section
open Go.RowKit
attribute [local irreducible] AV.exact AV.top AV.row AV.ptr AV.agg AV.tup AV.eptr AV.fn AV.nilq AV.nilqn opA opB opM opR Quiet Loud Reads wpG awp den Sub SubU Pure Fun vecI vecT boxI CellsAll CellsOf OneC LEs LEss
set_option maxRecDepth 100000
set_option maxHeartbeats 4000000
theorem m_slices_Equal_L_api_Above_api_Above_ok (a0:List (Int×Int)) (a1:List (Int×Int)) (r:Bool) (h:zdq a0 a1=some r):Pure Tryz.prog 132 [(.row 2 zaj a0),(.row 2 zaj a1)] (.exact (.bool r)):=by
 unfold zdq at h
 refine Pure.ofFun (zao func132 rfl ntmps132 (by simp) rfl (res1 rfl) λ E hE=>zca (sr (qa (.xb false) rfl (gc (zav (sr (qm (.row 2 zaj a0) rfl (gq (zas (by kernel_rfl) rfl (qm (.row 2 zaj a1) rfl (gq (zas (by kernel_rfl) rfl (gq (zll rfl rfl (gc (kd (p:= ¬(List.length a0:Int)=(List.length a1:Int)) rfl h (λ hc h=> ?_) (λ hc h=> ?_)))))))))))))))))
 .refine sr (qa (.xb false) rfl (gc (zau (zbb ?_))))
  obtain rfl:=oi h
  refine ke (pt AF0 4 (.xb false)) [] rfl (s1 rfl) ⟨rfl,rfl⟩
 .refine zaq (zad (zeh h (AF0) ([]) (λ k1 h=> ?_) (λ  h=> ?_)))
  .refine sr (qm (.row 2 zaj a0) rfl (gq (zas (by kernel_rfl) rfl (qm (.xi 0) rfl (gc (zaw (zel (zcq a0 a1 k1) (zdf a0 a1 k1) (λ _=>rfl) (λ m _=>rfl) h (λ(c:Int)=>(pt (pt (pt (pt AF0 0 (.row 2 zaj a0)) 1 (.row 2 zaj a1)) 12 (.xi (List.length a0:Int))) 13 (.xi c))) (λ(c:Int)=>[]) ?_ (λ d c h=> ?_))))))))
   .exact s4 rfl rfl rfl rfl
   .unfold zdf at h
    refine sr (gq (zcd rfl rfl (gc (zav (kd (p:=c<(List.length a0:Int)) rfl h (λ hc h=> ?_) (λ hc h=> ?_))))))
    .refine zaq (zad (zav (zaw (sr (qm (.xi c) rfl (qa (.xi c) rfl (gc (zav (zec [] [(0,0),(0,1),(0,2),(0,3),(0,4),(0,5),(0,6),(0,7),(0,8)] hmixP (by kernel_rfl) (pq rfl (zae (av:= .row 2 zaj a0) rfl (pq rfl (zae (av:= .xi c) rfl ?_)))))))))))))
     obtain⟨n13,h⟩:=zag h
     refine pq rfl (zam (by kernel_rfl) rfl rfl n13.1 n13.2 (pq rfl (ziu (m:=2) (c':=zaj (gi a0 c)) (by kernel_rfl) rfl rfl rfl (pq rfl (zae (av:= .row 2 zaj a1) rfl (pq rfl (zae (av:= .xi c) rfl ?_)))))))
     obtain⟨n14,h⟩:=zag h
     refine pq rfl (zam (by kernel_rfl) rfl rfl n14.1 n14.2 (pq rfl (ziu (m:=2) (c':=zaj (gi a1 c)) (by kernel_rfl) rfl rfl rfl (pq rfl (op_neqA (a:=(gi a0 c)) (b:=(gi a1 c)) (by kernel_rfl) (eq_c_api_Above _ _) rfl rfl (zeg (zad (kd (p:= ¬(gi a0 c)=(gi a1 c)) rfl h (λ hc h=> ?_) (λ hc h=> ?_)))))))))
     .refine sr (qa (.xb false) rfl (gc (zau (zbf (zbb (zbu (zbf (zbu ?_))))))))
      obtain rfl:=oi h
      refine ke (pt AF0 4 (.xb false)) [] rfl (s1 rfl) ⟨rfl,rfl⟩
     .refine zaq (zax (zad (kr (gq (zcg rfl rfl rfl (qm (.xi (i64 (c+1))) rfl (zay (zac ⟨_,h,s4 rfl rfl rfl rfl⟩))))))))
    .refine zcr (zbs (zby (zbt (zac ⟨h,Sub.of_le lt0⟩))))
  .refine sr (qa (.xb true) rfl (gc (zau ?_)))
   obtain rfl:=oi h
   refine ke (pt AF0 4 (.xb true)) [] rfl (s1 rfl) ⟨rfl,rfl⟩
theorem m_alphabet_ValidOrder_ok (a0:List (Int×Int)) (r:Bool) (h:zen a0=some r):Pure Tryz.prog 89 [(.row 2 zaj a0)] (.exact (.bool r)):=by
 unfold zen at h
 refine Pure.ofFun (zao func89 rfl ntmps89 (by simp) rfl (res1 rfl) λ E hE=>zca (sr (qa (.xb false) rfl (gd (qm (.row 2 zaj a0) rfl ?_)))))
 obtain⟨y1,b,h⟩:=zab h
 refine gq (zah (m_close_ok _ _ b) func131 (by kernel_rfl) (lc lf ln) (qm (.tup [.row 2 zaj y1.1, .xi y1.2]) rfl (gq (zbk (av:= .row 2 zaj y1.1) rfl rfl (gq (zbk (av:= .xi y1.2) rfl rfl (qa (.row 2 zaj y1.1) rfl (qa (.xi y1.2) rfl (gc (zba h (λ(a:Bool)=>(pt AF0 2 (.xb a))) (λ(a:Bool)=>[]) (λ k2 h=> ?_) (λ a h=> ?_)))))))))))
 .refine kr (qm (.xi y1.2) rfl (gq (zbi rfl rfl (qm (.xb (decide (y1.2=0))) rfl (zbz (p:=y1.2=0) 12 rfl (λ hc=> ?_) (λ hc=> ?_))))))
  .replace h:=zcs h hc
   refine gy (zae (av:= .row 2 zaj a0) rfl (gy (zae (av:= .row 2 zaj y1.1) rfl ?_)))
   obtain⟨y4,c,h⟩:=zab h
   refine gy (zah (m_slices_Equal_L_api_Above_api_Above_ok _ _ _ c) func132 (by kernel_rfl) (lc lf (lc lf ln)) (gq (zap rfl (av:= .xb y4) rfl (qa (.xb y4) rfl (zay (zac ⟨_,h,s1 rfl⟩))))))
  .replace h:=zct h hc
   refine gn (gn (gn (gq (zal rfl (av:= .xb false) rfl (qa (.xb false) rfl (zay (zac ⟨_,h,s1 rfl⟩)))))))
 .refine zau ?_
  obtain rfl:=oi h
  refine ke (pt AF0 2 (.xb a)) [] rfl (s1 rfl) ⟨rfl,rfl⟩
theorem m_procterm_term_F_ok (c:(List UInt8)->Option Bool) (hself_procterm_term: ∀(a0:List UInt8) (r:Bool),c a0=some r->Pure Tryz.prog 60 [(.exact (.string (bs a0)))] (.exact (.bool r))) (a0:List UInt8) (r:Bool) (h:zhv c a0=some r):Pure Tryz.prog 60 [(.exact (.string (bs a0)))] (.exact (.bool r)):=by
 unfold zhv at h
 refine Pure.ofFun (zao func60 rfl ntmps60 (by simp) rfl (res1 rfl) λ E hE=>zca (sr (qa (.xb false) rfl (gd (qm (.xs a0) rfl ?_)))))
 obtain⟨y1,g,h⟩:=zab h
 refine gq (zah (m_procterm_split_ok _ _ g) func81 (by kernel_rfl) (lc lf ln) (qm (.tup [.xi y1.1, .row 1 zaa y1.2]) rfl (gq (zbk (av:= .xi y1.1) rfl rfl (gq (zbk (av:= .row 1 zaa y1.2) rfl rfl (qa (.xi y1.1) rfl (qa (.row 1 zaa y1.2) rfl (gc (zav (sr (qm (.xi y1.1) rfl (gc (zaw (sr (gq (zbi rfl rfl (qa (.xb (decide (y1.1=0))) rfl (gc (kd (p:=y1.1=0) rfl h (λ hc h=> ?_) (λ hc h=> ?_)))))))))))))))))))))
 .refine sr (qa (.xb false) rfl (gc (zau (zbf (zbb ?_)))))
  obtain rfl:=oi h
  refine ke (pt AF0 2 (.xb false)) [] rfl (s1 rfl) ⟨rfl,rfl⟩
 .refine zba h (λ(d:Bool)=>(pt (pt (pt (pt AF0 3 (.xi y1.1)) 4 (.row 1 zaa y1.2)) 15 (.xi y1.1)) 18 (.xb d))) (λ(d:Bool)=>[]) (λ k15 h=> ?_) (λ d h=> ?_)
  .refine sr (gq (zbi rfl rfl (qa (.xb (decide (y1.1=1))) rfl (gc (kd (p:=y1.1=1) rfl h (λ hc h=> ?_) (λ hc h=> ?_))))))
   .refine zaq (zac ⟨_,h,s4 rfl rfl rfl rfl⟩)
   .refine sr (gq (zbi rfl rfl (qa (.xb (decide (y1.1=2))) rfl (gc (kd (p:=y1.1=2) rfl h (λ hc h=> ?_) (λ hc h=> ?_))))))
    .refine zaq (zac ⟨_,h,s4 rfl rfl rfl rfl⟩)
    .refine sr (gq (zbi rfl rfl (qa (.xb (decide (y1.1=3))) rfl (gc (kd (p:=y1.1=3) rfl h (λ hc h=> ?_) (λ hc h=> ?_))))))
     .refine zaq (zac ⟨_,h,s4 rfl rfl rfl rfl⟩)
     .refine kr (gq (zbi rfl rfl (qa (.xb (decide (y1.1=4))) rfl (zay (zac ⟨_,h,s4 rfl rfl rfl rfl⟩)))))
  .refine kb (p:=d) rfl h (λ hc h=> ?_) (λ hc h=> ?_)
   .refine sr (qm (.row 1 zaa y1.2) rfl (gq (zas (by kernel_rfl) rfl (gq (zbi rfl rfl (qa (.xb (decide ((List.length y1.2:Int)=0))) rfl (gc (zau (zbf (zbb ?_))))))))))
    obtain rfl:=oi h
    refine ke (pt AF0 2 (.xb (decide ((List.length y1.2:Int)=0)))) [] rfl (s1 rfl) ⟨rfl,rfl⟩
   .refine sr (gq (zbi rfl rfl (qa (.xb (decide (y1.1=5))) rfl (gc (kd (p:=y1.1=5) rfl h (λ hc h=> ?_) (λ hc h=> ?_))))))
    .refine zba h (λ(e:Bool)=>(pt AF0 2 (.xb e))) (λ(e:Bool)=>[]) (λ k16 h=> ?_) (λ e h=> ?_)
     .refine kr (qm (.row 1 zaa y1.2) rfl (gq (zas (by kernel_rfl) rfl (gq (op_geq rfl rfl (qm (.xb (decide (1≤(List.length y1.2:Int)))) rfl (zbz (p:=1≤(List.length y1.2:Int)) 31 rfl (λ hc=> ?_) (λ hc=> ?_))))))))
      .replace h:=zcs h hc
       refine gy (zae (av:= .row 1 zaa y1.2) rfl (gy (zas (by kernel_rfl) rfl (gy (op_leq rfl rfl (gq (zap rfl (av:= .xb (decide ((List.length y1.2:Int)≤33))) rfl (qm (.xb (decide ((List.length y1.2:Int)≤33))) rfl (zbz (p:=(List.length y1.2:Int)≤33) 36 rfl (λ hc=> ?_) (λ hc=> ?_))))))))))
       .replace h:=zcs h hc
        refine gy (zae (av:= .row 1 zaa y1.2) rfl ?_)
        obtain⟨n19,h⟩:=zag h
        refine gy (zam (by kernel_rfl) rfl rfl n19.1 n19.2 (gy (zar (a:= .xs (gi y1.2 0)) (by kernel_rfl) rfl rfl ?_)))
        obtain⟨y20,i,h⟩:=zab h
        refine gy (zah (m_procterm_number_ok _ _ _ i) func99 (by kernel_rfl) (lc lf (lc lf ln)) (gq (zap rfl (av:= .xb y20) rfl (qa (.xb y20) rfl (zay (zac ⟨_,h,s1 rfl⟩))))))
       .replace h:=zct h hc
        refine gn (gn (gn (gn (gq (zal rfl (av:= .xb false) rfl (qa (.xb false) rfl (zay (zac ⟨_,h,s1 rfl⟩))))))))
      .replace h:=zct h hc
       refine gn (gn (gn (gq (zal rfl (av:= .xb false) rfl (qm (.xb false) rfl (gn (gn (gn (gn (gq (zal rfl (av:= .xb false) rfl (qa (.xb false) rfl (zay (zac ⟨_,h,s1 rfl⟩))))))))))))))
     .refine zau (zbf (zbb ?_))
      obtain rfl:=oi h
      refine ke (pt AF0 2 (.xb e)) [] rfl (s1 rfl) ⟨rfl,rfl⟩
    .refine sr (gq (zbi rfl rfl (qa (.xb (decide (y1.1=6))) rfl (gc (kd (p:=y1.1=6) rfl h (λ hc h=> ?_) (λ hc h=> ?_))))))
     .refine sr (qm (.row 1 zaa y1.2) rfl ?_)
      obtain⟨y21,j,h⟩:=zab h
      refine gq (zah (m_procterm_offers_ok c hself_procterm_term _ _ j) func100 (by kernel_rfl) (lc lf ln) (qa (.xb y21) rfl (gc (zau (zbf (zbb ?_))))))
      obtain rfl:=oi h
      refine ke (pt AF0 2 (.xb y21)) [] rfl (s1 rfl) ⟨rfl,rfl⟩
     .refine sr (gq (zbi rfl rfl (qa (.xb (decide (y1.1=21))) rfl (gc (kd (p:=y1.1=21) rfl h (λ hc h=> ?_) (λ hc h=> ?_))))))
      .refine zba h (λ(f:Bool)=>(pt AF0 2 (.xb f))) (λ(f:Bool)=>[]) (λ k22 h=> ?_) (λ f h=> ?_)
       .refine kr (qm (.row 1 zaa y1.2) rfl (gq (zas (by kernel_rfl) rfl (gq (zbi rfl rfl (qm (.xb (decide ((List.length y1.2:Int)=1))) rfl (zbz (p:=(List.length y1.2:Int)=1) 51 rfl (λ hc=> ?_) (λ hc=> ?_))))))))
        .replace h:=zcs h hc
         refine gy (zae (av:= .row 1 zaa y1.2) rfl ?_)
         obtain⟨n25,h⟩:=zag h
         refine gy (zam (by kernel_rfl) rfl rfl n25.1 n25.2 (gy (zar (a:= .xs (gi y1.2 0)) (by kernel_rfl) rfl rfl ?_)))
         obtain⟨y26,k,h⟩:=zab h
         refine gy (zah (m_procterm_number_ok _ _ _ k) func99 (by kernel_rfl) (lc lf (lc lf ln)) (gq (zap rfl (av:= .xb y26) rfl (qa (.xb y26) rfl (zay (zac ⟨_,h,s1 rfl⟩))))))
        .replace h:=zct h hc
         refine gn (gn (gn (gn (gq (zal rfl (av:= .xb false) rfl (qa (.xb false) rfl (zay (zac ⟨_,h,s1 rfl⟩))))))))
       .refine zau (zbf (zbb ?_))
        obtain rfl:=oi h
        refine ke (pt AF0 2 (.xb f)) [] rfl (s1 rfl) ⟨rfl,rfl⟩
      .refine zaq (zax (zad (sr (qm (.xi y1.1) rfl ?_))))
       obtain⟨y27,l,h⟩:=zab h
       refine gq (zah (m_procterm_form_ok _ _ l) func63 (by kernel_rfl) (lc lf ln) (qa (.xs y27) rfl (gc (zav (sr (qm (.row 1 zaa y1.2) rfl (gq (zas (by kernel_rfl) rfl (qm (.xs y27) rfl (gq (op_lenS (by kernel_rfl) rfl (gq (zll rfl rfl (gc (kd (p:= ¬(List.length y1.2:Int)=(List.length y27:Int)) rfl h (λ hc h=> ?_) (λ hc h=> ?_))))))))))))))))
       .refine sr (qa (.xb false) rfl (gc (zau (zbb ?_))))
        obtain rfl:=oi h
        refine ke (pt AF0 2 (.xb false)) [] rfl (s1 rfl) ⟨rfl,rfl⟩
       .refine zaq (zad (zeh h ((pt (pt AF0 3 (.xi y1.1)) 4 (.row 1 zaa y1.2))) ([]) (λ k28 h=> ?_) (λ  h=> ?_)))
        .refine sr (qm (.row 1 zaa y1.2) rfl (gq (zas (by kernel_rfl) rfl (qm (.xi 0) rfl (gc (zaw (zel (zix c y1 y27 k28) (zlt c y1 y27 k28) (λ _=>rfl) (λ m _=>rfl) h (λ(b:Int)=>(pt (pt (pt (pt (pt (pt AF0 3 (.xi y1.1)) 4 (.row 1 zaa y1.2)) 5 (.xs y27)) 64 (.row 1 zaa y1.2)) 65 (.xi (List.length y1.2:Int))) 66 (.xi b))) (λ(b:Int)=>[]) ?_ (λ t b h=> ?_))))))))
         .exact so (l4 rfl rfl rfl rfl (lq rfl (lq rfl lt0)))
         .unfold zlt at h
          refine sr (gq (zcd rfl rfl (gc (zav (kd (p:=b<(List.length y1.2:Int)) rfl h (λ hc h=> ?_) (λ hc h=> ?_))))))
          .refine zaq (zad (zav (zaw (sr (qm (.xi b) rfl ?_)))))
           obtain⟨n45,h⟩:=zag h
           refine gq (zam (by kernel_rfl) rfl rfl n45.1 n45.2 (gq (zar (a:= .xs (gi y1.2 b)) (by kernel_rfl) rfl rfl (qa (.xi b) rfl (qa (.xs (gi y1.2 b)) rfl (gd (qm (.xs y27) rfl (qm (.xi b) rfl ?_))))))))
           obtain⟨n46,h⟩:=zag h
           refine gq (zbn (by kernel_rfl) rfl rfl n46.1 n46.2 (qm (.xs (gi y1.2 b)) rfl ?_))
           obtain⟨y47,n,h⟩:=zab h
           refine gq (zah (m_procterm_part_ok c hself_procterm_term _ _ _ n) func101 (by kernel_rfl) (lc lf (lc lf ln)) (gq (zfo rfl (gc (kb (p:= !y47) rfl h (λ hc h=> ?_) (λ hc h=> ?_))))))
           .refine sr (qa (.xb false) rfl (gc (zau (zbf (zbb (zbu (zbf (zbu ?_))))))))
            obtain rfl:=oi h
            refine ke (pt AF0 2 (.xb false)) [] rfl (s1 rfl) ⟨rfl,rfl⟩
           .refine zaq (zax (zad (kr (gq (zcg rfl rfl rfl (qm (.xi (i64 (b+1))) rfl (zay (zac ⟨_,h,so (l4 rfl rfl rfl rfl (lq rfl (lq rfl lt0)))⟩))))))))
          .refine zcr (zbs (zby (zbt (zac ⟨h,s2 rfl rfl⟩))))
        .refine zav (sr (qm (.xi y1.1) rfl (gq (zll rfl rfl (gc (kd (p:= ¬y1.1=18) rfl h (λ hc h=> ?_) (λ hc h=> ?_)))))))
         .refine sr (qa (.xb true) rfl (gc (zau (zbb ?_))))
          obtain rfl:=oi h
          refine ke (pt AF0 2 (.xb true)) [] rfl (s1 rfl) ⟨rfl,rfl⟩
         .refine zaq (zad (sr (qm (.row 1 zaa y1.2) rfl ?_)))
          obtain⟨n48,h⟩:=zag h
          refine gq (zam (by kernel_rfl) rfl rfl n48.1 n48.2 (gq (zar (a:= .xs (gi y1.2 1)) (by kernel_rfl) rfl rfl ?_)))
          obtain⟨y49,o,h⟩:=zab h
          refine gq (zah (m_procterm_relation_ok _ _ o) func102 (by kernel_rfl) (lc lf ln) (qm (.tup [.row 2 zai y49.1, .xb y49.2]) rfl (gq (zbk (av:= .row 2 zai y49.1) rfl rfl (gq (zbk (av:= .xb y49.2) rfl rfl (qa (.row 2 zai y49.1) rfl (qa (.xb y49.2) rfl (gd (qm (.row 2 zai y49.1) rfl ?_))))))))))
          obtain⟨y50,q,h⟩:=zab h
          refine gq (zah (m_procterm_order_ok _ _ q) func103 (by kernel_rfl) (lc lf ln) ?_)
          obtain⟨y51,s,h⟩:=zab h
          refine gq (zah (m_alphabet_ValidOrder_ok _ _ s) func89 (by kernel_rfl) (lc lf ln) (qa (.xb y51) rfl (gc (zau ?_))))
          obtain rfl:=oi h
          refine ke (pt AF0 2 (.xb y51)) [] rfl (s1 rfl) ⟨rfl,rfl⟩
theorem m_procterm_term_S_ok: ∀n:Nat,(∀(a0:List UInt8) (r:Bool),zgd n a0=some r->Pure Tryz.prog 60 [(.exact (.string (bs a0)))] (.exact (.bool r)))
  |0=>(λ _ _ h=>by have h':(none:Option _)=some _:=h;cases h')
  |n+1=>by
    have ih:=m_procterm_term_S_ok n
    exact λ a0 r h=>m_procterm_term_F_ok (zgd n) ih a0 r h
theorem m_procterm_term_ok (a0:List UInt8) (r:Bool) (h:m_procterm_term a0=some r):Pure Tryz.prog 60 [(.exact (.string (bs a0)))] (.exact (.bool r)):=(m_procterm_term_S_ok FU) a0 r h
theorem zcu (a0:Int) (a1:List (List UInt8)) (r:(List UInt8)) (h:zcn a0 a1=some r):Pure Tryz.prog 38 [(.exact (.int .i64 a0)),(.row 1 zaa a1)] (.exact (.string (bs r))):=by
 unfold zcn at h
 refine Pure.ofFun (zao func38 rfl ntmps38 (by simp) rfl (res1 rfl) λ E hE=>zca (sr (qa (.xs ([]:List UInt8)) rfl (gd (qm (.xi a0) rfl (qm (.row 1 zaa a1) rfl ?_))))))
 obtain⟨y1,a,h⟩:=zab h
 refine gq (zah (m_value_Proc_ok _ _ _ a) func83 (by kernel_rfl) (lc lf (lc lf ln)) (qa (.xs y1) rfl (gc (zav (sr (qm (.xs y1) rfl ?_))))))
 obtain⟨y2,b,h⟩:=zab h
 refine gq (zah (m_procterm_term_ok _ _ b) func60 (by kernel_rfl) (lc lf ln) (gq (zfo rfl (gc (kb (p:= !y2) rfl h (λ hc h=> ?_) (λ hc h=> ?_))))))
 .refine sr (qa (.xs ([]:List UInt8)) rfl (gc (zau (zbb ?_))))
  obtain rfl:=oi h
  refine ke (pt AF0 4 (.xs ([]:List UInt8))) [] rfl (s1 rfl) ⟨rfl,rfl⟩
 .refine zaq (zad (sr (qm (.xs y1) rfl (qa (.xs y1) rfl (gc (zau ?_))))))
  obtain rfl:=oi h
  refine ke (pt AF0 4 (.xs y1)) [] rfl (s1 rfl) ⟨rfl,rfl⟩
theorem m_procterm_Stop_ok  (r:(List UInt8)) (h:zfu=some r):Pure Tryz.prog 10 [] (.exact (.string (bs r))):=by
 unfold zfu at h
 refine Pure.ofFun (zao func10 rfl ntmps10 (by simp) rfl (res1 rfl) λ E hE=>zca (sr (qa (.xs ([]:List UInt8)) rfl (gd ?_))))
 obtain⟨y1,a,h⟩:=zab h
 refine gq (zah (zcu _ _ _ a) func38 (by kernel_rfl) (lc lf (lc (zed (by decide)) ln)) (qa (.xs y1) rfl (gc (zau ?_))))
 obtain rfl:=oi h
 refine ke (pt AF0 0 (.xs y1)) [] rfl (s1 rfl) ⟨rfl,rfl⟩
theorem m_procterm_Skip_ok  (r:(List UInt8)) (h:zha=some r):Pure Tryz.prog 12 [] (.exact (.string (bs r))):=by
 unfold zha at h
 refine Pure.ofFun (zao func12 rfl ntmps12 (by simp) rfl (res1 rfl) λ E hE=>zca (sr (qa (.xs ([]:List UInt8)) rfl (gd ?_))))
 obtain⟨y1,a,h⟩:=zab h
 refine gq (zah (zcu _ _ _ a) func38 (by kernel_rfl) (lc lf (lc (zed (by decide)) ln)) (qa (.xs y1) rfl (gc (zau ?_))))
 obtain rfl:=oi h
 refine ke (pt AF0 0 (.xs y1)) [] rfl (s1 rfl) ⟨rfl,rfl⟩
theorem m_slices_Clone_L_api_Offer_api_Offer_ok (a0:List (Int×(List UInt8))) (r:(List (Int×(List UInt8)))) (h:zds a0=some r):Fun Tryz.prog 76 [(.row 2 zan a0)] [] (λ a s=> ∃z0,a= .exact z0/\s=[vecT Tryz.prog 27 2 zan z0 r]):=by
 unfold zds at h
 refine zao func76 rfl ntmps76 (by simp) rfl (res1 rfl) λ E hE=>zca (sr (qa (.exact (.slice none 0 0)) rfl (gc (zav (sr (qm (.row 2 zan a0) rfl (gq (op_eqnil_row (by kernel_rfl) rfl (gc ?_)))))))))
 obtain⟨h1,h⟩:=nilc_some h
 refine k_cond_u (p:=a0=[]) rfl (λ hc=> ?_) ?_
 .replace h:=h1 hc
  refine sr (qa (.exact (.slice none 0 0)) rfl (gc (zau (zbb ?_))))
  obtain rfl:=oi h
  refine ke (pt AF0 2 (.exact (.slice none 0 0))) [vecT Tryz.prog 27 2 zan (.slice none 0 0) []] rfl (Sub.trans (SubU.to (SubU.nilT (P:=Tryz.prog) (t:=27) (n:=2) (enc:=zan))) (s1 rfl)) ⟨(.slice none 0 0),rfl,rfl⟩
 .refine zaq (zad (sr (G_l rfl (op_lit0I (enc:=zan) (n:=2) (by kernel_rfl) (λ v1=>qm (.row 2 zan a0) rfl ?_)))))
  obtain⟨n2,h⟩:=zag h
  refine G_l rfl (zdo (by kernel_rfl) rfl rfl zgr n2 (λ v3=>qa (.exact v3) rfl (gc (zau ?_))))
  obtain rfl:=oi h
  refine ke (pt AF0 2 (.exact v3)) [vecT Tryz.prog 27 2 zan v3 (([]:List (Int×(List UInt8)))++a0)] rfl (s1 rfl) ⟨v3,rfl,rfl⟩
theorem m_slices_Compact_L_api_Offer_api_Offer_ok {w0:Value} (a0:List (Int×(List UInt8))) (r:(List (Int×(List UInt8)))) (h:zdl a0=some r):Fun Tryz.prog 79 [(.exact w0)] [vecT Tryz.prog 27 2 zan w0 a0] (λ a s=>a= .row 2 zan r/\s=[]):=by
 unfold zdl at h
 refine zao func79 rfl ntmps79 (by simp) rfl (res1 rfl) λ E hE=>zca (sr (qa (.exact (.slice none 0 0)) rfl (gc (zav (sr (qm (.exact w0) rfl (G_r rfl (zhf (by kernel_rfl) rfl (gq (zcd rfl rfl (gc (kd (p:=(List.length a0:Int)<2) rfl h (λ hc h=> ?_) (λ hc h=> ?_)))))))))))))
 .refine sr (qm (.exact w0) rfl (qa (.exact w0) rfl (gc (zau (zbb ?_)))))
  obtain rfl:=oi h
  refine ke (pt AF0 2 (.row 2 zan a0)) [] rfl (Sub.trans (SubU.to (SubU.freezeT (s:=2) rfl zcm)) (s1 rfl)) ⟨rfl,rfl⟩
 .refine zaq (zad (zeh h ((pt AF0 0 (.exact w0))) ([vecT Tryz.prog 27 2 zan w0 a0]) (λ k1 h=> ?_) (λ  h=> ?_)))
  .refine sr (qa (.xi 1) rfl (gc (zaw (zel (zci a0 k1) (zdb a0 k1) (λ _=>rfl) (λ m _=>rfl) h (λ(c:Int)=>(pt (pt AF0 0 (.exact w0)) 3 (.xi c))) (λ(c:Int)=>[vecT Tryz.prog 27 2 zan w0 a0]) ?_ (λ q c h=> ?_)))))
   .exact s2 rfl rfl
   .unfold zdb at h
    refine zav (sr (qm (.xi c) rfl (qm (.exact w0) rfl (G_r rfl (zhf (by kernel_rfl) rfl (gq (zcd rfl rfl (gc (kd (p:=c<(List.length a0:Int)) rfl h (λ hc h=> ?_) (λ hc h=> ?_))))))))))
    .refine zaq (zad (zeh h ((pt (pt AF0 0 (.exact w0)) 3 (.xi c))) ([vecT Tryz.prog 27 2 zan w0 a0]) (λ k628 h=> ?_) (λ  h=> ?_)))
     .refine zaw (zav (zec [] [(0,0),(0,1),(0,4),(0,5),(0,6),(1,2),(1,3),(1,7),(1,8),(0,9)] hmixP (by kernel_rfl) (pq rfl (zae (av:= .exact w0) rfl (pq rfl (zae (av:= .xi c) rfl (pq rfl (zae (av:= .exact w0) rfl (pq rfl (zae (av:= .xi c) rfl (pq rfl (zek rfl rfl rfl ?_))))))))))))
      obtain⟨n691,h⟩:=zag h
      refine P_r rfl (zdy (by kernel_rfl) rfl rfl n691.1 n691.2 (P_r rfl (op_load_vecN (i:=c) (o:=0) (m:=2) (c':=zan (gi a0 c)) (by kernel_rfl) zcm rfl n691.1 n691.2 rfl rfl ?_)))
      obtain⟨n692,h⟩:=zag h
      refine P_r rfl (zdy (by kernel_rfl) rfl rfl n692.1 n692.2 (P_r rfl (op_load_vecN (i:=i64 (c - 1)) (o:=0) (m:=2) (c':=zan (gi a0 (i64 (c - 1)))) (by kernel_rfl) zcm rfl n692.1 n692.2 rfl rfl (pq rfl (op_eqlA (a:=(gi a0 c)) (b:=(gi a0 (i64 (c - 1)))) (by kernel_rfl) (eq_c_api_Offer _ _) rfl rfl (zeg (zad (kd (p:=(gi a0 c)=(gi a0 (i64 (c - 1)))) rfl h (λ hc h=> ?_) (λ hc h=> ?_)))))))))
      .refine sr (qm (.exact w0) rfl (qm (.xi c) rfl ?_))
       obtain⟨n693,h⟩:=zag h
       refine G_r rfl (zkf (by kernel_rfl) rfl (zew rfl) zfa n693.1 n693.2.1 n693.2.2 (qa (.vsub w0 2 (Int.toNat c) (Int.toNat (List.length a0:Int) - Int.toNat c)) rfl (gc (k_join2_0 h (λ(g:List (Int×(List UInt8))) (e:Int)=>(pt (pt AF0 0 (.exact w0)) 3 (.xi e))) (λ(g:List (Int×(List UInt8))) (e:Int)=>[vecT Tryz.prog 27 2 zan w0 g]) (λ k694 h=> ?_) (λ g e h=> ?_)))))
       .refine sr (qa (.xi 1) rfl (gc (zaw (k_loop3_0 (zck a0 c k694) (zda a0 c k694) (λ _ _ _=>rfl) (λ m _ _ _=>rfl) h (λ(f:List (Int×(List UInt8))) (k:Int) (d:Int)=>(pt (pt (pt (pt AF0 0 (.exact w0)) 3 (.xi k)) 4 (.vsub w0 2 (Int.toNat c) (Int.toNat (List.length a0:Int) - Int.toNat c))) 5 (.xi d))) (λ(f:List (Int×(List UInt8))) (k:Int) (d:Int)=>[vecT Tryz.prog 27 2 zan w0 f]) ?_ (λ t f k d h=> ?_)))))
        .exact s4 rfl rfl rfl rfl
        .unfold zda at h
         refine zav (sr (qm (.xi d) rfl (qm (.vsub w0 2 (Int.toNat c) (Int.toNat (List.length a0:Int) - Int.toNat c)) rfl (gq (op_len_vsub (by kernel_rfl) rfl (gq (zcd rfl rfl (gc (kd (p:=d<((Int.toNat (List.length a0:Int) - Int.toNat c:Nat):Int)) rfl h (λ hc h=> ?_) (λ hc h=> ?_))))))))))
         .refine zaq (zad (k_join2_0 h (λ(l:List (Int×(List UInt8))) (n:Int)=>(pt (pt (pt (pt AF0 0 (.exact w0)) 3 (.xi n)) 4 (.vsub w0 2 (Int.toNat c) (Int.toNat (List.length a0:Int) - Int.toNat c))) 5 (.xi d))) (λ(l:List (Int×(List UInt8))) (n:Int)=>[vecT Tryz.prog 27 2 zan w0 l]) (λ k741 h=> ?_) (λ l n h=> ?_)))
          .refine zaw (zav (zec [] [(0,0),(0,1),(0,4),(0,5),(0,6),(1,2),(1,3),(1,7),(1,8),(0,9)] hmixP (by kernel_rfl) (pq rfl (zae (av:= .vsub w0 2 (Int.toNat c) (Int.toNat (List.length a0:Int) - Int.toNat c)) rfl (pq rfl (zae (av:= .xi d) rfl (pq rfl (zae (av:= .vsub w0 2 (Int.toNat c) (Int.toNat (List.length a0:Int) - Int.toNat c)) rfl (pq rfl (zae (av:= .xi d) rfl (pq rfl (zek rfl rfl rfl ?_))))))))))))
           obtain⟨n746,h⟩:=zag h
           refine P_r rfl (op_index_vsub (j:=(c+d)) (by kernel_rfl) rfl rfl n746.2.1 (by have hh:=n746;try simp only[i64]at *;omega) (by have hh:=n746;try simp only[i64]at *;omega) (by have hh:=n746;try simp only[i64]at *;omega) (P_r rfl (op_load_vecN (i:=(c+d)) (o:=0) (m:=2) (c':=zan (gi f (c+d))) (by kernel_rfl) zcm rfl n746.2.2.2.1 n746.2.2.2.2 rfl rfl ?_)))
           obtain⟨n747,h⟩:=zag h
           refine P_r rfl (op_index_vsub (j:=(c+(i64 (d - 1)))) (by kernel_rfl) rfl rfl n747.2.1 (by have hh:=n747;try simp only[i64]at *;omega) (by have hh:=n747;try simp only[i64]at *;omega) (by have hh:=n747;try simp only[i64]at *;omega) (P_r rfl (op_load_vecN (i:=(c+(i64 (d - 1)))) (o:=0) (m:=2) (c':=zan (gi f (c+(i64 (d - 1))))) (by kernel_rfl) zcm rfl n747.2.2.2.1 n747.2.2.2.2 rfl rfl (pq rfl (op_neqA (a:=(gi f (c+d))) (b:=(gi f (c+(i64 (d - 1))))) (by kernel_rfl) (eq_c_api_Offer _ _) rfl rfl (zeg (zad (kd (p:= ¬(gi f (c+d))=(gi f (c+(i64 (d - 1))))) rfl h (λ hc h=> ?_) (λ hc h=> ?_)))))))))
           .refine sr (qm (.exact w0) rfl (qm (.xi k) rfl (qm (.vsub w0 2 (Int.toNat c) (Int.toNat (List.length a0:Int) - Int.toNat c)) rfl (qm (.xi d) rfl ?_))))
            obtain⟨n748,h⟩:=zag h
            refine G_r rfl (op_index_vsub (j:=(c+d)) (by kernel_rfl) rfl rfl n748.2.1 (by have hh:=n748;try simp only[i64]at *;omega) (by have hh:=n748;try simp only[i64]at *;omega) (by have hh:=n748;try simp only[i64]at *;omega) (G_r rfl (op_load_vecN (i:=(c+d)) (o:=0) (m:=2) (c':=zan (gi f (c+d))) (by kernel_rfl) zcm rfl n748.2.2.2.1 n748.2.2.2.2 rfl rfl ?_)))
            obtain⟨n749,h⟩:=zag h
            refine G_r rfl (zdy (by kernel_rfl) rfl rfl n749.1 n749.2 (G_l rfl (op_store_vec (i:=k) (o:=0) (z:=gi f (c+d)) (c':=[.xi ((gi f (c+d)).1), .xs ((gi f (c+d)).2)]) (by kernel_rfl) zcm rfl n749.1 n749.2 rfl CellsOf.agg (lc lf (lc lf ln)) (zgr _) (by kernel_rfl) (Nat.le_of_ble_eq_true rfl) rfl (gc (kr (qm (.xi k) rfl (gq (zcg rfl rfl rfl (qa (.xi (i64 (k+1))) rfl (zay (zax (zac ⟨_,_,h,s4 rfl rfl rfl rfl⟩))))))))))))
           .refine zaq (zax (zac ⟨_,_,h,s4 rfl rfl rfl rfl⟩))
          .refine kr (qm (.xi d) rfl (gq (zcg rfl rfl rfl (qa (.xi (i64 (d+1))) rfl (zay (zac ⟨_,_,_,h,s4 rfl rfl rfl rfl⟩))))))
         .refine zcr (zbs (zby (zbt (zac ⟨_,_,h,s2 rfl rfl⟩))))
       .refine sr (qm (.exact w0) rfl (qm (.xi e) rfl ?_))
        obtain⟨n750,h⟩:=zag h
        refine G_r rfl (zkf (by kernel_rfl) rfl (zew rfl) zfa n750.1 n750.2.1 n750.2.2 (G_l rfl (op_clear (zr:=(0,[])) (by kernel_rfl) zcm zgr rfl (by have:=n750;omega) zeroValue34 (λ _ _=>(Fit.ex (Fit.ex Fit.nil0))) (gd (qm (.exact w0) rfl (qm (.xi e) rfl (G_sub rfl (SubU.freezeT3 (s1:=0) (s2:=54) (s3:=57) rfl rfl rfl zcm) ?_)))))))
        obtain⟨n751,h⟩:=zag h
        refine gq (op_slice_rowt (by kernel_rfl) rfl zfa (zew rfl) (Int.le_refl 0) n751.1 n751.2 (qa (.row 2 zan (List.take (Int.toNat e) (List.take (Int.toNat e) g++List.replicate (Int.toNat (List.length g:Int) - Int.toNat e) ((0,[]):Int×(List UInt8))++List.drop (Int.toNat e+(Int.toNat (List.length g:Int) - Int.toNat e)) g))) rfl (gc (zau (zbf (zbu (zbu (zbf (zbu ?_)))))))))
        obtain rfl:=oi h
        refine ke (pt AF0 2 (.row 2 zan (List.take (Int.toNat e) (List.take (Int.toNat e) g++List.replicate (Int.toNat (List.length g:Int) - Int.toNat e) ((0,[]):Int×(List UInt8))++List.drop (Int.toNat e+(Int.toNat (List.length g:Int) - Int.toNat e)) g)))) [] rfl (s1 rfl) ⟨rfl,rfl⟩
      .refine zaq (zax (zac ⟨h,s2 rfl rfl⟩))
     .refine kr (qm (.xi c) rfl (gq (zcg rfl rfl rfl (qa (.xi (i64 (c+1))) rfl (zay (zac ⟨_,h,s2 rfl rfl⟩))))))
    .refine zcr (zbs (zby (zbt (zac ⟨h,s1 rfl⟩))))
  .refine sr (qm (.exact w0) rfl (qa (.exact w0) rfl (gc (zau ?_))))
   obtain rfl:=oi h
   refine ke (pt AF0 2 (.row 2 zan a0)) [] rfl (Sub.trans (SubU.to (SubU.freezeT (s:=2) rfl zcm)) (s1 rfl)) ⟨rfl,rfl⟩
theorem m_procterm_Prefix_ok (a0:List (Int×(List UInt8))) (r:(List UInt8)) (h:zgh a0=some r):Pure Tryz.prog 33 [(.row 2 zan a0)] (.exact (.string (bs r))):=by
 unfold zgh at h
 refine Pure.ofFun (zao func33 rfl ntmps33 (by simp) rfl (res1 rfl) λ E hE=>zca (sr (qa (.xs ([]:List UInt8)) rfl (gc (zav (sr (qm (.row 2 zan a0) rfl (gq (zas (by kernel_rfl) rfl (gq (zbi rfl rfl (gc (kd (p:=(List.length a0:Int)=0) rfl h (λ hc h=> ?_) (λ hc h=> ?_))))))))))))))
 .refine sr ?_
  obtain⟨y1,f,h⟩:=zab h
  refine gq (zah (m_procterm_Stop_ok _ f) func10 (by kernel_rfl) ln (qa (.xs y1) rfl (gc (zau (zbb ?_)))))
  obtain rfl:=oi h
  refine ke (pt AF0 2 (.xs y1)) [] rfl (s1 rfl) ⟨rfl,rfl⟩
 .refine zaq (zad (sr (qm (.row 2 zan a0) rfl ?_)))
  obtain⟨y2,g,h⟩:=zab h
  refine G_l rfl (op_fun_0_1_1 (m_slices_Clone_L_api_Offer_api_Offer_ok _ _ g) func76 (by kernel_rfl) (lc lf ln) (λ v3=>qa (.exact v3) rfl (gd (qm (.exact v3) rfl ?_))))
  obtain⟨y4,i,h⟩:=zab h
  refine G_l rfl (zaz (m_sort_api_Offer_ok m_procterm_compareOffers_ok _ _ i) func77 (by kernel_rfl) (lc lf (lc lf ln)) (gd (qa (.exact (.slice none 0 0)) rfl (gc (zdv h (λ(d:List (List UInt8)) (v3_j5:Value)=>(pt AF0 3 (.exact v3_j5))) (λ(d:List (List UInt8)) (v3_j5:Value)=>[vecT Tryz.prog 26 1 zaa v3_j5 d]) (λ k5 h=> ?_) (λ d v3_j5 h=> ?_))))))
  .refine sr (qm (.exact v3) rfl ?_)
   obtain⟨y23,j,h⟩:=zab h
   refine G_l rfl (op_fun_1_0_0 (m_slices_Compact_L_api_Offer_api_Offer_ok _ _ j) func79 (by kernel_rfl) (lc lf ln) (gq (zas (by kernel_rfl) rfl (qm (.xi 0) rfl (gc (zaw (zem (zfl k5 y23) (zjr k5 y23) (λ _ _=>rfl) (λ m _ _=>rfl) h (λ(e:List (List UInt8)) (b:Int) (v3_l2:Value)=>(pt (pt (pt (pt AF0 3 (.exact v3_l2)) 15 (.row 2 zan y23)) 16 (.xi (List.length y23:Int))) 17 (.xi b))) (λ(e:List (List UInt8)) (b:Int) (v3_l2:Value)=>[vecT Tryz.prog 26 1 zaa v3_l2 e]) (.slice none 0 0) ?_ (λ q e b v3_l2 h=> ?_))))))))
   .refine Sub.trans (SubU.to (SubU.nilT (P:=Tryz.prog) (t:=26) (n:=1) (enc:=zaa))) (s4 rfl rfl rfl rfl)
   .unfold zjr at h
    refine sr (gq (zcd rfl rfl (gc (zav (kd (p:=b<(List.length y23:Int)) rfl h (λ hc h=> ?_) (λ hc h=> ?_))))))
    .refine zaq (zad (zav (zaw (sr ?_))))
     obtain⟨n34,h⟩:=zag h
     refine gq (zam (by kernel_rfl) rfl rfl n34.1 n34.2 (gq (ziu (m:=2) (c':=zan (gi y23 b)) (by kernel_rfl) rfl rfl rfl (G_l rfl (op_alloc (c:=[.xi (((0,[]):Int×(List UInt8)).1), .xs (((0,[]):Int×(List UInt8)).2)]) rfl (lc lf (lc lf ln)) (λ b35=>G_l rfl (op_store_box (c':=[.xi ((gi y23 b).1), .xs ((gi y23 b).2)]) (c3:=[.xi ((gi y23 b).1), .xs ((gi y23 b).2)]) rfl rfl CellsOf.agg (lc lf (lc lf ln)) (zgr _) (by kernel_rfl) (Nat.le_of_ble_eq_true rfl) rfl (gc (zec [] [(0,0),(0,1),(0,4),(1,2),(0,3),(1,5),(0,6),(2,7),(0,8)] hmixP (by kernel_rfl) (pq rfl (zae (av:= .exact v3_l2) rfl (pq rfl (zdx (o:=0) (by kernel_rfl) rfl (pq rfl (zdx (o:=1) (by kernel_rfl) rfl (P_r rfl (zdz (a:= .xi ((gi y23 b).1)) (by kernel_rfl) rfl rfl ?_)))))))))))))))))
     obtain⟨y36,k,h⟩:=zab h
     refine pq rfl (zah (zmk _ _ k) func80 (by kernel_rfl) (lc lf ln) (P_r rfl (zdz (a:= .xs ((gi y23 b).2)) (by kernel_rfl) rfl rfl (pq rfl (zbv (n:=1) (enc:=zaa) [y36,(gi y23 b).2] (CellsAll.cons rfl CellsOf.str (CellsAll.cons rfl CellsOf.str CellsAll.nil)) rfl (by kernel_rfl) (LEss.cons (lc lf ln) (LEss.cons (lc lf ln) LEss.nil)) ?_)))))
     obtain⟨n37,h⟩:=zag h
     refine P_l rfl (opB_f1 (zdo (by kernel_rfl) rfl rfl zcp n37 (λ v38=>pq rfl (zbc (av:= .exact v38) rfl (zeg (zax (zad (kr (gq (zcg rfl rfl rfl (qm (.xi (i64 (b+1))) rfl (zay (zac ⟨_,_,v38,h, ?_⟩)))))))))))))
     refine Sub.trans (SubU.to SubU.f1) (Sub.trans (SubU.to SubU.drop) (s4 rfl rfl rfl rfl))
    .refine zcr (zbs (zby (zbt (zac ⟨_,v3_l2,h,s1 rfl⟩))))
  .refine sr (qm (.exact v3_j5) rfl (G_sub rfl (SubU.freezeT2 (s1:=3) (s2:=30) rfl rfl zbj) ?_))
   obtain⟨y39,l,h⟩:=zab h
   refine gq (zah (zcu _ _ _ l) func38 (by kernel_rfl) (lc lf (lc lf ln)) (qa (.xs y39) rfl (gc (zau ?_))))
   obtain rfl:=oi h
   refine ke (pt AF0 2 (.xs y39)) [] rfl (s1 rfl) ⟨rfl,rfl⟩
theorem m_procterm_open_ok (a0:List UInt8) (r:Int×(List (List UInt8))) (h:m_procterm_open a0=some r):Pure Tryz.prog 58 [(.exact (.string (bs a0)))] (.tup [.exact (.int .i64 r.1), .row 1 zaa r.2]):=by
 unfold m_procterm_open at h
 refine Pure.ofFun (zao func58 rfl ntmps58 (by simp) rfl (res2 rfl) λ E hE=>zca (sr (qa (.xi 0) rfl (qa (.exact (.slice none 0 0)) rfl (gc (zav (sr (qm (.xs a0) rfl ?_))))))))
 obtain⟨y1,a,h⟩:=zab h
 refine gq (zah (m_procterm_term_ok _ _ a) func60 (by kernel_rfl) (lc lf ln) (gq (zfo rfl (gc (kb (p:= !y1) rfl h (λ hc h=> ?_) (λ hc h=> ?_))))))
 .refine sr (qa (.xi 0) rfl (qa (.exact (.slice none 0 0)) rfl (gc (zau (zbb ?_)))))
  obtain rfl:=oi h
  refine ke (pt (pt AF0 2 (.xi 0)) 3 (.row 1 zaa [])) [] rfl (so (AF.le_put (zed (by decide)) (lq rfl lt0))) ⟨rfl,rfl⟩
 .refine zaq (zad (sr (qm (.xs a0) rfl ?_)))
  obtain⟨y2,b,h⟩:=zab h
  refine gq (zah (m_procterm_split_ok _ _ b) func81 (by kernel_rfl) (lc lf ln) (gq (zbk (av:= .xi y2.1) rfl rfl (gq (zbk (av:= .row 1 zaa y2.2) rfl rfl (qa (.xi y2.1) rfl (qa (.row 1 zaa y2.2) rfl (gc (zau ?_)))))))))
  obtain rfl:=oi h
  refine ke (pt (pt AF0 2 (.xi y2.1)) 3 (.row 1 zaa y2.2)) [] rfl (s2 rfl rfl) ⟨rfl,rfl⟩
theorem m_procterm_Offers_ok (a0:List UInt8) (r:(List (Int×(List UInt8)))) (h:m_procterm_Offers a0=some r):Pure Tryz.prog 34 [(.exact (.string (bs a0)))] (.row 2 zan r):=by
 unfold m_procterm_Offers at h
 refine Pure.ofFun (zao func34 rfl ntmps34 (by simp) rfl (res1 rfl) λ E hE=>zca (sr (qa (.exact (.slice none 0 0)) rfl (gd (qm (.xs a0) rfl ?_)))))
 obtain⟨y1,a,h⟩:=zab h
 refine gq (zah (m_procterm_open_ok _ _ a) func58 (by kernel_rfl) (lc lf ln) (qm (.tup [.xi y1.1, .row 1 zaa y1.2]) rfl (gq (zbk (av:= .xi y1.1) rfl rfl (gq (zbk (av:= .row 1 zaa y1.2) rfl rfl (qa (.xi y1.1) rfl (qa (.row 1 zaa y1.2) rfl (gc (zav (sr (qm (.xi y1.1) rfl (gq (zll rfl rfl (gc (kd (p:= ¬y1.1=6) rfl h (λ hc h=> ?_) (λ hc h=> ?_)))))))))))))))))
 .refine sr (qa (.exact (.slice none 0 0)) rfl (gc (zau (zbb ?_))))
  obtain rfl:=oi h
  refine ke (pt AF0 2 (.row 2 zan [])) [] rfl (so (AF.le_put (zed (by decide)) lt0)) ⟨rfl,rfl⟩
 .refine zaq (zad (sr (qm (.row 1 zaa y1.2) rfl ?_)))
  obtain⟨y2,b,h⟩:=zab h
  refine gq (zah (m_procterm_pairUp_ok _ _ b) func61 (by kernel_rfl) (lc lf ln) (qa (.row 2 zan y2) rfl (gc (zau ?_))))
  obtain rfl:=oi h
  refine ke (pt AF0 2 (.row 2 zan y2)) [] rfl (s1 rfl) ⟨rfl,rfl⟩
end
noncomputable section
open Go.RowKit
attribute [local irreducible] AV.exact AV.top AV.row AV.ptr AV.agg AV.tup AV.eptr AV.fn AV.nilq AV.nilqn opA opB opM opR Quiet Loud Reads wpG awp den Sub SubU Pure Fun vecI vecT boxI CellsAll CellsOf OneC LEs LEss
set_option maxRecDepth 100000
set_option maxHeartbeats 4000000
theorem m_procterm_Valid_ok (a0:List UInt8) (r:Bool) (h:m_procterm_Valid a0=some r):Pure Tryz.prog 35 [(.exact (.string (bs a0)))] (.exact (.bool r)):=by
 unfold m_procterm_Valid at h
 refine Pure.ofFun (zao func35 rfl ntmps35 (by simp) rfl (res1 rfl) λ E hE=>zca (sr (qa (.xb false) rfl (gd (qm (.xs a0) rfl ?_)))))
 obtain⟨y1,a,h⟩:=zab h
 refine gq (zah (m_procterm_term_ok _ _ a) func60 (by kernel_rfl) (lc lf ln) (qa (.xb y1) rfl (gc (zau ?_))))
 obtain rfl:=oi h
 refine ke (pt AF0 2 (.xb y1)) [] rfl (s1 rfl) ⟨rfl,rfl⟩
theorem m_procterm_Op_ok (a0:List UInt8) (r:Int) (h:m_procterm_Op a0=some r):Pure Tryz.prog 36 [(.exact (.string (bs a0)))] (.exact (.int .i64 r)):=by
 unfold m_procterm_Op at h
 refine Pure.ofFun (zao func36 rfl ntmps36 (by simp) rfl (res1 rfl) λ E hE=>zca (sr (qa (.xi 0) rfl (gc (zav (sr (qm (.xs a0) rfl ?_)))))))
 obtain⟨y1,a,h⟩:=zab h
 refine gq (zah (m_procterm_term_ok _ _ a) func60 (by kernel_rfl) (lc lf ln) (gq (zfo rfl (gc (kb (p:= !y1) rfl h (λ hc h=> ?_) (λ hc h=> ?_))))))
 .refine sr (qa (.xi 0) rfl (gc (zau (zbb ?_))))
  obtain rfl:=oi h
  refine ke (pt AF0 2 (.xi 0)) [] rfl (s1 rfl) ⟨rfl,rfl⟩
 .refine zaq (zad (sr (qm (.xs a0) rfl ?_)))
  obtain⟨y2,b,h⟩:=zab h
  refine gq (zah (m_procterm_split_ok _ _ b) func81 (by kernel_rfl) (lc lf ln) (qm (.tup [.xi y2.1, .row 1 zaa y2.2]) rfl (gq (zbk (av:= .xi y2.1) rfl rfl (gq (zbk (av:= .row 1 zaa y2.2) rfl rfl (qa (.xi y2.1) rfl (qa (.row 1 zaa y2.2) rfl (gd (qm (.xi y2.1) rfl (qa (.xi y2.1) rfl (gc (zau ?_)))))))))))))
  obtain rfl:=oi h
  refine ke (pt AF0 2 (.xi y2.1)) [] rfl (s1 rfl) ⟨rfl,rfl⟩
theorem m_slices_Clone_L_api_Value_api_Value_ok (a0:List (List UInt8)) (r:(List (List UInt8))) (h:zdr a0=some r):Fun Tryz.prog 62 [(.row 1 zaa a0)] [] (λ a s=> ∃z0,a= .exact z0/\s=[vecT Tryz.prog 26 1 zaa z0 r]):=by
 unfold zdr at h
 refine zao func62 rfl ntmps62 (by simp) rfl (res1 rfl) λ E hE=>zca (sr (qa (.exact (.slice none 0 0)) rfl (gc (zav (sr (qm (.row 1 zaa a0) rfl (gq (op_eqnil_row (by kernel_rfl) rfl (gc ?_)))))))))
 obtain⟨h1,h⟩:=nilc_some h
 refine k_cond_u (p:=a0=[]) rfl (λ hc=> ?_) ?_
 .replace h:=h1 hc
  refine sr (qa (.exact (.slice none 0 0)) rfl (gc (zau (zbb ?_))))
  obtain rfl:=oi h
  refine ke (pt AF0 2 (.exact (.slice none 0 0))) [vecT Tryz.prog 26 1 zaa (.slice none 0 0) []] rfl (Sub.trans (SubU.to (SubU.nilT (P:=Tryz.prog) (t:=26) (n:=1) (enc:=zaa))) (s1 rfl)) ⟨(.slice none 0 0),rfl,rfl⟩
 .refine zaq (zad (sr (G_l rfl (op_lit0I (enc:=zaa) (n:=1) (by kernel_rfl) (λ v1=>qm (.row 1 zaa a0) rfl ?_)))))
  obtain⟨n2,h⟩:=zag h
  refine G_l rfl (zdo (by kernel_rfl) rfl rfl zcp n2 (λ v3=>qa (.exact v3) rfl (gc (zau ?_))))
  obtain rfl:=oi h
  refine ke (pt AF0 2 (.exact v3)) [vecT Tryz.prog 26 1 zaa v3 (([]:List (List UInt8))++a0)] rfl (s1 rfl) ⟨v3,rfl,rfl⟩
theorem m_slices_Compact_L_api_Value_api_Value_ok {w0:Value} (a0:List (List UInt8)) (r:(List (List UInt8))) (h:zdk a0=some r):Fun Tryz.prog 194 [(.exact w0)] [vecT Tryz.prog 26 1 zaa w0 a0] (λ a s=>a= .row 1 zaa r/\s=[]):=by
 unfold zdk at h
 refine zao func194 rfl ntmps194 (by simp) rfl (res1 rfl) λ E hE=>zca (sr (qa (.exact (.slice none 0 0)) rfl (gc (zav (sr (qm (.exact w0) rfl (G_r rfl (zhf (by kernel_rfl) rfl (gq (zcd rfl rfl (gc (kd (p:=(List.length a0:Int)<2) rfl h (λ hc h=> ?_) (λ hc h=> ?_)))))))))))))
 .refine sr (qm (.exact w0) rfl (qa (.exact w0) rfl (gc (zau (zbb ?_)))))
  obtain rfl:=oi h
  refine ke (pt AF0 2 (.row 1 zaa a0)) [] rfl (Sub.trans (SubU.to (SubU.freezeT (s:=2) rfl zbj)) (s1 rfl)) ⟨rfl,rfl⟩
 .refine zaq (zad (zeh h ((pt AF0 0 (.exact w0))) ([vecT Tryz.prog 26 1 zaa w0 a0]) (λ k1 h=> ?_) (λ  h=> ?_)))
  .refine sr (qa (.xi 1) rfl (gc (zaw (zel (zch a0 k1) (zcx a0 k1) (λ _=>rfl) (λ m _=>rfl) h (λ(b:Int)=>(pt (pt AF0 0 (.exact w0)) 3 (.xi b))) (λ(b:Int)=>[vecT Tryz.prog 26 1 zaa w0 a0]) ?_ (λ n b h=> ?_)))))
   .exact s2 rfl rfl
   .unfold zcx at h
    refine zav (sr (qm (.xi b) rfl (qm (.exact w0) rfl (G_r rfl (zhf (by kernel_rfl) rfl (gq (zcd rfl rfl (gc (kd (p:=b<(List.length a0:Int)) rfl h (λ hc h=> ?_) (λ hc h=> ?_))))))))))
    .refine zaq (zad (zeh h ((pt (pt AF0 0 (.exact w0)) 3 (.xi b))) ([vecT Tryz.prog 26 1 zaa w0 a0]) (λ k628 h=> ?_) (λ  h=> ?_)))
     .refine zaw (zav (zec [] [(0,0),(0,1),(0,4),(0,5),(0,6),(1,2),(1,3),(1,7),(1,8),(0,9)] hmixP (by kernel_rfl) (pq rfl (zae (av:= .exact w0) rfl (pq rfl (zae (av:= .xi b) rfl (pq rfl (zae (av:= .exact w0) rfl (pq rfl (zae (av:= .xi b) rfl (pq rfl (zek rfl rfl rfl ?_))))))))))))
      obtain⟨n691,h⟩:=zag h
      refine P_r rfl (zdy (by kernel_rfl) rfl rfl n691.1 n691.2 (P_r rfl (zhk (i:=b) (o:=0) (a:= .xs (gi a0 b)) (by kernel_rfl) zbj rfl n691.1 n691.2 rfl ?_)))
      obtain⟨n692,h⟩:=zag h
      refine P_r rfl (zdy (by kernel_rfl) rfl rfl n692.1 n692.2 (P_r rfl (zhk (i:=i64 (b - 1)) (o:=0) (a:= .xs (gi a0 (i64 (b - 1)))) (by kernel_rfl) zbj rfl n692.1 n692.2 rfl (pq rfl (zim rfl rfl (zeg (zad (kd (p:=(gi a0 b)=(gi a0 (i64 (b - 1)))) rfl h (λ hc h=> ?_) (λ hc h=> ?_)))))))))
      .refine sr (qm (.exact w0) rfl (qm (.xi b) rfl ?_))
       obtain⟨n693,h⟩:=zag h
       refine G_r rfl (zkf (by kernel_rfl) rfl (zew rfl) zfa n693.1 n693.2.1 n693.2.2 (qa (.vsub w0 1 (Int.toNat b) (Int.toNat (List.length a0:Int) - Int.toNat b)) rfl (gc (k_join2_0 h (λ(e:List (List UInt8)) (d:Int)=>(pt (pt AF0 0 (.exact w0)) 3 (.xi d))) (λ(e:List (List UInt8)) (d:Int)=>[vecT Tryz.prog 26 1 zaa w0 e]) (λ k694 h=> ?_) (λ e d h=> ?_)))))
       .refine sr (qa (.xi 1) rfl (gc (zaw (k_loop3_0 (zcj a0 b k694) (zcz a0 b k694) (λ _ _ _=>rfl) (λ m _ _ _=>rfl) h (λ(f:List (List UInt8)) (g:Int) (c:Int)=>(pt (pt (pt (pt AF0 0 (.exact w0)) 3 (.xi g)) 4 (.vsub w0 1 (Int.toNat b) (Int.toNat (List.length a0:Int) - Int.toNat b))) 5 (.xi c))) (λ(f:List (List UInt8)) (g:Int) (c:Int)=>[vecT Tryz.prog 26 1 zaa w0 f]) ?_ (λ q f g c h=> ?_)))))
        .exact s4 rfl rfl rfl rfl
        .unfold zcz at h
         refine zav (sr (qm (.xi c) rfl (qm (.vsub w0 1 (Int.toNat b) (Int.toNat (List.length a0:Int) - Int.toNat b)) rfl (gq (op_len_vsub (by kernel_rfl) rfl (gq (zcd rfl rfl (gc (kd (p:=c<((Int.toNat (List.length a0:Int) - Int.toNat b:Nat):Int)) rfl h (λ hc h=> ?_) (λ hc h=> ?_))))))))))
         .refine zaq (zad (k_join2_0 h (λ(k:List (List UInt8)) (l:Int)=>(pt (pt (pt (pt AF0 0 (.exact w0)) 3 (.xi l)) 4 (.vsub w0 1 (Int.toNat b) (Int.toNat (List.length a0:Int) - Int.toNat b))) 5 (.xi c))) (λ(k:List (List UInt8)) (l:Int)=>[vecT Tryz.prog 26 1 zaa w0 k]) (λ k741 h=> ?_) (λ k l h=> ?_)))
          .refine zaw (zav (zec [] [(0,0),(0,1),(0,4),(0,5),(0,6),(1,2),(1,3),(1,7),(1,8),(0,9)] hmixP (by kernel_rfl) (pq rfl (zae (av:= .vsub w0 1 (Int.toNat b) (Int.toNat (List.length a0:Int) - Int.toNat b)) rfl (pq rfl (zae (av:= .xi c) rfl (pq rfl (zae (av:= .vsub w0 1 (Int.toNat b) (Int.toNat (List.length a0:Int) - Int.toNat b)) rfl (pq rfl (zae (av:= .xi c) rfl (pq rfl (zek rfl rfl rfl ?_))))))))))))
           obtain⟨n746,h⟩:=zag h
           refine P_r rfl (op_index_vsub (j:=(b+c)) (by kernel_rfl) rfl rfl n746.2.1 (by have hh:=n746;try simp only[i64]at *;omega) (by have hh:=n746;try simp only[i64]at *;omega) (by have hh:=n746;try simp only[i64]at *;omega) (P_r rfl (zhk (i:=(b+c)) (o:=0) (a:= .xs (gi f (b+c))) (by kernel_rfl) zbj rfl n746.2.2.2.1 n746.2.2.2.2 rfl ?_)))
           obtain⟨n747,h⟩:=zag h
           refine P_r rfl (op_index_vsub (j:=(b+(i64 (c - 1)))) (by kernel_rfl) rfl rfl n747.2.1 (by have hh:=n747;try simp only[i64]at *;omega) (by have hh:=n747;try simp only[i64]at *;omega) (by have hh:=n747;try simp only[i64]at *;omega) (P_r rfl (zhk (i:=(b+(i64 (c - 1)))) (o:=0) (a:= .xs (gi f (b+(i64 (c - 1))))) (by kernel_rfl) zbj rfl n747.2.2.2.1 n747.2.2.2.2 rfl (pq rfl (op_neqS rfl rfl (zeg (zad (kd (p:= ¬(gi f (b+c))=(gi f (b+(i64 (c - 1))))) rfl h (λ hc h=> ?_) (λ hc h=> ?_)))))))))
           .refine sr (qm (.exact w0) rfl (qm (.xi g) rfl (qm (.vsub w0 1 (Int.toNat b) (Int.toNat (List.length a0:Int) - Int.toNat b)) rfl (qm (.xi c) rfl ?_))))
            obtain⟨n748,h⟩:=zag h
            refine G_r rfl (op_index_vsub (j:=(b+c)) (by kernel_rfl) rfl rfl n748.2.1 (by have hh:=n748;try simp only[i64]at *;omega) (by have hh:=n748;try simp only[i64]at *;omega) (by have hh:=n748;try simp only[i64]at *;omega) (G_r rfl (zhk (i:=(b+c)) (o:=0) (a:= .xs (gi f (b+c))) (by kernel_rfl) zbj rfl n748.2.2.2.1 n748.2.2.2.2 rfl ?_)))
            obtain⟨n749,h⟩:=zag h
            refine G_r rfl (zdy (by kernel_rfl) rfl rfl n749.1 n749.2 (G_l rfl (op_store_vec (i:=g) (o:=0) (z:=gi f (b+c)) (c':=[.xs (gi f (b+c))]) (by kernel_rfl) zbj rfl n749.1 n749.2 rfl CellsOf.str (lc lf ln) (OneC.str OneC.nil) (by kernel_rfl) (Nat.le_of_ble_eq_true rfl) rfl (gc (kr (qm (.xi g) rfl (gq (zcg rfl rfl rfl (qa (.xi (i64 (g+1))) rfl (zay (zax (zac ⟨_,_,h,s4 rfl rfl rfl rfl⟩))))))))))))
           .refine zaq (zax (zac ⟨_,_,h,s4 rfl rfl rfl rfl⟩))
          .refine kr (qm (.xi c) rfl (gq (zcg rfl rfl rfl (qa (.xi (i64 (c+1))) rfl (zay (zac ⟨_,_,_,h,s4 rfl rfl rfl rfl⟩))))))
         .refine zcr (zbs (zby (zbt (zac ⟨_,_,h,s2 rfl rfl⟩))))
       .refine sr (qm (.exact w0) rfl (qm (.xi d) rfl ?_))
        obtain⟨n750,h⟩:=zag h
        refine G_r rfl (zkf (by kernel_rfl) rfl (zew rfl) zfa n750.1 n750.2.1 n750.2.2 (G_l rfl (op_clear (zr:=[]) (by kernel_rfl) zbj zcp rfl (by have:=n750;omega) zeroValue22 (λ _ _=>(Fit.ex Fit.nil0)) (gd (qm (.exact w0) rfl (qm (.xi d) rfl (G_sub rfl (SubU.freezeT3 (s1:=0) (s2:=54) (s3:=57) rfl rfl rfl zbj) ?_)))))))
        obtain⟨n751,h⟩:=zag h
        refine gq (op_slice_rowt (by kernel_rfl) rfl zfa (zew rfl) (Int.le_refl 0) n751.1 n751.2 (qa (.row 1 zaa (List.take (Int.toNat d) (List.take (Int.toNat d) e++List.replicate (Int.toNat (List.length e:Int) - Int.toNat d) ([]:List UInt8)++List.drop (Int.toNat d+(Int.toNat (List.length e:Int) - Int.toNat d)) e))) rfl (gc (zau (zbf (zbu (zbu (zbf (zbu ?_)))))))))
        obtain rfl:=oi h
        refine ke (pt AF0 2 (.row 1 zaa (List.take (Int.toNat d) (List.take (Int.toNat d) e++List.replicate (Int.toNat (List.length e:Int) - Int.toNat d) ([]:List UInt8)++List.drop (Int.toNat d+(Int.toNat (List.length e:Int) - Int.toNat d)) e)))) [] rfl (s1 rfl) ⟨rfl,rfl⟩
      .refine zaq (zax (zac ⟨h,s2 rfl rfl⟩))
     .refine kr (qm (.xi b) rfl (gq (zcg rfl rfl rfl (qa (.xi (i64 (b+1))) rfl (zay (zac ⟨_,h,s2 rfl rfl⟩))))))
    .refine zcr (zbs (zby (zbt (zac ⟨h,s1 rfl⟩))))
  .refine sr (qm (.exact w0) rfl (qa (.exact w0) rfl (gc (zau ?_))))
   obtain rfl:=oi h
   refine ke (pt AF0 2 (.row 1 zaa a0)) [] rfl (Sub.trans (SubU.to (SubU.freezeT (s:=2) rfl zbj)) (s1 rfl)) ⟨rfl,rfl⟩
theorem m_value_Sort_ok (a0:List (List UInt8)) (r:(List (List UInt8))) (h:m_value_Sort a0=some r):Pure Tryz.prog 164 [(.row 1 zaa a0)] (.row 1 zaa r):=by
 unfold m_value_Sort at h
 refine Pure.ofFun (zao func164 rfl ntmps164 (by simp) rfl (res1 rfl) λ E hE=>zca (sr (qa (.exact (.slice none 0 0)) rfl (gd (qm (.row 1 zaa a0) rfl ?_)))))
 obtain⟨y1,a,h⟩:=zab h
 refine G_l rfl (op_fun_0_1_1 (m_slices_Clone_L_api_Value_api_Value_ok _ _ a) func62 (by kernel_rfl) (lc lf ln) (λ v2=>qa (.exact v2) rfl (gd (qm (.exact v2) rfl ?_))))
 obtain⟨y3,b,h⟩:=zab h
 refine G_l rfl (zaz (m_sort_api_Value_ok m_value_Compare_ok _ _ b) func193 (by kernel_rfl) (lc lf (lc lf ln)) (gd (qm (.exact v2) rfl ?_)))
 obtain⟨y4,c,h⟩:=zab h
 refine G_l rfl (op_fun_1_0_0 (m_slices_Compact_L_api_Value_api_Value_ok _ _ c) func194 (by kernel_rfl) (lc lf ln) ?_)
 obtain⟨y5,d,h⟩:=zab h
 refine gq (zah (ziw _ _ d) func109 (by kernel_rfl) (lc lf ln) (qa (.row 1 zaa y5) rfl (gc (zau ?_))))
 obtain rfl:=oi h
 refine ke (pt AF0 2 (.row 1 zaa y5)) [] rfl (s1 rfl) ⟨rfl,rfl⟩
theorem m_value_Set_ok (a0:List (List UInt8)) (r:(List UInt8)) (h:m_value_Set a0=some r):Pure Tryz.prog 122 [(.row 1 zaa a0)] (.exact (.string (bs r))):=by
 unfold m_value_Set at h
 refine Pure.ofFun (zao func122 rfl ntmps122 (by simp) rfl (res1 rfl) λ E hE=>zca (sr (qa (.xs ([]:List UInt8)) rfl (gd (qm (.row 1 zaa a0) rfl ?_)))))
 obtain⟨y1,a,h⟩:=zab h
 refine gq (zah (m_value_Sort_ok _ _ a) func164 (by kernel_rfl) (lc lf ln) ?_)
 obtain⟨y2,b,h⟩:=zab h
 refine gq (zah (m_value_compound_ok _ _ _ b) func123 (by kernel_rfl) (lc lf (lc lf ln)) (qa (.xs y2) rfl (gc (zau ?_))))
 obtain rfl:=oi h
 refine ke (pt AF0 2 (.xs y2)) [] rfl (s1 rfl) ⟨rfl,rfl⟩
theorem m_procterm_set_ok (a0:List Int) (r:(List UInt8)) (h:zke a0=some r):Pure Tryz.prog 82 [(.row 1 zbd a0)] (.exact (.string (bs r))):=by
 unfold zke at h
 refine Pure.ofFun (zao func82 rfl ntmps82 (by simp) rfl (res1 rfl) λ E hE=>zca (sr (qa (.xs ([]:List UInt8)) rfl (gd (qa (.exact (.slice none 0 0)) rfl (gc (zdv h (λ(c:List (List UInt8)) (v3_j1:Value)=>(pt AF0 3 (.exact v3_j1))) (λ(c:List (List UInt8)) (v3_j1:Value)=>[vecT Tryz.prog 26 1 zaa v3_j1 c]) (λ k1 h=> ?_) (λ c v3_j1 h=> ?_))))))))
 .refine sr (qm (.row 1 zbd a0) rfl (gq (zas (by kernel_rfl) rfl (qm (.xi 0) rfl (gc (zaw (zem (zki a0 k1) (m_procterm_set_B2 a0 k1) (λ _ _=>rfl) (λ m _ _=>rfl) h (λ(d:List (List UInt8)) (b:Int) (v3_l2:Value)=>(pt (pt (pt (pt AF0 3 (.exact v3_l2)) 6 (.row 1 zbd a0)) 7 (.xi (List.length a0:Int))) 8 (.xi b))) (λ(d:List (List UInt8)) (b:Int) (v3_l2:Value)=>[vecT Tryz.prog 26 1 zaa v3_l2 d]) (.slice none 0 0) ?_ (λ g d b v3_l2 h=> ?_))))))))
  .refine Sub.trans (SubU.to (SubU.nilT (P:=Tryz.prog) (t:=26) (n:=1) (enc:=zaa))) (s4 rfl rfl rfl rfl)
  .unfold m_procterm_set_B2 at h
   refine sr (gq (zcd rfl rfl (gc (zav (kd (p:=b<(List.length a0:Int)) rfl h (λ hc h=> ?_) (λ hc h=> ?_))))))
   .refine zaq (zad (zav (zaw (sr ?_))))
    obtain⟨n23,h⟩:=zag h
    refine gq (zam (by kernel_rfl) rfl rfl n23.1 n23.2 (gq (zar (a:= .xi (gi a0 b)) (by kernel_rfl) rfl rfl (qa (.xi (gi a0 b)) rfl (gc (kr (qm (.exact v3_l2) rfl (qm (.xi (gi a0 b)) rfl ?_))))))))
    obtain⟨y24,e,h⟩:=zab h
    refine gq (zah (zmk _ _ e) func80 (by kernel_rfl) (lc lf ln) (gq (zbv (n:=1) (enc:=zaa) [y24] (CellsAll.cons rfl CellsOf.str CellsAll.nil) rfl (by kernel_rfl) (LEss.cons (lc lf ln) LEss.nil) ?_)))
    obtain⟨n25,h⟩:=zag h
    refine G_l rfl (zdo (by kernel_rfl) rfl rfl zcp n25 (λ v26=>qa (.exact v26) rfl (zay (zax (zad (kr (gq (zcg rfl rfl rfl (qm (.xi (i64 (b+1))) rfl (zay (zac ⟨_,_,v26,h,s4 rfl rfl rfl rfl⟩)))))))))))
   .refine zcr (zbs (zby (zbt (zac ⟨_,v3_l2,h,s1 rfl⟩))))
 .refine sr (qm (.exact v3_j1) rfl (G_sub rfl (SubU.freezeT2 (s1:=3) (s2:=18) rfl rfl zbj) ?_))
  obtain⟨y27,f,h⟩:=zab h
  refine gq (zah (m_value_Set_ok _ _ f) func122 (by kernel_rfl) (lc lf ln) (qa (.xs y27) rfl (gc (zau ?_))))
  obtain rfl:=oi h
  refine ke (pt AF0 2 (.xs y27)) [] rfl (s1 rfl) ⟨rfl,rfl⟩
theorem m_procterm_Hide_ok (a0:List UInt8) (a1:List Int) (r:(List UInt8)) (h:zkl a0 a1=some r):Pure Tryz.prog 37 [(.exact (.string (bs a0))),(.row 1 zbd a1)] (.exact (.string (bs r))):=by
 unfold zkl at h
 refine Pure.ofFun (zao func37 rfl ntmps37 (by simp) rfl (res1 rfl) λ E hE=>zca (sr (qa (.xs ([]:List UInt8)) rfl (gd (qm (.xs a0) rfl (qm (.row 1 zbd a1) rfl ?_))))))
 obtain⟨y1,a,h⟩:=zab h
 refine gq (zah (m_procterm_set_ok _ _ a) func82 (by kernel_rfl) (lc lf ln) (gq (zbv (n:=1) (enc:=zaa) [a0,y1] (CellsAll.cons rfl CellsOf.str (CellsAll.cons rfl CellsOf.str CellsAll.nil)) rfl (by kernel_rfl) (LEss.cons (lc lf ln) (LEss.cons (lc lf ln) LEss.nil)) ?_)))
 obtain⟨y2,b,h⟩:=zab h
 refine gq (zah (zcu _ _ _ b) func38 (by kernel_rfl) (lc lf (lc lf ln)) (qa (.xs y2) rfl (gc (zau ?_))))
 obtain rfl:=oi h
 refine ke (pt AF0 4 (.xs y2)) [] rfl (s1 rfl) ⟨rfl,rfl⟩
theorem m_law16_awake_ok  (r:Bool) (h:m_law16_awake=some r):Pure Tryz.prog 9 [] (.exact (.bool r)):=by
 unfold m_law16_awake at h
 refine Pure.ofFun (zao func9 rfl ntmps9 (by simp) rfl (res1 rfl) λ E hE=>zca (sr (qa (.xb false) rfl (gd ?_))))
 obtain⟨y1,d,h⟩:=zab h
 refine gq (zah (m_procterm_Stop_ok _ d) func10 (by kernel_rfl) ln (gq (op_bld (c':=zan (3,y1)) (CellsAll.cons rfl CellsOf.int (CellsAll.cons rfl CellsOf.str CellsAll.nil)) rfl (lc lf (lc lf ln)) ?_)))
 obtain⟨y2,e,h⟩:=zab h
 refine gq (zah (m_procterm_Skip_ok _ e) func12 (by kernel_rfl) ln (gq (op_bld (c':=zan (2,y2)) (CellsAll.cons rfl CellsOf.int (CellsAll.cons rfl CellsOf.str CellsAll.nil)) rfl (lc lf (lc lf ln)) (gq (zbv (n:=2) (enc:=zan) [(3,y1),(2,y2)] (CellsAll.cons rfl CellsOf.agg (CellsAll.cons rfl CellsOf.agg CellsAll.nil)) rfl (by kernel_rfl) (LEss.cons (lc lf (lc lf ln)) (LEss.cons (lc lf (lc lf ln)) LEss.nil)) ?_)))))
 obtain⟨y3,f,h⟩:=zab h
 refine gq (zah (m_procterm_Prefix_ok _ _ f) func33 (by kernel_rfl) (lc lf ln) (qa (.xs y3) rfl (gd (qm (.xs y3) rfl ?_))))
 obtain⟨y4,g,h⟩:=zab h
 refine gq (zah (m_procterm_Offers_ok _ _ g) func34 (by kernel_rfl) (lc lf ln) (qa (.row 2 zan y4) rfl (gc (zba h (λ(b:Bool)=>(pt AF0 0 (.xb b))) (λ(b:Bool)=>[]) (λ k5 h=> ?_) (λ b h=> ?_)))))
 .refine zec [] [(0,0),(0,1),(0,2),(0,3),(0,4),(0,5),(0,6),(0,7),(0,8),(0,9),(0,10),(0,11),(0,12),(0,13),(0,14),(0,15),(0,16),(0,17),(0,18),(0,19),(0,20),(0,21),(0,22),(0,23),(0,24),(0,25),(0,26),(0,27),(0,28),(0,29),(0,30),(0,31),(0,32),(0,33)] hmixP (by kernel_rfl) (pq rfl (zae (av:= .xs y3) rfl ?_))
  obtain⟨y13,i,h⟩:=zab h
  refine pq rfl (zah (m_procterm_Valid_ok _ _ i) func35 (by kernel_rfl) (lc lf ln) (pq rfl (zae (av:= .xb y13) rfl (P_splitB (c:=y13) 13 rfl (λ hc=> ?_) (λ hc=> ?_)))))
  .replace h:=zcs h hc
   refine py rfl (zae (av:= .xs y3) rfl ?_)
   obtain⟨y14,j,h⟩:=zab h
   refine py rfl (zah (m_procterm_Op_ok _ _ j) func36 (by kernel_rfl) (lc lf ln) (py rfl (zbi rfl rfl (pq rfl (zap rfl (av:= .xb (decide (y14=6))) rfl (pq rfl (zae (av:= .xb (decide (y14=6))) rfl (P_split (p:=y14=6) 18 rfl (λ hc=> ?_) (λ hc=> ?_)))))))))
   .replace h:=zcs h hc
    refine py rfl (zae (av:= .row 2 zan y4) rfl (py rfl (zas (by kernel_rfl) rfl (py rfl (zbi rfl rfl (pq rfl (zap rfl (av:= .xb (decide ((List.length y4:Int)=2))) rfl (pq rfl (zae (av:= .xb (decide ((List.length y4:Int)=2))) rfl (P_split (p:=(List.length y4:Int)=2) 23 rfl (λ hc=> ?_) (λ hc=> ?_)))))))))))
    .replace h:=zcs h hc
     refine py rfl (zae (av:= .row 2 zan y4) rfl ?_)
     obtain⟨n15,h⟩:=zag h
     refine py rfl (zam (by kernel_rfl) rfl rfl n15.1 n15.2 (py rfl (zat (o:=0) (c':=(List.drop 0 (zan (gi y4 0)))) (by kernel_rfl) rfl rfl (py rfl (zar (a:= .xi ((gi y4 0).1)) (by kernel_rfl) rfl rfl (py rfl (zbi rfl rfl (pq rfl (zap rfl (av:= .xb (decide (((gi y4 0).1)=2))) rfl (pq rfl (zae (av:= .xb (decide (((gi y4 0).1)=2))) rfl (P_split (p:=((gi y4 0).1)=2) 30 rfl (λ hc=> ?_) (λ hc=> ?_)))))))))))))
     .replace h:=zcs h hc
      refine py rfl (zae (av:= .row 2 zan y4) rfl ?_)
      obtain⟨n16,h⟩:=zag h
      refine py rfl (zam (by kernel_rfl) rfl rfl n16.1 n16.2 (py rfl (zat (o:=1) (c':=(List.drop 1 (zan (gi y4 0)))) (by kernel_rfl) rfl rfl (py rfl (zar (a:= .xs ((gi y4 0).2)) (by kernel_rfl) rfl rfl ?_)))))
      obtain⟨y17,k,h⟩:=zab h
      refine py rfl (zah (zbp _ _ _ k) func11 (by kernel_rfl) (lc lf (lc (zed (by decide)) ln)) (py rfl (zim rfl rfl (pq rfl (zap rfl (av:= .xb (decide (((gi y4 0).2)=y17))) rfl (pq rfl (zae (av:= .xb (decide (((gi y4 0).2)=y17))) rfl (P_split (p:=((gi y4 0).2)=y17) 38 rfl (λ hc=> ?_) (λ hc=> ?_)))))))))
      .replace h:=zcs h hc
       obtain⟨y18,l,h⟩:=zab h
       refine py rfl (zah (m_procterm_Stop_ok _ l) func10 (by kernel_rfl) ln (py rfl (zbv (n:=1) (enc:=zbd) [0] (CellsAll.cons rfl CellsOf.int CellsAll.nil) rfl (by kernel_rfl) (LEss.cons (lc lf ln) LEss.nil) ?_)))
       obtain⟨y19,m,h⟩:=zab h
       refine py rfl (zah (m_procterm_Hide_ok _ _ _ m) func37 (by kernel_rfl) (lc lf (lc lf ln)) (py rfl (zim rfl rfl (pq rfl (zap rfl (av:= .xb (decide (y19=([]:List UInt8)))) rfl (pq rfl (zbc (av:= .xb (decide (y19=([]:List UInt8)))) rfl (zeg (zac ⟨_,h,s1 rfl⟩)))))))))
      .replace h:=zct h hc
       refine pn rfl (pn rfl (pn rfl (pn rfl (pq rfl (zal rfl (av:= .xb false) rfl (pq rfl (zbc (av:= .xb false) rfl (zeg (zac ⟨_,h,s1 rfl⟩)))))))))
     .replace h:=zct h hc
      refine pn rfl (pn rfl (pn rfl (pn rfl (pn rfl (pn rfl (pq rfl (zal rfl (av:= .xb false) rfl (pq rfl (zae (av:= .xb false) rfl (pn rfl (pn rfl (pn rfl (pn rfl (pq rfl (zal rfl (av:= .xb false) rfl (pq rfl (zbc (av:= .xb false) rfl (zeg (zac ⟨_,h,s1 rfl⟩)))))))))))))))))))
    .replace h:=zct h hc
     refine pn rfl (pn rfl (pn rfl (pn rfl (pn rfl (pq rfl (zal rfl (av:= .xb false) rfl (pq rfl (zae (av:= .xb false) rfl (pn rfl (pn rfl (pn rfl (pn rfl (pn rfl (pn rfl (pq rfl (zal rfl (av:= .xb false) rfl (pq rfl (zae (av:= .xb false) rfl (pn rfl (pn rfl (pn rfl (pn rfl (pq rfl (zal rfl (av:= .xb false) rfl (pq rfl (zbc (av:= .xb false) rfl (zeg (zac ⟨_,h,s1 rfl⟩))))))))))))))))))))))))))))
   .replace h:=zct h hc
    refine pn rfl (pn rfl (pn rfl (pq rfl (zal rfl (av:= .xb false) rfl (pq rfl (zae (av:= .xb false) rfl (pn rfl (pn rfl (pn rfl (pn rfl (pn rfl (pq rfl (zal rfl (av:= .xb false) rfl (pq rfl (zae (av:= .xb false) rfl (pn rfl (pn rfl (pn rfl (pn rfl (pn rfl (pn rfl (pq rfl (zal rfl (av:= .xb false) rfl (pq rfl (zae (av:= .xb false) rfl (pn rfl (pn rfl (pn rfl (pn rfl (pq rfl (zal rfl (av:= .xb false) rfl ?_)))))))))))))))))))))))))))))))
    refine pq rfl (zbc (av:= .xb false) rfl (zeg (zac ⟨_,h,s1 rfl⟩)))
  .replace h:=zct h hc
   refine pn rfl (pn rfl (pn rfl (pq rfl (zal rfl (av:= .xb false) rfl (pq rfl (zae (av:= .xb false) rfl (pn rfl (pn rfl (pn rfl (pq rfl (zal rfl (av:= .xb false) rfl (pq rfl (zae (av:= .xb false) rfl (pn rfl (pn rfl (pn rfl (pn rfl (pn rfl (pq rfl (zal rfl (av:= .xb false) rfl (pq rfl (zae (av:= .xb false) rfl (pn rfl (pn rfl (pn rfl (pn rfl (pn rfl (pn rfl (pq rfl (zal rfl (av:= .xb false) rfl (pq rfl (zae (av:= .xb false) rfl ?_))))))))))))))))))))))))))))))))
   refine pn rfl (pn rfl (pn rfl (pn rfl (pq rfl (zal rfl (av:= .xb false) rfl (pq rfl (zbc (av:= .xb false) rfl (zeg (zac ⟨_,h,s1 rfl⟩)))))))))
 .refine zau ?_
  obtain rfl:=oi h
  refine ke (pt AF0 0 (.xb b)) [] rfl (s1 rfl) ⟨rfl,rfl⟩
theorem m_procterm_Div_ok  (r:(List UInt8)) (h:m_procterm_Div=some r):Pure Tryz.prog 13 [] (.exact (.string (bs r))):=by
 unfold m_procterm_Div at h
 refine Pure.ofFun (zao func13 rfl ntmps13 (by simp) rfl (res1 rfl) λ E hE=>zca (sr (qa (.xs ([]:List UInt8)) rfl (gd ?_))))
 obtain⟨y1,a,h⟩:=zab h
 refine gq (zah (zcu _ _ _ a) func38 (by kernel_rfl) (lc lf (lc (zed (by decide)) ln)) (qa (.xs y1) rfl (gc (zau ?_))))
 obtain rfl:=oi h
 refine ke (pt AF0 0 (.xs y1)) [] rfl (s1 rfl) ⟨rfl,rfl⟩
theorem m_procterm_Omega_ok  (r:(List UInt8)) (h:zle=some r):Pure Tryz.prog 14 [] (.exact (.string (bs r))):=by
 unfold zle at h
 refine Pure.ofFun (zao func14 rfl ntmps14 (by simp) rfl (res1 rfl) λ E hE=>zca (sr (qa (.xs ([]:List UInt8)) rfl (gd ?_))))
 obtain⟨y1,a,h⟩:=zab h
 refine gq (zah (zcu _ _ _ a) func38 (by kernel_rfl) (lc lf (lc (zed (by decide)) ln)) (qa (.xs y1) rfl (gc (zau ?_))))
 obtain rfl:=oi h
 refine ke (pt AF0 0 (.xs y1)) [] rfl (s1 rfl) ⟨rfl,rfl⟩
theorem m_ref16_Omega_ok  (r:(List UInt8)) (h:m_ref16_Omega=some r):Pure Tryz.prog 15 [] (.exact (.string (bs r))):=by
 unfold m_ref16_Omega at h
 refine Pure.ofFun (zao func15 rfl ntmps15 (by simp) rfl (res1 rfl) λ E hE=>zca (sr (qa (.xs ([]:List UInt8)) rfl (gd ?_))))
 obtain⟨y1,a,h⟩:=zab h
 refine gq (zah (zbp _ _ _ a) func11 (by kernel_rfl) (lc lf (lc (zed (by decide)) ln)) (qa (.xs y1) rfl (gc (zau ?_))))
 obtain rfl:=oi h
 refine ke (pt AF0 0 (.xs y1)) [] rfl (s1 rfl) ⟨rfl,rfl⟩
end
noncomputable section
open Go.RowKit
attribute [local irreducible] AV.exact AV.top AV.row AV.ptr AV.agg AV.tup AV.eptr AV.fn AV.nilq AV.nilqn opA opB opM opR Quiet Loud Reads wpG awp den Sub SubU Pure Fun vecI vecT boxI CellsAll CellsOf OneC LEs LEss
set_option maxRecDepth 100000
set_option maxHeartbeats 4000000
theorem m_procterm_Call_ok (a0:Int) (a1:List (List UInt8)) (r:(List UInt8)) (h:m_procterm_Call a0 a1=some r):Pure Tryz.prog 42 [(.exact (.int .i64 a0)),(.row 1 zaa a1)] (.exact (.string (bs r))):=by
 unfold m_procterm_Call at h
 refine Pure.ofFun (zao func42 rfl ntmps42 (by simp) rfl (res1 rfl) λ E hE=>zca (sr (qa (.xs ([]:List UInt8)) rfl (gd (qm (.xi a0) rfl ?_)))))
 obtain⟨y1,a,h⟩:=zab h
 refine gq (zah (zmk _ _ a) func80 (by kernel_rfl) (lc lf ln) (G_l rfl (op_litI (n:=1) (enc:=zaa) [y1] (by kernel_rfl) (CellsAll.cons rfl CellsOf.str CellsAll.nil) rfl (by kernel_rfl) (LEss.cons (lc lf ln) LEss.nil) (λ v2=>qm (.row 1 zaa a1) rfl ?_))))
 obtain⟨n3,h⟩:=zag h
 refine G_l rfl (zdo (by kernel_rfl) rfl rfl zcp n3 (λ v4=>G_sub rfl (SubU.freezeT (s:=9) rfl zbj) ?_))
 obtain⟨y5,b,h⟩:=zab h
 refine gq (zah (zcu _ _ _ b) func38 (by kernel_rfl) (lc lf (lc lf ln)) (qa (.xs y5) rfl (gc (zau ?_))))
 obtain rfl:=oi h
 refine ke (pt AF0 4 (.xs y5)) [] rfl (s1 rfl) ⟨rfl,rfl⟩
theorem m_procterm_Binary_ok (a0:Int) (a1:List UInt8) (a2:List UInt8) (r:(List UInt8)) (h:m_procterm_Binary a0 a1 a2=some r):Pure Tryz.prog 43 [(.exact (.int .i64 a0)),(.exact (.string (bs a1))),(.exact (.string (bs a2)))] (.exact (.string (bs r))):=by
 unfold m_procterm_Binary at h
 refine Pure.ofFun (zao func43 rfl ntmps43 (by simp) rfl (res1 rfl) λ E hE=>zca (sr (qa (.xs ([]:List UInt8)) rfl (gc (zav (sr (qm (.xi a0) rfl ?_)))))))
 obtain⟨y1,a,h⟩:=zab h
 refine gq (zah (m_procterm_form_ok _ _ a) func63 (by kernel_rfl) (lc lf ln) (gq (op_neqS rfl rfl (gc (kd (p:= ¬y1=[112,112]) rfl h (λ hc h=> ?_) (λ hc h=> ?_))))))
 .refine sr (qa (.xs ([]:List UInt8)) rfl (gc (zau (zbb ?_))))
  obtain rfl:=oi h
  refine ke (pt AF0 6 (.xs ([]:List UInt8))) [] rfl (s1 rfl) ⟨rfl,rfl⟩
 .refine zaq (zad (sr (qm (.xi a0) rfl (qm (.xs a1) rfl (qm (.xs a2) rfl (gq (zbv (n:=1) (enc:=zaa) [a1,a2] (CellsAll.cons rfl CellsOf.str (CellsAll.cons rfl CellsOf.str CellsAll.nil)) rfl (by kernel_rfl) (LEss.cons (lc lf ln) (LEss.cons (lc lf ln) LEss.nil)) ?_)))))))
  obtain⟨y2,b,h⟩:=zab h
  refine gq (zah (zcu _ _ _ b) func38 (by kernel_rfl) (lc lf (lc lf ln)) (qa (.xs y2) rfl (gc (zau ?_))))
  obtain rfl:=oi h
  refine ke (pt AF0 6 (.xs y2)) [] rfl (s1 rfl) ⟨rfl,rfl⟩
theorem m_procterm_Guarded_ok (a0:Int) (a1:List UInt8) (a2:List Int) (a3:List UInt8) (r:(List UInt8)) (h:zmb a0 a1 a2 a3=some r):Pure Tryz.prog 44 [(.exact (.int .i64 a0)),(.exact (.string (bs a1))),(.row 1 zbd a2),(.exact (.string (bs a3)))] (.exact (.string (bs r))):=by
 unfold zmb at h
 refine Pure.ofFun (zao func44 rfl ntmps44 (by simp) rfl (res1 rfl) λ E hE=>zca (sr (qa (.xs ([]:List UInt8)) rfl (gc (zav (sr (qm (.xi a0) rfl ?_)))))))
 obtain⟨y1,a,h⟩:=zab h
 refine gq (zah (m_procterm_form_ok _ _ a) func63 (by kernel_rfl) (lc lf ln) (gq (op_neqS rfl rfl (gc (kd (p:= ¬y1=[112,115,112]) rfl h (λ hc h=> ?_) (λ hc h=> ?_))))))
 .refine sr (qa (.xs ([]:List UInt8)) rfl (gc (zau (zbb ?_))))
  obtain rfl:=oi h
  refine ke (pt AF0 8 (.xs ([]:List UInt8))) [] rfl (s1 rfl) ⟨rfl,rfl⟩
 .refine zaq (zad (sr (qm (.xi a0) rfl (qm (.xs a1) rfl (qm (.row 1 zbd a2) rfl ?_)))))
  obtain⟨y2,b,h⟩:=zab h
  refine gq (zah (m_procterm_set_ok _ _ b) func82 (by kernel_rfl) (lc lf ln) (qm (.xs a3) rfl (gq (zbv (n:=1) (enc:=zaa) [a1,y2,a3] (CellsAll.cons rfl CellsOf.str (CellsAll.cons rfl CellsOf.str (CellsAll.cons rfl CellsOf.str CellsAll.nil))) rfl (by kernel_rfl) (LEss.cons (lc lf ln) (LEss.cons (lc lf ln) (LEss.cons (lc lf ln) LEss.nil))) ?_))))
  obtain⟨y3,c,h⟩:=zab h
  refine gq (zah (zcu _ _ _ c) func38 (by kernel_rfl) (lc lf (lc lf ln)) (qa (.xs y3) rfl (gc (zau ?_))))
  obtain rfl:=oi h
  refine ke (pt AF0 8 (.xs y3)) [] rfl (s1 rfl) ⟨rfl,rfl⟩
theorem m_procterm_Alpha_ok (a0:List UInt8) (a1:List Int) (a2:List Int) (a3:List UInt8) (r:(List UInt8)) (h:m_procterm_Alpha a0 a1 a2 a3=some r):Pure Tryz.prog 45 [(.exact (.string (bs a0))),(.row 1 zbd a1),(.row 1 zbd a2),(.exact (.string (bs a3)))] (.exact (.string (bs r))):=by
 unfold m_procterm_Alpha at h
 refine Pure.ofFun (zao func45 rfl ntmps45 (by simp) rfl (res1 rfl) λ E hE=>zca (sr (qa (.xs ([]:List UInt8)) rfl (gd (qm (.xs a0) rfl (qm (.row 1 zbd a1) rfl ?_))))))
 obtain⟨y1,a,h⟩:=zab h
 refine gq (zah (m_procterm_set_ok _ _ a) func82 (by kernel_rfl) (lc lf ln) (qm (.row 1 zbd a2) rfl ?_))
 obtain⟨y2,b,h⟩:=zab h
 refine gq (zah (m_procterm_set_ok _ _ b) func82 (by kernel_rfl) (lc lf ln) (qm (.xs a3) rfl (gq (zbv (n:=1) (enc:=zaa) [a0,y1,y2,a3] (CellsAll.cons rfl CellsOf.str (CellsAll.cons rfl CellsOf.str (CellsAll.cons rfl CellsOf.str (CellsAll.cons rfl CellsOf.str CellsAll.nil)))) rfl (by kernel_rfl) (LEss.cons (lc lf ln) (LEss.cons (lc lf ln) (LEss.cons (lc lf ln) (LEss.cons (lc lf ln) LEss.nil)))) ?_))))
 obtain⟨y3,c,h⟩:=zab h
 refine gq (zah (zcu _ _ _ c) func38 (by kernel_rfl) (lc lf (lc lf ln)) (qa (.xs y3) rfl (gc (zau ?_))))
 obtain rfl:=oi h
 refine ke (pt AF0 8 (.xs y3)) [] rfl (s1 rfl) ⟨rfl,rfl⟩
theorem m_value_Tuple_ok (a0:List (List UInt8)) (r:(List UInt8)) (h:m_value_Tuple a0=some r):Pure Tryz.prog 130 [(.row 1 zaa a0)] (.exact (.string (bs r))):=by
 unfold m_value_Tuple at h
 refine Pure.ofFun (zao func130 rfl ntmps130 (by simp) rfl (res1 rfl) λ E hE=>zca (sr (qa (.xs ([]:List UInt8)) rfl (gd (qm (.row 1 zaa a0) rfl ?_)))))
 obtain⟨y1,a,h⟩:=zab h
 refine gq (zah (m_value_compound_ok _ _ _ a) func123 (by kernel_rfl) (lc lf (lc lf ln)) (qa (.xs y1) rfl (gc (zau ?_))))
 obtain rfl:=oi h
 refine ke (pt AF0 2 (.xs y1)) [] rfl (s1 rfl) ⟨rfl,rfl⟩
theorem m_procterm_tuples_ok (a0:List (Int×Int)) (r:(List UInt8)) (h:zgf a0=some r):Pure Tryz.prog 88 [(.row 2 zai a0)] (.exact (.string (bs r))):=by
 unfold zgf at h
 refine Pure.ofFun (zao func88 rfl ntmps88 (by simp) rfl (res1 rfl) λ E hE=>zca (sr (qa (.xs ([]:List UInt8)) rfl (gd (qa (.exact (.slice none 0 0)) rfl (gc (zdv h (λ(d:List (List UInt8)) (v3_j1:Value)=>(pt AF0 3 (.exact v3_j1))) (λ(d:List (List UInt8)) (v3_j1:Value)=>[vecT Tryz.prog 26 1 zaa v3_j1 d]) (λ k1 h=> ?_) (λ d v3_j1 h=> ?_))))))))
 .refine sr (qm (.row 2 zai a0) rfl (gq (zas (by kernel_rfl) rfl (qm (.xi 0) rfl (gc (zaw (zem (zhd a0 k1) (zjk a0 k1) (λ _ _=>rfl) (λ m _ _=>rfl) h (λ(e:List (List UInt8)) (b:Int) (v3_l2:Value)=>(pt (pt (pt (pt AF0 3 (.exact v3_l2)) 6 (.row 2 zai a0)) 7 (.xi (List.length a0:Int))) 8 (.xi b))) (λ(e:List (List UInt8)) (b:Int) (v3_l2:Value)=>[vecT Tryz.prog 26 1 zaa v3_l2 e]) (.slice none 0 0) ?_ (λ k e b v3_l2 h=> ?_))))))))
  .refine Sub.trans (SubU.to (SubU.nilT (P:=Tryz.prog) (t:=26) (n:=1) (enc:=zaa))) (s4 rfl rfl rfl rfl)
  .unfold zjk at h
   refine sr (gq (zcd rfl rfl (gc (zav (kd (p:=b<(List.length a0:Int)) rfl h (λ hc h=> ?_) (λ hc h=> ?_))))))
   .refine zaq (zad (zav (zaw (sr ?_))))
    obtain⟨n38,h⟩:=zag h
    refine gq (zam (by kernel_rfl) rfl rfl n38.1 n38.2 (gq (ziu (m:=2) (c':=zai (gi a0 b)) (by kernel_rfl) rfl rfl rfl (G_l rfl (op_alloc (c:=[.xi ((0,0).1), .xi ((0,0).2)]) rfl (lc lf (lc lf ln)) (λ b39=>G_l rfl (op_store_box (c':=[.xi ((gi a0 b).1), .xi ((gi a0 b).2)]) (c3:=[.xi ((gi a0 b).1), .xi ((gi a0 b).2)]) rfl rfl CellsOf.agg (lc lf (lc lf ln)) (zex _) (by kernel_rfl) (Nat.le_of_ble_eq_true rfl) rfl (gc (zec [] [(0,0),(0,1),(0,4),(1,2),(0,3),(1,5),(0,6),(0,7),(0,8),(0,9),(2,10),(0,11)] hmixP (by kernel_rfl) (pq rfl (zae (av:= .exact v3_l2) rfl (pq rfl (zdx (o:=0) (by kernel_rfl) rfl (pq rfl (zdx (o:=1) (by kernel_rfl) rfl (P_r rfl (zdz (a:= .xi ((gi a0 b).1)) (by kernel_rfl) rfl rfl ?_)))))))))))))))))
    obtain⟨y40,f,h⟩:=zab h
    refine pq rfl (zah (zmk _ _ f) func80 (by kernel_rfl) (lc lf ln) (P_r rfl (zdz (a:= .xi ((gi a0 b).2)) (by kernel_rfl) rfl rfl ?_)))
    obtain⟨y41,g,h⟩:=zab h
    refine pq rfl (zah (zmk _ _ g) func80 (by kernel_rfl) (lc lf ln) (pq rfl (zbv (n:=1) (enc:=zaa) [y40,y41] (CellsAll.cons rfl CellsOf.str (CellsAll.cons rfl CellsOf.str CellsAll.nil)) rfl (by kernel_rfl) (LEss.cons (lc lf ln) (LEss.cons (lc lf ln) LEss.nil)) ?_)))
    obtain⟨y42,i,h⟩:=zab h
    refine pq rfl (zah (m_value_Tuple_ok _ _ i) func130 (by kernel_rfl) (lc lf ln) (pq rfl (zbv (n:=1) (enc:=zaa) [y42] (CellsAll.cons rfl CellsOf.str CellsAll.nil) rfl (by kernel_rfl) (LEss.cons (lc lf ln) LEss.nil) ?_)))
    obtain⟨n43,h⟩:=zag h
    refine P_l rfl (opB_f1 (zdo (by kernel_rfl) rfl rfl zcp n43 (λ v44=>pq rfl (zbc (av:= .exact v44) rfl (zeg (zax (zad (kr (gq (zcg rfl rfl rfl (qm (.xi (i64 (b+1))) rfl (zay (zac ⟨_,_,v44,h, ?_⟩)))))))))))))
    refine Sub.trans (SubU.to SubU.f1) (Sub.trans (SubU.to SubU.drop) (s4 rfl rfl rfl rfl))
   .refine zcr (zbs (zby (zbt (zac ⟨_,v3_l2,h,s1 rfl⟩))))
 .refine sr (qm (.exact v3_j1) rfl (G_sub rfl (SubU.freezeT2 (s1:=3) (s2:=24) rfl rfl zbj) ?_))
  obtain⟨y45,j,h⟩:=zab h
  refine gq (zah (m_value_Set_ok _ _ j) func122 (by kernel_rfl) (lc lf ln) (qa (.xs y45) rfl (gc (zau ?_))))
  obtain rfl:=oi h
  refine ke (pt AF0 2 (.xs y45)) [] rfl (s1 rfl) ⟨rfl,rfl⟩
theorem m_procterm_Link_ok (a0:List UInt8) (a1:List (Int×Int)) (a2:List UInt8) (r:(List UInt8)) (h:m_procterm_Link a0 a1 a2=some r):Pure Tryz.prog 46 [(.exact (.string (bs a0))),(.row 2 zai a1),(.exact (.string (bs a2)))] (.exact (.string (bs r))):=by
 unfold m_procterm_Link at h
 refine Pure.ofFun (zao func46 rfl ntmps46 (by simp) rfl (res1 rfl) λ E hE=>zca (sr (qa (.xs ([]:List UInt8)) rfl (gd (qm (.xs a0) rfl (qm (.row 2 zai a1) rfl ?_))))))
 obtain⟨y1,a,h⟩:=zab h
 refine gq (zah (m_procterm_tuples_ok _ _ a) func88 (by kernel_rfl) (lc lf ln) (qm (.xs a2) rfl (gq (zbv (n:=1) (enc:=zaa) [a0,y1,a2] (CellsAll.cons rfl CellsOf.str (CellsAll.cons rfl CellsOf.str (CellsAll.cons rfl CellsOf.str CellsAll.nil))) rfl (by kernel_rfl) (LEss.cons (lc lf ln) (LEss.cons (lc lf ln) (LEss.cons (lc lf ln) LEss.nil))) ?_))))
 obtain⟨y2,b,h⟩:=zab h
 refine gq (zah (zcu _ _ _ b) func38 (by kernel_rfl) (lc lf (lc lf ln)) (qa (.xs y2) rfl (gc (zau ?_))))
 obtain rfl:=oi h
 refine ke (pt AF0 6 (.xs y2)) [] rfl (s1 rfl) ⟨rfl,rfl⟩
theorem m_procterm_Rename_ok (a0:List UInt8) (a1:List (Int×Int)) (r:(List UInt8)) (h:m_procterm_Rename a0 a1=some r):Pure Tryz.prog 47 [(.exact (.string (bs a0))),(.row 2 zai a1)] (.exact (.string (bs r))):=by
 unfold m_procterm_Rename at h
 refine Pure.ofFun (zao func47 rfl ntmps47 (by simp) rfl (res1 rfl) λ E hE=>zca (sr (qa (.xs ([]:List UInt8)) rfl (gd (qm (.xs a0) rfl (qm (.row 2 zai a1) rfl ?_))))))
 obtain⟨y1,a,h⟩:=zab h
 refine gq (zah (m_procterm_tuples_ok _ _ a) func88 (by kernel_rfl) (lc lf ln) (gq (zbv (n:=1) (enc:=zaa) [a0,y1] (CellsAll.cons rfl CellsOf.str (CellsAll.cons rfl CellsOf.str CellsAll.nil)) rfl (by kernel_rfl) (LEss.cons (lc lf ln) (LEss.cons (lc lf ln) LEss.nil)) ?_)))
 obtain⟨y2,b,h⟩:=zab h
 refine gq (zah (zcu _ _ _ b) func38 (by kernel_rfl) (lc lf (lc lf ln)) (qa (.xs y2) rfl (gc (zau ?_))))
 obtain rfl:=oi h
 refine ke (pt AF0 4 (.xs y2)) [] rfl (s1 rfl) ⟨rfl,rfl⟩
theorem m_procterm_Prior_ok (a0:List UInt8) (a1:List (Int×Int)) (r:(List UInt8)) (h:m_procterm_Prior a0 a1=some r):Pure Tryz.prog 48 [(.exact (.string (bs a0))),(.row 2 zaj a1)] (.exact (.string (bs r))):=by
 unfold m_procterm_Prior at h
 refine Pure.ofFun (zao func48 rfl ntmps48 (by simp) rfl (res1 rfl) λ E hE=>zca (sr (qa (.xs ([]:List UInt8)) rfl (gc (zav (sr (qm (.row 2 zaj a1) rfl ?_)))))))
 obtain⟨y1,f,h⟩:=zab h
 refine gq (zah (m_alphabet_ValidOrder_ok _ _ f) func89 (by kernel_rfl) (lc lf ln) (gq (zfo rfl (gc (kb (p:= !y1) rfl h (λ hc h=> ?_) (λ hc h=> ?_))))))
 .refine sr (qa (.xs ([]:List UInt8)) rfl (gc (zau (zbb ?_))))
  obtain rfl:=oi h
  refine ke (pt AF0 4 (.xs ([]:List UInt8))) [] rfl (s1 rfl) ⟨rfl,rfl⟩
 .refine zaq (zad (sr (qa (.exact (.slice none 0 0)) rfl (gc (zdv h (λ(d:List (Int×Int)) (v5_j2:Value)=>(pt (pt AF0 0 (.xs a0)) 5 (.exact v5_j2))) (λ(d:List (Int×Int)) (v5_j2:Value)=>[vecT Tryz.prog 24 2 zai v5_j2 d]) (λ k2 h=> ?_) (λ d v5_j2 h=> ?_))))))
  .refine sr (qm (.row 2 zaj a1) rfl (gq (zas (by kernel_rfl) rfl (qm (.xi 0) rfl (gc (zaw (zem (zia a1 k2) (zkm a1 k2) (λ _ _=>rfl) (λ m _ _=>rfl) h (λ(e:List (Int×Int)) (b:Int) (v5_l2:Value)=>(pt (pt (pt (pt (pt AF0 0 (.xs a0)) 5 (.exact v5_l2)) 11 (.row 2 zaj a1)) 12 (.xi (List.length a1:Int))) 13 (.xi b))) (λ(e:List (Int×Int)) (b:Int) (v5_l2:Value)=>[vecT Tryz.prog 24 2 zai v5_l2 e]) (.slice none 0 0) ?_ (λ j e b v5_l2 h=> ?_))))))))
   .refine Sub.trans (SubU.to (SubU.nilT (P:=Tryz.prog) (t:=24) (n:=2) (enc:=zai))) (so (l4 rfl rfl rfl rfl (lq rfl lt0)))
   .unfold zkm at h
    refine sr (gq (zcd rfl rfl (gc (zav (kd (p:=b<(List.length a1:Int)) rfl h (λ hc h=> ?_) (λ hc h=> ?_))))))
    .refine zaq (zad (zav (zaw (sr ?_))))
     obtain⟨n24,h⟩:=zag h
     refine gq (zam (by kernel_rfl) rfl rfl n24.1 n24.2 (gq (ziu (m:=2) (c':=zaj (gi a1 b)) (by kernel_rfl) rfl rfl rfl (G_l rfl (op_alloc (c:=[.xi ((0,0).1), .xi ((0,0).2)]) rfl (lc lf (lc lf ln)) (λ b25=>G_l rfl (op_store_box (c':=[.xi ((gi a1 b).1), .xi ((gi a1 b).2)]) (c3:=[.xi ((gi a1 b).1), .xi ((gi a1 b).2)]) rfl rfl CellsOf.agg (lc lf (lc lf ln)) (zkc _) (by kernel_rfl) (Nat.le_of_ble_eq_true rfl) rfl (gc (kr (qm (.exact v5_l2) rfl (gq (zdx (o:=0) (by kernel_rfl) rfl (G_r rfl (zdz (a:= .xi ((gi a1 b).1)) (by kernel_rfl) rfl rfl (gq (zdx (o:=1) (by kernel_rfl) rfl (G_r rfl (zdz (a:= .xi ((gi a1 b).2)) (by kernel_rfl) rfl rfl (gq (op_bld (c':=zai ((gi a1 b).1,(gi a1 b).2)) (CellsAll.cons rfl CellsOf.int (CellsAll.cons rfl CellsOf.int CellsAll.nil)) rfl (lc lf (lc lf ln)) (gq (zbv (n:=2) (enc:=zai) [((gi a1 b).1,(gi a1 b).2)] (CellsAll.cons rfl CellsOf.agg CellsAll.nil) rfl (by kernel_rfl) (LEss.cons (lc lf (lc lf ln)) LEss.nil) ?_))))))))))))))))))))))
     obtain⟨n26,h⟩:=zag h
     refine G_l rfl (opB_f1 (zdo (by kernel_rfl) rfl rfl zex n26 (λ v27=>qa (.exact v27) rfl (zay (zax (zad (kr (gq (zcg rfl rfl rfl (qm (.xi (i64 (b+1))) rfl (zay (zac ⟨_,_,v27,h, ?_⟩))))))))))))
     refine Sub.trans (SubU.to SubU.f1) (Sub.trans (SubU.to SubU.drop) (so (l4 rfl rfl rfl rfl (lq rfl lt0))))
    .refine zcr (zbs (zby (zbt (zac ⟨_,v5_l2,h,s2 rfl rfl⟩))))
  .refine sr (qm (.xs a0) rfl (qm (.exact v5_j2) rfl (G_sub rfl (SubU.freezeT2 (s1:=5) (s2:=27) rfl rfl zbw) ?_)))
   obtain⟨y28,g,h⟩:=zab h
   refine gq (zah (m_procterm_tuples_ok _ _ g) func88 (by kernel_rfl) (lc lf ln) (gq (zbv (n:=1) (enc:=zaa) [a0,y28] (CellsAll.cons rfl CellsOf.str (CellsAll.cons rfl CellsOf.str CellsAll.nil)) rfl (by kernel_rfl) (LEss.cons (lc lf ln) (LEss.cons (lc lf ln) LEss.nil)) ?_)))
   obtain⟨y29,i,h⟩:=zab h
   refine gq (zah (zcu _ _ _ i) func38 (by kernel_rfl) (lc lf (lc lf ln)) (qa (.xs y29) rfl (gc (zau ?_))))
   obtain rfl:=oi h
   refine ke (pt AF0 4 (.xs y29)) [] rfl (s1 rfl) ⟨rfl,rfl⟩
theorem m_procterm_Chase_ok (a0:List UInt8) (r:(List UInt8)) (h:m_procterm_Chase a0=some r):Pure Tryz.prog 49 [(.exact (.string (bs a0)))] (.exact (.string (bs r))):=by
 unfold m_procterm_Chase at h
 refine Pure.ofFun (zao func49 rfl ntmps49 (by simp) rfl (res1 rfl) λ E hE=>zca (sr (qa (.xs ([]:List UInt8)) rfl (gd (qm (.xs a0) rfl (gq (zbv (n:=1) (enc:=zaa) [a0] (CellsAll.cons rfl CellsOf.str CellsAll.nil) rfl (by kernel_rfl) (LEss.cons (lc lf ln) LEss.nil) ?_)))))))
 obtain⟨y1,a,h⟩:=zab h
 refine gq (zah (zcu _ _ _ a) func38 (by kernel_rfl) (lc lf (lc lf ln)) (qa (.xs y1) rfl (gc (zau ?_))))
 obtain rfl:=oi h
 refine ke (pt AF0 2 (.xs y1)) [] rfl (s1 rfl) ⟨rfl,rfl⟩
theorem m_procterm_Hole_ok (a0:Int) (r:(List UInt8)) (h:m_procterm_Hole a0=some r):Pure Tryz.prog 50 [(.exact (.int .i64 a0))] (.exact (.string (bs r))):=by
 unfold m_procterm_Hole at h
 refine Pure.ofFun (zao func50 rfl ntmps50 (by simp) rfl (res1 rfl) λ E hE=>zca (sr (qa (.xs ([]:List UInt8)) rfl (gd (qm (.xi a0) rfl ?_)))))
 obtain⟨y1,a,h⟩:=zab h
 refine gq (zah (zmk _ _ a) func80 (by kernel_rfl) (lc lf ln) (gq (zbv (n:=1) (enc:=zaa) [y1] (CellsAll.cons rfl CellsOf.str CellsAll.nil) rfl (by kernel_rfl) (LEss.cons (lc lf ln) LEss.nil) ?_)))
 obtain⟨y2,b,h⟩:=zab h
 refine gq (zah (zcu _ _ _ b) func38 (by kernel_rfl) (lc lf (lc lf ln)) (qa (.xs y2) rfl (gc (zau ?_))))
 obtain rfl:=oi h
 refine ke (pt AF0 2 (.xs y2)) [] rfl (s1 rfl) ⟨rfl,rfl⟩
theorem m_law16_made_ok (a0:List UInt8) (a1:List UInt8) (a2:List Int) (a3:List Int) (a4:List (Int×Int)) (a5:List (Int×Int)) (a6:Int) (a7:Int) (a8:List (List UInt8)) (a9:List (Int×(List UInt8))) (r:Bool) (h:m_law16_made a0 a1 a2 a3 a4 a5 a6 a7 a8 a9=some r):Pure Tryz.prog 16 [(.exact (.string (bs a0))),(.exact (.string (bs a1))),(.row 1 zbd a2),(.row 1 zbd a3),(.row 2 zai a4),(.row 2 zaj a5),(.exact (.int .i64 a6)),(.exact (.int .i64 a7)),(.row 1 zaa a8),(.row 2 zan a9)] (.exact (.bool r)):=by
 unfold m_law16_made at h
 refine Pure.ofFun (zao func16 rfl ntmps16 (by simp) rfl (res1 rfl) λ E hE=>zca (sr (qa (.xb false) rfl (gd (qm (.xs a0) rfl (qm (.row 1 zbd a2) rfl ?_))))))
 obtain⟨y1,g,h⟩:=zab h
 refine gq (zah (zgb _ _ g) func30 (by kernel_rfl) (lc lf ln) (qm (.row 1 zbd a3) rfl ?_))
 obtain⟨y2,i,h⟩:=zab h
 refine gq (zah (zgb _ _ i) func30 (by kernel_rfl) (lc lf ln) (qm (.xs a1) rfl (gq (zbv (n:=1) (enc:=zaa) [a0,y1,y2,a1] (CellsAll.cons rfl CellsOf.str (CellsAll.cons rfl CellsOf.str (CellsAll.cons rfl CellsOf.str (CellsAll.cons rfl CellsOf.str CellsAll.nil)))) rfl (by kernel_rfl) (LEss.cons (lc lf ln) (LEss.cons (lc lf ln) (LEss.cons (lc lf ln) (LEss.cons (lc lf ln) LEss.nil)))) ?_))))
 obtain⟨y3,j,h⟩:=zab h
 refine gq (zah (zbp _ _ _ j) func11 (by kernel_rfl) (lc lf (lc lf ln)) (qa (.xs y3) rfl (gd (qm (.xs a0) rfl (qm (.row 2 zai a4) rfl ?_)))))
 obtain⟨y4,k,h⟩:=zab h
 refine gq (zah (zgg _ _ k) func31 (by kernel_rfl) (lc lf ln) (qm (.xs a1) rfl (gq (zbv (n:=1) (enc:=zaa) [a0,y4,a1] (CellsAll.cons rfl CellsOf.str (CellsAll.cons rfl CellsOf.str (CellsAll.cons rfl CellsOf.str CellsAll.nil))) rfl (by kernel_rfl) (LEss.cons (lc lf ln) (LEss.cons (lc lf ln) (LEss.cons (lc lf ln) LEss.nil))) ?_))))
 obtain⟨y5,l,h⟩:=zab h
 refine gq (zah (zbp _ _ _ l) func11 (by kernel_rfl) (lc lf (lc lf ln)) (qa (.xs y5) rfl (gd (qa (.exact (.slice none 0 0)) rfl (gc (zdv h (λ(e:List (Int×Int)) (v23_j6:Value)=>(pt (pt (pt (pt (pt (pt (pt (pt (pt (pt (pt (pt (pt AF0 0 (.xs a0)) 1 (.xs a1)) 2 (.row 1 zbd a2)) 3 (.row 1 zbd a3)) 4 (.row 2 zai a4)) 5 (.row 2 zaj a5)) 6 (.xi a6)) 7 (.xi a7)) 8 (.row 1 zaa a8)) 9 (.row 2 zan a9)) 21 (.xs y3)) 22 (.xs y5)) 23 (.exact v23_j6))) (λ(e:List (Int×Int)) (v23_j6:Value)=>[vecT Tryz.prog 24 2 zai v23_j6 e]) (λ k6 h=> ?_) (λ e v23_j6 h=> ?_)))))))
 .refine sr (qa (.xi 0) rfl (gc (zaw (zem (m_law16_made_L2 a5 k6) (m_law16_made_B2 a5 k6) (λ _ _=>rfl) (λ m _ _=>rfl) h (λ(f:List (Int×Int)) (b:Int) (v23_l2:Value)=>(pt (pt (pt (pt (pt (pt (pt (pt (pt (pt (pt (pt (pt (pt AF0 0 (.xs a0)) 1 (.xs a1)) 2 (.row 1 zbd a2)) 3 (.row 1 zbd a3)) 4 (.row 2 zai a4)) 5 (.row 2 zaj a5)) 6 (.xi a6)) 7 (.xi a7)) 8 (.row 1 zaa a8)) 9 (.row 2 zan a9)) 21 (.xs y3)) 22 (.xs y5)) 23 (.exact v23_l2)) 24 (.xi b))) (λ(f:List (Int×Int)) (b:Int) (v23_l2:Value)=>[vecT Tryz.prog 24 2 zai v23_l2 f]) (.slice none 0 0) ?_ (λ T f b v23_l2 h=> ?_)))))
  .refine Sub.trans (SubU.to (SubU.nilT (P:=Tryz.prog) (t:=24) (n:=2) (enc:=zai))) (so (l4 rfl rfl rfl rfl (l4 rfl rfl rfl rfl (l4 rfl rfl rfl rfl (lq rfl (lq rfl lt0))))))
  .unfold m_law16_made_B2 at h
   refine zav (sr (qm (.xi b) rfl (qm (.row 2 zaj a5) rfl (gq (zas (by kernel_rfl) rfl (gq (zcd rfl rfl (gc (kd (p:=b<(List.length a5:Int)) rfl h (λ hc h=> ?_) (λ hc h=> ?_))))))))))
   .refine zaq (zad (zav (zaw (zec [] [(0,0),(0,1),(0,2),(0,3),(0,4),(0,5),(0,6),(0,7),(0,8),(0,9),(0,10),(0,11),(0,12),(2,13),(0,14)] hmixP (by kernel_rfl) (pq rfl (zae (av:= .exact v23_l2) rfl (pq rfl (zae (av:= .row 2 zaj a5) rfl (pq rfl (zae (av:= .xi b) rfl ?_))))))))))
    obtain⟨n28,h⟩:=zag h
    refine pq rfl (zam (by kernel_rfl) rfl rfl n28.1 n28.2 (pq rfl (zat (o:=0) (c':=(List.drop 0 (zaj (gi a5 b)))) (by kernel_rfl) rfl rfl (pq rfl (zar (a:= .xi ((gi a5 b).1)) (by kernel_rfl) rfl rfl (pq rfl (zae (av:= .row 2 zaj a5) rfl (pq rfl (zae (av:= .xi b) rfl ?_)))))))))
    obtain⟨n29,h⟩:=zag h
    refine pq rfl (zam (by kernel_rfl) rfl rfl n29.1 n29.2 (pq rfl (zat (o:=1) (c':=(List.drop 1 (zaj (gi a5 b)))) (by kernel_rfl) rfl rfl (pq rfl (zar (a:= .xi ((gi a5 b).2)) (by kernel_rfl) rfl rfl (pq rfl (op_bld (c':=zai ((gi a5 b).1,(gi a5 b).2)) (CellsAll.cons rfl CellsOf.int (CellsAll.cons rfl CellsOf.int CellsAll.nil)) rfl (lc lf (lc lf ln)) (pq rfl (zbv (n:=2) (enc:=zai) [((gi a5 b).1,(gi a5 b).2)] (CellsAll.cons rfl CellsOf.agg CellsAll.nil) rfl (by kernel_rfl) (LEss.cons (lc lf (lc lf ln)) LEss.nil) ?_)))))))))
    obtain⟨n30,h⟩:=zag h
    refine P_l rfl (zdo (by kernel_rfl) rfl rfl zex n30 (λ v31=>pq rfl (zbc (av:= .exact v31) rfl (zeg (zax (zad (kr (qm (.xi b) rfl (gq (zcg rfl rfl rfl (qa (.xi (i64 (b+1))) rfl (zay (zac ⟨_,_,v31,h,so (l4 rfl rfl rfl rfl (l4 rfl rfl rfl rfl (l4 rfl rfl rfl rfl (lq rfl (lq rfl lt0)))))⟩)))))))))))))
   .refine zcr (zbs (zby (zbt (zac ⟨_,v23_l2,h,so (l4 rfl rfl rfl rfl (l4 rfl rfl rfl rfl (l4 rfl rfl rfl rfl (lq rfl lt0))))⟩))))
 .refine sr (qm (.xs a0) rfl (qm (.exact v23_j6) rfl (G_sub rfl (SubU.freezeT2 (s1:=23) (s2:=62) rfl rfl zbw) ?_)))
  obtain⟨y32,q,h⟩:=zab h
  refine gq (zah (zgg _ _ q) func31 (by kernel_rfl) (lc lf ln) (gq (zbv (n:=1) (enc:=zaa) [a0,y32] (CellsAll.cons rfl CellsOf.str (CellsAll.cons rfl CellsOf.str CellsAll.nil)) rfl (by kernel_rfl) (LEss.cons (lc lf ln) (LEss.cons (lc lf ln) LEss.nil)) ?_)))
  obtain⟨y33,s,h⟩:=zab h
  refine gq (zah (zbp _ _ _ s) func11 (by kernel_rfl) (lc lf (lc lf ln)) (qa (.xs y33) rfl (gc (zba h (λ(c:List UInt8)=>(pt (pt (pt (pt (pt (pt (pt (pt (pt (pt (pt (pt (pt AF0 0 (.xs a0)) 1 (.xs a1)) 2 (.row 1 zbd a2)) 3 (.row 1 zbd a3)) 4 (.row 2 zai a4)) 5 (.row 2 zaj a5)) 6 (.xi a6)) 7 (.xi a7)) 8 (.row 1 zaa a8)) 9 (.row 2 zan a9)) 21 (.xs y3)) 22 (.xs y5)) 25 (.xs c))) (λ(c:List UInt8)=>[]) (λ k34 h=> ?_) (λ c h=> ?_)))))
  .refine sr (qm (.row 2 zaj a5) rfl ?_)
   obtain⟨y36,u,h⟩:=zab h
   refine gq (zah (m_ref16_ValidOrder_ok _ _ u) func41 (by kernel_rfl) (lc lf ln) (gq (zfo rfl (gc (kb (p:= !y36) rfl h (λ hc h=> ?_) (λ hc h=> ?_))))))
   .refine kr (qa (.xs ([]:List UInt8)) rfl (zay (zac ⟨_,h,so (l4 rfl rfl rfl rfl (l4 rfl rfl rfl rfl (l4 rfl rfl rfl rfl (lq rfl lt0))))⟩)))
   .refine zaq (zac ⟨_,h,so (l4 rfl rfl rfl rfl (l4 rfl rfl rfl rfl (l4 rfl rfl rfl rfl (lq rfl lt0))))⟩)
  .refine sr (qm (.xi a7) rfl ?_)
   obtain⟨y37,v,h⟩:=zab h
   refine gq (zah (zlz _ _ v) func22 (by kernel_rfl) (lc lf ln) (gq (zbv (n:=1) (enc:=zaa) [y37] (CellsAll.cons rfl CellsOf.str CellsAll.nil) rfl (by kernel_rfl) (LEss.cons (lc lf ln) LEss.nil) ?_)))
   obtain⟨y38,w,h⟩:=zab h
   refine gq (zah (zbp _ _ _ w) func11 (by kernel_rfl) (lc lf (lc lf ln)) (qa (.xs y38) rfl (gc (zba h (λ(d:Bool)=>(pt AF0 20 (.xb d))) (λ(d:Bool)=>[]) (λ k39 h=> ?_) (λ d h=> ?_)))))
   .refine kr (qm (.xi a7) rfl (qm (.row 1 zaa a8) rfl ?_))
    obtain⟨y60,x,h⟩:=zab h
    refine gq (zah (m_procterm_Call_ok _ _ _ x) func42 (by kernel_rfl) (lc lf (lc lf ln)) (qm (.xi a7) rfl (qm (.row 1 zaa a8) rfl ?_)))
    obtain⟨y61,y,h⟩:=zab h
    refine gq (zah (m_ref16_Call_ok _ _ _ y) func26 (by kernel_rfl) (lc lf (lc lf ln)) (gq (zim rfl rfl (qm (.xb (decide (y60=y61))) rfl (zbz (p:=y60=y61) 80 rfl (λ hc=> ?_) (λ hc=> ?_))))))
    .replace h:=zcs h hc
     refine gy (zae (av:= .row 2 zan a9) rfl ?_)
     obtain⟨y62,z,h⟩:=zab h
     refine gy (zah (m_procterm_Prefix_ok _ _ z) func33 (by kernel_rfl) (lc lf ln) (gy (zae (av:= .row 2 zan a9) rfl ?_)))
     obtain⟨y63,A,h⟩:=zab h
     refine gy (zah (m_ref16_Prefix_ok _ _ A) func27 (by kernel_rfl) (lc lf ln) (gy (zim rfl rfl (gq (zap rfl (av:= .xb (decide (y62=y63))) rfl (qm (.xb (decide (y62=y63))) rfl (zbz (p:=y62=y63) 87 rfl (λ hc=> ?_) (λ hc=> ?_))))))))
     .replace h:=zcs h hc
      refine gy (zae (av:= .xi a6) rfl (gy (zae (av:= .xs a0) rfl (gy (zae (av:= .xs a1) rfl ?_)))))
      obtain⟨y64,B,h⟩:=zab h
      refine gy (zah (m_procterm_Binary_ok _ _ _ _ B) func43 (by kernel_rfl) (lc lf (lc lf (lc lf ln))) (gy (zae (av:= .xi a6) rfl (gy (zae (av:= .xs a0) rfl (gy (zae (av:= .xs a1) rfl ?_)))))))
      obtain⟨y65,C,h⟩:=zab h
      refine gy (zah (m_ref16_Binary_ok _ _ _ _ C) func28 (by kernel_rfl) (lc lf (lc lf (lc lf ln))) (gy (zim rfl rfl (gq (zap rfl (av:= .xb (decide (y64=y65))) rfl (qm (.xb (decide (y64=y65))) rfl (zbz (p:=y64=y65) 98 rfl (λ hc=> ?_) (λ hc=> ?_))))))))
      .replace h:=zcs h hc
       refine gy (zae (av:= .xi a6) rfl (gy (zae (av:= .xs a0) rfl (gy (zae (av:= .row 1 zbd a2) rfl (gy (zae (av:= .xs a1) rfl ?_)))))))
       obtain⟨y66,D,h⟩:=zab h
       refine gy (zah (m_procterm_Guarded_ok _ _ _ _ _ D) func44 (by kernel_rfl) (lc lf (lc lf (lc lf (lc lf ln)))) (gy (zae (av:= .xi a6) rfl (gy (zae (av:= .xs a0) rfl (gy (zae (av:= .row 1 zbd a2) rfl (gy (zae (av:= .xs a1) rfl ?_)))))))))
       obtain⟨y67,F,h⟩:=zab h
       refine gy (zah (m_ref16_Guarded_ok _ _ _ _ _ F) func29 (by kernel_rfl) (lc lf (lc lf (lc lf (lc lf ln)))) (gy (zim rfl rfl (gq (zap rfl (av:= .xb (decide (y66=y67))) rfl (qm (.xb (decide (y66=y67))) rfl (zbz (p:=y66=y67) 111 rfl (λ hc=> ?_) (λ hc=> ?_))))))))
       .replace h:=zcs h hc
        refine gy (zae (av:= .xs a0) rfl (gy (zae (av:= .row 1 zbd a2) rfl (gy (zae (av:= .row 1 zbd a3) rfl (gy (zae (av:= .xs a1) rfl ?_)))))))
        obtain⟨y68,G,h⟩:=zab h
        refine gy (zah (m_procterm_Alpha_ok _ _ _ _ _ G) func45 (by kernel_rfl) (lc lf (lc lf (lc lf (lc lf ln)))) (gy (zae (av:= .xs y3) rfl (gy (zim rfl rfl (gq (zap rfl (av:= .xb (decide (y68=y3))) rfl (qm (.xb (decide (y68=y3))) rfl (zbz (p:=y68=y3) 120 rfl (λ hc=> ?_) (λ hc=> ?_))))))))))
        .replace h:=zcs h hc
         refine gy (zae (av:= .xs a0) rfl (gy (zae (av:= .row 2 zai a4) rfl (gy (zae (av:= .xs a1) rfl ?_)))))
         obtain⟨y69,H,h⟩:=zab h
         refine gy (zah (m_procterm_Link_ok _ _ _ _ H) func46 (by kernel_rfl) (lc lf (lc lf (lc lf ln))) (gy (zae (av:= .xs y5) rfl (gy (zim rfl rfl (gq (zap rfl (av:= .xb (decide (y69=y5))) rfl (qm (.xb (decide (y69=y5))) rfl (zbz (p:=y69=y5) 128 rfl (λ hc=> ?_) (λ hc=> ?_))))))))))
         .replace h:=zcs h hc
          refine gy (zae (av:= .xs a0) rfl (gy (zae (av:= .row 1 zbd a2) rfl ?_)))
          obtain⟨y70,I,h⟩:=zab h
          refine gy (zah (m_procterm_Hide_ok _ _ _ I) func37 (by kernel_rfl) (lc lf (lc lf ln)) (gy (zae (av:= .xs a0) rfl (gy (zae (av:= .row 1 zbd a2) rfl ?_)))))
          obtain⟨y71,J,h⟩:=zab h
          refine gy (zah (zgb _ _ J) func30 (by kernel_rfl) (lc lf ln) (gy (zbv (n:=1) (enc:=zaa) [a0,y71] (CellsAll.cons rfl CellsOf.str (CellsAll.cons rfl CellsOf.str CellsAll.nil)) rfl (by kernel_rfl) (LEss.cons (lc lf ln) (LEss.cons (lc lf ln) LEss.nil)) ?_)))
          obtain⟨y72,K,h⟩:=zab h
          refine gy (zah (zbp _ _ _ K) func11 (by kernel_rfl) (lc lf (lc lf ln)) (gy (zim rfl rfl (gq (zap rfl (av:= .xb (decide (y70=y72))) rfl (qm (.xb (decide (y70=y72))) rfl (zbz (p:=y70=y72) 139 rfl (λ hc=> ?_) (λ hc=> ?_))))))))
          .replace h:=zcs h hc
           refine gy (zae (av:= .xs a0) rfl (gy (zae (av:= .row 2 zai a4) rfl ?_)))
           obtain⟨y73,L,h⟩:=zab h
           refine gy (zah (m_procterm_Rename_ok _ _ _ L) func47 (by kernel_rfl) (lc lf (lc lf ln)) (gy (zae (av:= .xs a0) rfl (gy (zae (av:= .row 2 zai a4) rfl ?_)))))
           obtain⟨y74,M,h⟩:=zab h
           refine gy (zah (zgg _ _ M) func31 (by kernel_rfl) (lc lf ln) (gy (zbv (n:=1) (enc:=zaa) [a0,y74] (CellsAll.cons rfl CellsOf.str (CellsAll.cons rfl CellsOf.str CellsAll.nil)) rfl (by kernel_rfl) (LEss.cons (lc lf ln) (LEss.cons (lc lf ln) LEss.nil)) ?_)))
           obtain⟨y75,N,h⟩:=zab h
           refine gy (zah (zbp _ _ _ N) func11 (by kernel_rfl) (lc lf (lc lf ln)) (gy (zim rfl rfl (gq (zap rfl (av:= .xb (decide (y73=y75))) rfl (qm (.xb (decide (y73=y75))) rfl (zbz (p:=y73=y75) 150 rfl (λ hc=> ?_) (λ hc=> ?_))))))))
           .replace h:=zcs h hc
            refine gy (zae (av:= .xs a0) rfl (gy (zae (av:= .row 2 zaj a5) rfl ?_)))
            obtain⟨y76,O,h⟩:=zab h
            refine gy (zah (m_procterm_Prior_ok _ _ _ O) func48 (by kernel_rfl) (lc lf (lc lf ln)) (gy (zae (av:= .xs c) rfl (gy (zim rfl rfl (gq (zap rfl (av:= .xb (decide (y76=c))) rfl (qm (.xb (decide (y76=c))) rfl (zbz (p:=y76=c) 157 rfl (λ hc=> ?_) (λ hc=> ?_))))))))))
            .replace h:=zcs h hc
             refine gy (zae (av:= .xs a0) rfl ?_)
             obtain⟨y77,Q,h⟩:=zab h
             refine gy (zah (m_procterm_Chase_ok _ _ Q) func49 (by kernel_rfl) (lc lf ln) (gy (zae (av:= .xs a0) rfl (gy (zbv (n:=1) (enc:=zaa) [a0] (CellsAll.cons rfl CellsOf.str CellsAll.nil) rfl (by kernel_rfl) (LEss.cons (lc lf ln) LEss.nil) ?_)))))
             obtain⟨y78,R,h⟩:=zab h
             refine gy (zah (zbp _ _ _ R) func11 (by kernel_rfl) (lc lf (lc lf ln)) (gy (zim rfl rfl (gq (zap rfl (av:= .xb (decide (y77=y78))) rfl (qm (.xb (decide (y77=y78))) rfl (zbz (p:=y77=y78) 165 rfl (λ hc=> ?_) (λ hc=> ?_))))))))
             .replace h:=zcs h hc
              refine gy (zae (av:= .xi a7) rfl ?_)
              obtain⟨y79,S,h⟩:=zab h
              refine gy (zah (m_procterm_Hole_ok _ _ S) func50 (by kernel_rfl) (lc lf ln) (gy (zae (av:= .xs y38) rfl (gy (zim rfl rfl (gq (zap rfl (av:= .xb (decide (y79=y38))) rfl (qa (.xb (decide (y79=y38))) rfl (zay (zac ⟨_,h,s1 rfl⟩))))))))))
             .replace h:=zct h hc
              refine gn (gn (gn (gn (gq (zal rfl (av:= .xb false) rfl (qa (.xb false) rfl (zay (zac ⟨_,h,s1 rfl⟩))))))))
            .replace h:=zct h hc
             refine gn (gn (gn (gn (gn (gn (gq (zal rfl (av:= .xb false) rfl (qm (.xb false) rfl (gn (gn (gn (gn (gq (zal rfl (av:= .xb false) rfl (qa (.xb false) rfl (zay (zac ⟨_,h,s1 rfl⟩)))))))))))))))))
           .replace h:=zct h hc
            refine gn (gn (gn (gn (gn (gq (zal rfl (av:= .xb false) rfl (qm (.xb false) rfl (gn (gn (gn (gn (gn (gn (gq (zal rfl (av:= .xb false) rfl (qm (.xb false) rfl (gn (gn (gn (gn (gq (zal rfl (av:= .xb false) rfl (qa (.xb false) rfl (zay (zac ⟨_,h,s1 rfl⟩)))))))))))))))))))))))))
          .replace h:=zct h hc
           refine gn (gn (gn (gn (gn (gn (gn (gn (gn (gq (zal rfl (av:= .xb false) rfl (qm (.xb false) rfl (gn (gn (gn (gn (gn (gq (zal rfl (av:= .xb false) rfl (qm (.xb false) rfl (gn (gn (gn (gn (gn (gn (gq (zal rfl (av:= .xb false) rfl (qm (.xb false) rfl (gn (gn (gn (gn (gq (zal rfl (av:= .xb false) rfl (qa (.xb false) rfl (zay (zac ⟨_,h,s1 rfl⟩)))))))))))))))))))))))))))))))))))))
         .replace h:=zct h hc
          refine gn (gn (gn (gn (gn (gn (gn (gn (gn (gq (zal rfl (av:= .xb false) rfl (qm (.xb false) rfl (gn (gn (gn (gn (gn (gn (gn (gn (gn (gq (zal rfl (av:= .xb false) rfl (qm (.xb false) rfl (gn (gn (gn (gn (gn (gq (zal rfl (av:= .xb false) rfl (qm (.xb false) rfl (gn (gn (gn (gn (gn (gn (gq (zal rfl (av:= .xb false) rfl (qm (.xb false) rfl (gn (gn (gn (gn (gq (zal rfl (av:= .xb false) rfl (qa (.xb false) rfl (zay (zac ⟨_,h,s1 rfl⟩)))))))))))))))))))))))))))))))))))))))))))))))))
        .replace h:=zct h hc
         refine gn (gn (gn (gn (gn (gn (gq (zal rfl (av:= .xb false) rfl (qm (.xb false) rfl (gn (gn (gn (gn (gn (gn (gn (gn (gn (gq (zal rfl (av:= .xb false) rfl (qm (.xb false) rfl (gn (gn (gn (gn (gn (gn (gn (gn (gn (gq (zal rfl (av:= .xb false) rfl (qm (.xb false) rfl (gn (gn (gn (gn (gn (gq (zal rfl (av:= .xb false) rfl (qm (.xb false) rfl (gn (gn (gn (gn (gn (gn (gq (zal rfl (av:= .xb false) rfl (qm (.xb false) rfl (gn (gn (gn (gn (gq (zal rfl (av:= .xb false) rfl (qa (.xb false) rfl (zay (zac ⟨_,h,s1 rfl⟩))))))))))))))))))))))))))))))))))))))))))))))))))))))))))
       .replace h:=zct h hc
        refine gn (gn (gn (gn (gn (gn (gn (gq (zal rfl (av:= .xb false) rfl (qm (.xb false) rfl (gn (gn (gn (gn (gn (gn (gq (zal rfl (av:= .xb false) rfl (qm (.xb false) rfl (gn (gn (gn (gn (gn (gn (gn (gn (gn (gq (zal rfl (av:= .xb false) rfl (qm (.xb false) rfl (gn (gn (gn (gn (gn (gn (gn (gn (gn (gq (zal rfl (av:= .xb false) rfl (qm (.xb false) rfl (gn (gn (gn (gn (gn (gq (zal rfl (av:= .xb false) rfl (qm (.xb false) rfl (gn (gn (gn (gn (gn (gn (gq (zal rfl (av:= .xb false) rfl (qm (.xb false) rfl (gn (gn (gn (gn (gq (zal rfl (av:= .xb false) rfl (qa (.xb false) rfl (zay (zac ⟨_,h,s1 rfl⟩))))))))))))))))))))))))))))))))))))))))))))))))))))))))))))))))))))
      .replace h:=zct h hc
       refine gn (gn (gn (gn (gn (gn (gn (gn (gn (gn (gn (gq (zal rfl (av:= .xb false) rfl (qm (.xb false) rfl (gn (gn (gn (gn (gn (gn (gn (gq (zal rfl (av:= .xb false) rfl (qm (.xb false) rfl (gn (gn (gn (gn (gn (gn (gq (zal rfl (av:= .xb false) rfl (qm (.xb false) rfl (gn (gn (gn (gn (gn (gn (gn (gn (gn (gq (zal rfl (av:= .xb false) rfl (qm (.xb false) rfl (gn (gn (gn (gn (gn (gn (gn (gn (gn (gq (zal rfl (av:= .xb false) rfl (qm (.xb false) rfl (gn (gn (gn (gn (gn (gq (zal rfl (av:= .xb false) rfl (qm (.xb false) rfl (gn (gn (gn (gn (gn (gn (gq (zal rfl (av:= .xb false) rfl (qm (.xb false) rfl (gn (gn (gn (gn (gq (zal rfl (av:= .xb false) rfl (qa (.xb false) rfl (zay ?_)))))))))))))))))))))))))))))))))))))))))))))))))))))))))))))))))))))))))))))))))
       refine zac ⟨_,h,s1 rfl⟩
     .replace h:=zct h hc
      refine gn (gn (gn (gn (gn (gn (gn (gn (gn (gq (zal rfl (av:= .xb false) rfl (qm (.xb false) rfl (gn (gn (gn (gn (gn (gn (gn (gn (gn (gn (gn (gq (zal rfl (av:= .xb false) rfl (qm (.xb false) rfl (gn (gn (gn (gn (gn (gn (gn (gq (zal rfl (av:= .xb false) rfl (qm (.xb false) rfl (gn (gn (gn (gn (gn (gn (gq (zal rfl (av:= .xb false) rfl (qm (.xb false) rfl (gn (gn (gn (gn (gn (gn (gn (gn (gn (gq (zal rfl (av:= .xb false) rfl (qm (.xb false) rfl (gn (gn (gn (gn (gn (gn (gn (gn (gn (gq (zal rfl (av:= .xb false) rfl (qm (.xb false) rfl (gn (gn (gn (gn (gn (gq (zal rfl (av:= .xb false) rfl (qm (.xb false) rfl (gn (gn (gn (gn (gn (gn (gq (zal rfl (av:= .xb false) rfl (qm (.xb false) rfl (gn (gn (gn (gn ?_)))))))))))))))))))))))))))))))))))))))))))))))))))))))))))))))))))))))))))))))))))))))))
      refine gq (zal rfl (av:= .xb false) rfl (qa (.xb false) rfl (zay (zac ⟨_,h,s1 rfl⟩))))
    .replace h:=zct h hc
     refine gn (gn (gn (gn (gn (gq (zal rfl (av:= .xb false) rfl (qm (.xb false) rfl (gn (gn (gn (gn (gn (gn (gn (gn (gn (gq (zal rfl (av:= .xb false) rfl (qm (.xb false) rfl (gn (gn (gn (gn (gn (gn (gn (gn (gn (gn (gn (gq (zal rfl (av:= .xb false) rfl (qm (.xb false) rfl (gn (gn (gn (gn (gn (gn (gn (gq (zal rfl (av:= .xb false) rfl (qm (.xb false) rfl (gn (gn (gn (gn (gn (gn (gq (zal rfl (av:= .xb false) rfl (qm (.xb false) rfl (gn (gn (gn (gn (gn (gn (gn (gn (gn (gq (zal rfl (av:= .xb false) rfl (qm (.xb false) rfl (gn (gn (gn (gn (gn (gn (gn (gn (gn (gq (zal rfl (av:= .xb false) rfl (qm (.xb false) rfl (gn (gn (gn (gn (gn (gq (zal rfl (av:= .xb false) rfl (qm (.xb false) rfl (gn (gn (gn (gn (gn (gn ?_))))))))))))))))))))))))))))))))))))))))))))))))))))))))))))))))))))))))))))))))))))))))))
     refine gq (zal rfl (av:= .xb false) rfl (qm (.xb false) rfl (gn (gn (gn (gn (gq (zal rfl (av:= .xb false) rfl (qa (.xb false) rfl (zay (zac ⟨_,h,s1 rfl⟩)))))))))))
   .refine zau ?_
    obtain rfl:=oi h
    refine ke (pt AF0 20 (.xb d)) [] rfl (s1 rfl) ⟨rfl,rfl⟩
end
noncomputable section
open Go.RowKit
attribute [local irreducible] AV.exact AV.top AV.row AV.ptr AV.agg AV.tup AV.eptr AV.fn AV.nilq AV.nilqn opA opB opM opR Quiet Loud Reads wpG awp den Sub SubU Pure Fun vecI vecT boxI CellsAll CellsOf OneC LEs LEss
set_option maxRecDepth 100000
set_option maxHeartbeats 4000000
theorem m_ref9_Bool_ok (a0:Bool) (r:(List UInt8)) (h:m_ref9_Bool a0=some r):Pure Tryz.prog 90 [(.exact (.bool a0))] (.exact (.string (bs r))):=by
 unfold m_ref9_Bool at h
 refine Pure.ofFun (zao func90 rfl ntmps90 (by simp) rfl (res1 rfl) λ E hE=>zca (sr (qa (.xs ([]:List UInt8)) rfl (gc (zav (sr (qm (.xb a0) rfl (gc (kb (p:=a0) rfl h (λ hc h=> ?_) (λ hc h=> ?_))))))))))
 .refine sr (gq (zbv (n:=1) (enc:=zgz) [2,1] (CellsAll.cons rfl CellsOf.int (CellsAll.cons rfl CellsOf.int CellsAll.nil)) rfl (by kernel_rfl) (LEss.cons (lc lf ln) (LEss.cons (lc lf ln) LEss.nil)) (gq (op_bytesS rfl (by kernel_rfl) rfl (qa (.exact (.string (bs [2,1]))) rfl (gc (zau (zbb ?_))))))))
  obtain rfl:=oi h
  refine ke (pt AF0 2 (.exact (.string (bs [2,1])))) [] rfl (s1 rfl) ⟨rfl,rfl⟩
 .refine zaq (zad (sr (gq (zbv (n:=1) (enc:=zgz) [2,0] (CellsAll.cons rfl CellsOf.int (CellsAll.cons rfl CellsOf.int CellsAll.nil)) rfl (by kernel_rfl) (LEss.cons (lc lf ln) (LEss.cons (lc lf ln) LEss.nil)) (gq (op_bytesS rfl (by kernel_rfl) rfl (qa (.exact (.string (bs [2,0]))) rfl (gc (zau ?_)))))))))
  obtain rfl:=oi h
  refine ke (pt AF0 2 (.exact (.string (bs [2,0])))) [] rfl (s1 rfl) ⟨rfl,rfl⟩
theorem m_ref9_Name_ok (a0:Int) (r:(List UInt8)) (h:m_ref9_Name a0=some r):Pure Tryz.prog 91 [(.exact (.int .i64 a0))] (.exact (.string (bs r))):=by
 unfold m_ref9_Name at h
 refine Pure.ofFun (zao func91 rfl ntmps91 (by simp) rfl (res1 rfl) λ E hE=>zca (sr (qa (.xs ([]:List UInt8)) rfl (gc (zav (zba h (λ(a:Bool)=>(pt (pt AF0 0 (.xi a0)) 8 (.xb a))) (λ(a:Bool)=>[]) (λ k3 h=> ?_) (λ a h=> ?_)))))))
 .refine kr (qm (.xi a0) rfl (gq (zcd rfl rfl (qm (.xb (decide (a0<0))) rfl (zbz (p:=a0<0) 5 rfl (λ hc=> ?_) (λ hc=> ?_))))))
  .replace h:=zcs h hc
   refine gn (gn (gq (zap rfl (av:= .xb true) rfl (zay (zac ⟨_,h,s2 rfl rfl⟩)))))
  .replace h:=zct h hc
   refine gy (zae (av:= .xi a0) rfl (gy (ziv rfl rfl (gq (zal rfl (av:= .xb (decide (65535<a0))) rfl (zay (zac ⟨_,h,s2 rfl rfl⟩)))))))
 .refine kb (p:=a) rfl h (λ hc h=> ?_) (λ hc h=> ?_)
  .refine sr (qa (.xs ([]:List UInt8)) rfl (gc (zau (zbb ?_))))
   obtain rfl:=oi h
   refine ke (pt AF0 2 (.xs ([]:List UInt8))) [] rfl (s1 rfl) ⟨rfl,rfl⟩
  .refine zaq (zad (zav (zec [] [(0,0),(0,1),(0,2),(0,3),(0,4),(0,5)] hmixP (by kernel_rfl) (pq rfl (zbv (n:=1) (enc:=zgz) [10] (CellsAll.cons rfl CellsOf.int CellsAll.nil) rfl (by kernel_rfl) (LEss.cons (lc lf ln) LEss.nil) (pq rfl (op_bytesS rfl (by kernel_rfl) rfl (pq rfl (zae (av:= .xi a0) rfl ?_)))))))))
   obtain⟨y4,b,h⟩:=zab h
   refine pq rfl (zah (m_ref9_two_ok _ _ b) func133 (by kernel_rfl) (lc lf ln) ?_)
   obtain⟨n5,h⟩:=zag h
   refine pq rfl (op_addS n5 rfl rfl (pq rfl (zbc (av:= .xs ([10]++y4)) rfl (zeg (zad (zau ?_))))))
   obtain rfl:=oi h
   refine ke (pt AF0 2 (.xs ([10]++y4))) [] rfl (s1 rfl) ⟨rfl,rfl⟩
theorem zff {w0:Nat} (c:((List Int)×Int)->Int->Option ((List UInt8)×((List Int)×Int))) (hself_gen_Choices_Value: ∀ ⦃w0:Nat⦄ (a0:(List Int)×Int) (a1:Int) (r:(List UInt8)×((List Int)×Int)),c a0 a1=some r->Fun Tryz.prog 54 [(pA w0 0),(.exact (.int .i64 a1))] [boxI 50 w0 [.row 1 zbd a0.1, .exact (.int .i64 a0.2)]] (λ a s=>a= .exact (.string (bs r.1))/\s=[boxI 50 w0 [.row 1 zbd r.2.1, .exact (.int .i64 r.2.2)]])) (a0:(List Int)×Int) (a1:Int) (a2:Int) (r:(List (List UInt8))×((List Int)×Int)) (h:zdn c a0 a1 a2=some r):Fun Tryz.prog 20 [(pA w0 0),(.exact (.int .i64 a1)),(.exact (.int .i64 a2))] [boxI 50 w0 [.row 1 zbd a0.1, .exact (.int .i64 a0.2)]] (λ a s=>a= .row 1 zaa r.1/\s=[boxI 50 w0 [.row 1 zbd r.2.1, .exact (.int .i64 r.2.2)]]):=by
 unfold zdn at h
 refine zao func20 rfl ntmps20 (by simp) rfl (res1 rfl) λ E hE=>zca (sr (qa (.exact (.slice none 0 0)) rfl (gd (qa (.exact (.slice none 0 0)) rfl (gc (k_join3_1 h (λ(d:List Int) (e:Int) (f:List (List UInt8)) (v7_j1:Value)=>(pt (pt AF0 0 (pA w0 0)) 7 (.exact v7_j1))) (λ(d:List Int) (e:Int) (f:List (List UInt8)) (v7_j1:Value)=>[boxI 50 w0 [.row 1 zbd d, .xi e],vecT Tryz.prog 26 1 zaa v7_j1 f]) (λ k1 h=> ?_) (λ d e f v7_j1 h=> ?_)))))))
 .refine sr (qm (pA w0 0) rfl (qm (.xi a2) rfl ?_))
  obtain⟨y13,k,h⟩:=zab h
  refine G_l rfl (zaz (zbh _ _ _ k) func7 (by kernel_rfl) (lc lf (lc lf ln)) (qa (.xi y13.1) rfl (gc (zaw (k_loop4_1 (zfi c a1 k1) (zgy c a1 k1) (λ _ _ _ _=>rfl) (λ m _ _ _ _=>rfl) h (λ(g:List Int) (i:Int) (j:List (List UInt8)) (b:Int) (v7_l2:Value)=>(pt (pt (pt (pt AF0 0 (pA w0 0)) 1 (.xi a1)) 7 (.exact v7_l2)) 8 (.xi b))) (λ(g:List Int) (i:Int) (j:List (List UInt8)) (b:Int) (v7_l2:Value)=>[boxI 50 w0 [.row 1 zbd g, .xi i],vecT Tryz.prog 26 1 zaa v7_l2 j]) (.slice none 0 0) ?_ (λ o g i j b v7_l2 h=> ?_))))))
  .refine Sub.trans (SubU.to (SubU.nilT (P:=Tryz.prog) (t:=26) (n:=1) (enc:=zaa))) (Sub.trans (SubU.to SubU.f1) (s4 rfl rfl rfl rfl))
  .unfold zgy at h
   refine zav (sr (qm (.xi b) rfl (gq (ziv rfl rfl (gc (kd (p:=0<b) rfl h (λ hc h=> ?_) (λ hc h=> ?_)))))))
   .refine zaq (zad (zav (zaw (kr (qm (.exact v7_l2) rfl (qm (pA w0 0) rfl (qm (.xi a1) rfl ?_)))))))
    obtain⟨y20,l,h⟩:=zab h
    refine G_l rfl (zaz (hself_gen_Choices_Value _ _ _ l) func54 (by kernel_rfl) (lc lf (lc lf ln)) (gq (zbv (n:=1) (enc:=zaa) [y20.1] (CellsAll.cons rfl CellsOf.str CellsAll.nil) rfl (by kernel_rfl) (LEss.cons (lc lf ln) LEss.nil) ?_)))
    obtain⟨n21,h⟩:=zag h
    refine G_l rfl (opB_f1 (zdo (by kernel_rfl) rfl rfl zcp n21 (λ v22=>qa (.exact v22) rfl (zay (zax (zad (kr (qm (.xi b) rfl (gq (zek rfl rfl rfl (qa (.xi (i64 (b - 1))) rfl (zay (zac ⟨_,_,_,_,v22,h, ?_⟩)))))))))))))
    refine Sub.trans (SubU.to SubU.f1) (s4 rfl rfl rfl rfl)
   .refine zcr (zbs (zby (zbt (zac ⟨_,_,_,v7_l2,h,s2 rfl rfl⟩))))
 .refine sr (qm (.exact v7_j1) rfl (qa (.exact v7_j1) rfl (gc (zau ?_))))
  obtain rfl:=oi h
  refine ke (pt AF0 6 (.row 1 zaa f)) [boxI 50 w0 [.row 1 zbd d, .xi e]] rfl (Sub.trans (SubU.to SubU.f1) (Sub.trans (SubU.to (SubU.freezeT (s:=6) rfl zbj)) (s1 rfl))) ⟨rfl,rfl⟩
theorem m_ref9_Dot_ok (a0:Int) (a1:List (List UInt8)) (r:(List UInt8)) (h:m_ref9_Dot a0 a1=some r):Pure Tryz.prog 92 [(.exact (.int .i64 a0)),(.row 1 zaa a1)] (.exact (.string (bs r))):=by
 unfold m_ref9_Dot at h
 refine Pure.ofFun (zao func92 rfl ntmps92 (by simp) rfl (res1 rfl) λ E hE=>zca (sr (qa (.xs ([]:List UInt8)) rfl (gd (qm (.xi a0) rfl ?_)))))
 obtain⟨y1,a,h⟩:=zab h
 refine gq (zah (m_ref9_Name_ok _ _ a) func91 (by kernel_rfl) (lc lf ln) (G_l rfl (op_litI (n:=1) (enc:=zaa) [y1] (by kernel_rfl) (CellsAll.cons rfl CellsOf.str CellsAll.nil) rfl (by kernel_rfl) (LEss.cons (lc lf ln) LEss.nil) (λ v2=>qm (.row 1 zaa a1) rfl ?_))))
 obtain⟨n3,h⟩:=zag h
 refine G_l rfl (zdo (by kernel_rfl) rfl rfl zcp n3 (λ v4=>G_sub rfl (SubU.freezeT (s:=9) rfl zbj) ?_))
 obtain⟨y5,b,h⟩:=zab h
 refine gq (zah (m_ref9_Make_ok _ _ _ b) func75 (by kernel_rfl) (lc lf (lc lf ln)) (qa (.xs y5) rfl (gc (zau ?_))))
 obtain rfl:=oi h
 refine ke (pt AF0 4 (.xs y5)) [] rfl (s1 rfl) ⟨rfl,rfl⟩
theorem m_ref9_Map_ok (a0:List (List UInt8)) (a1:List (List UInt8)) (r:(List UInt8)) (h:m_ref9_Map a0 a1=some r):Pure Tryz.prog 94 [(.row 1 zaa a0),(.row 1 zaa a1)] (.exact (.string (bs r))):=by
 unfold m_ref9_Map at h
 refine Pure.ofFun (zao func94 rfl ntmps94 (by simp) rfl (res1 rfl) λ E hE=>zca (sr (qa (.xs ([]:List UInt8)) rfl (gc (zav (zba h (λ(e:Bool)=>(pt (pt (pt AF0 0 (.row 1 zaa a0)) 1 (.row 1 zaa a1)) 23 (.xb e))) (λ(e:Bool)=>[]) (λ k7 h=> ?_) (λ e h=> ?_)))))))
 .refine kr (qm (.row 1 zaa a0) rfl (gq (zas (by kernel_rfl) rfl (qm (.row 1 zaa a1) rfl (gq (zas (by kernel_rfl) rfl (gq (zll rfl rfl (qm (.xb (decide (¬(List.length a0:Int)=(List.length a1:Int)))) rfl (zbz (p:= ¬(List.length a0:Int)=(List.length a1:Int)) 14 rfl (λ hc=> ?_) (λ hc=> ?_)))))))))))
  .replace h:=zcs h hc
   refine gn (gn (gn (gq (zap rfl (av:= .xb true) rfl (qm (.xb true) rfl (gn (gn (gn (gq (zap rfl (av:= .xb true) rfl (zay (zac ⟨_,h,s3 rfl rfl rfl⟩))))))))))))
  .replace h:=zct h hc
   refine gy (zae (av:= .row 1 zaa a0) rfl ?_)
   obtain⟨y10,l,h⟩:=zab h
   refine gy (zah (m_ref9_all_ok _ _ l) func114 (by kernel_rfl) (lc lf ln) (gy (zfo rfl (gq (zal rfl (av:= .xb (!y10)) rfl (qm (.xb (!y10)) rfl (G_splitB (c:= !y10) 19 rfl (λ hc=> ?_) (λ hc=> ?_))))))))
   .replace h:=zcs h hc
    refine gn (gn (gn (gq (zap rfl (av:= .xb true) rfl (zay (zac ⟨_,h,s3 rfl rfl rfl⟩))))))
   .replace h:=zct h hc
    refine gy (zae (av:= .row 1 zaa a1) rfl ?_)
    obtain⟨y11,o,h⟩:=zab h
    refine gy (zah (m_ref9_all_ok _ _ o) func114 (by kernel_rfl) (lc lf ln) (gy (zfo rfl (gq (zal rfl (av:= .xb (!y11)) rfl (zay (zac ⟨_,h,s3 rfl rfl rfl⟩)))))))
 .refine kb (p:=e) rfl h (λ hc h=> ?_) (λ hc h=> ?_)
  .refine sr (qa (.xs ([]:List UInt8)) rfl (gc (zau (zbb ?_))))
   obtain rfl:=oi h
   refine ke (pt AF0 4 (.xs ([]:List UInt8))) [] rfl (s1 rfl) ⟨rfl,rfl⟩
  .refine zaq (zad (sr (qm (.row 1 zaa a0) rfl ?_)))
   obtain⟨y12,q,h⟩:=zab h
   refine gq (zah (m_ref9_Sort_ok _ _ q) func93 (by kernel_rfl) (lc lf ln) (qa (.row 1 zaa y12) rfl (gc (zav (sr (qm (.row 1 zaa y12) rfl (gq (zas (by kernel_rfl) rfl (qm (.row 1 zaa a0) rfl (gq (zas (by kernel_rfl) rfl (gq (zll rfl rfl (gc (kd (p:= ¬(List.length y12:Int)=(List.length a0:Int)) rfl h (λ hc h=> ?_) (λ hc h=> ?_))))))))))))))))
   .refine sr (qa (.xs ([]:List UInt8)) rfl (gc (zau (zbb ?_))))
    obtain rfl:=oi h
    refine ke (pt AF0 4 (.xs ([]:List UInt8))) [] rfl (s1 rfl) ⟨rfl,rfl⟩
   .refine zaq (zad (sr (qa (.exact (.slice none 0 0)) rfl (gc (zdv h (λ(f:List (List UInt8)) (v6_j13:Value)=>(pt AF0 6 (.exact v6_j13))) (λ(f:List (List UInt8)) (v6_j13:Value)=>[vecT Tryz.prog 26 1 zaa v6_j13 f]) (λ k13 h=> ?_) (λ f v6_j13 h=> ?_))))))
    .refine sr (qa (.xi 0) rfl (gc (zaw (zem (m_ref9_Map_L8 a0 a1 y12 k13) (m_ref9_Map_B8 a0 a1 y12 k13) (λ _ _=>rfl) (λ m _ _=>rfl) h (λ(g:List (List UInt8)) (b:Int) (v6_l8:Value)=>(pt (pt (pt (pt (pt AF0 0 (.row 1 zaa a0)) 1 (.row 1 zaa a1)) 5 (.row 1 zaa y12)) 6 (.exact v6_l8)) 7 (.xi b))) (λ(g:List (List UInt8)) (b:Int) (v6_l8:Value)=>[vecT Tryz.prog 26 1 zaa v6_l8 g]) (.slice none 0 0) ?_ (λ u g b v6_l8 h=> ?_)))))
     .refine Sub.trans (SubU.to (SubU.nilT (P:=Tryz.prog) (t:=26) (n:=1) (enc:=zaa))) (so (l4 rfl rfl rfl rfl (lq rfl lt0)))
     .unfold m_ref9_Map_B8 at h
      refine zav (sr (qm (.xi b) rfl (qm (.row 1 zaa y12) rfl (gq (zas (by kernel_rfl) rfl (gq (zcd rfl rfl (gc (kd (p:=b<(List.length y12:Int)) rfl h (λ hc h=> ?_) (λ hc h=> ?_))))))))))
      .refine zaq (zad (zdv h (λ(i:List (List UInt8)) (v6_j420:Value)=>(pt (pt (pt (pt (pt AF0 0 (.row 1 zaa a0)) 1 (.row 1 zaa a1)) 5 (.row 1 zaa y12)) 6 (.exact v6_j420)) 7 (.xi b))) (λ(i:List (List UInt8)) (v6_j420:Value)=>[vecT Tryz.prog 26 1 zaa v6_j420 i]) (λ k420 h=> ?_) (λ i v6_j420 h=> ?_)))
       .refine zaw (sr (qa (.xi 0) rfl (gc (zaw (zem (m_ref9_Map_L14 a0 a1 y12 b k420) (m_ref9_Map_B14 a0 a1 y12 b k420) (λ _ _=>rfl) (λ m _ _=>rfl) h (λ(j:List (List UInt8)) (d:Int) (v6_l14:Value)=>(pt (pt (pt (pt (pt (pt AF0 0 (.row 1 zaa a0)) 1 (.row 1 zaa a1)) 5 (.row 1 zaa y12)) 6 (.exact v6_l14)) 7 (.xi b)) 8 (.xi d))) (λ(j:List (List UInt8)) (d:Int) (v6_l14:Value)=>[vecT Tryz.prog 26 1 zaa v6_l14 j]) v6_l8 ?_ (λ v j d v6_l14 h=> ?_))))))
        .exact so (l4 rfl rfl rfl rfl (lq rfl (lq rfl lt0)))
        .unfold m_ref9_Map_B14 at h
         refine zav (sr (qm (.xi d) rfl (qm (.row 1 zaa a0) rfl (gq (zas (by kernel_rfl) rfl (gq (zcd rfl rfl (gc (kd (p:=d<(List.length a0:Int)) rfl h (λ hc h=> ?_) (λ hc h=> ?_))))))))))
         .refine zaq (zad (zdv h (λ(k:List (List UInt8)) (v6_j487:Value)=>(pt (pt (pt (pt (pt (pt AF0 0 (.row 1 zaa a0)) 1 (.row 1 zaa a1)) 5 (.row 1 zaa y12)) 6 (.exact v6_j487)) 7 (.xi b)) 8 (.xi d))) (λ(k:List (List UInt8)) (v6_j487:Value)=>[vecT Tryz.prog 26 1 zaa v6_j487 k]) (λ k487 h=> ?_) (λ k v6_j487 h=> ?_)))
          .refine zaw (zav (zec [] [(0,0),(0,1),(0,2),(0,3),(0,4),(0,5),(0,6),(0,7),(0,8)] hmixP (by kernel_rfl) (pq rfl (zae (av:= .row 1 zaa a0) rfl (pq rfl (zae (av:= .xi d) rfl ?_))))))
           obtain⟨n494,h⟩:=zag h
           refine pq rfl (zam (by kernel_rfl) rfl rfl n494.1 n494.2 (pq rfl (zar (a:= .xs (gi a0 d)) (by kernel_rfl) rfl rfl (pq rfl (zae (av:= .row 1 zaa y12) rfl (pq rfl (zae (av:= .xi b) rfl ?_)))))))
           obtain⟨n495,h⟩:=zag h
           refine pq rfl (zam (by kernel_rfl) rfl rfl n495.1 n495.2 (pq rfl (zar (a:= .xs (gi y12 b)) (by kernel_rfl) rfl rfl (pq rfl (zim rfl rfl (zeg (zad (kd (p:=(gi a0 d)=(gi y12 b)) rfl h (λ hc h=> ?_) (λ hc h=> ?_)))))))))
           .refine zec [] [(0,0),(0,1),(0,2),(0,3),(0,4),(0,5),(0,6),(0,7),(0,8),(0,9),(2,10),(0,11)] hmixP (by kernel_rfl) (pq rfl (zae (av:= .exact v6_l14) rfl (pq rfl (zae (av:= .row 1 zaa y12) rfl (pq rfl (zae (av:= .xi b) rfl ?_))))))
            obtain⟨n496,h⟩:=zag h
            refine pq rfl (zam (by kernel_rfl) rfl rfl n496.1 n496.2 (pq rfl (zar (a:= .xs (gi y12 b)) (by kernel_rfl) rfl rfl (pq rfl (zae (av:= .row 1 zaa a1) rfl (pq rfl (zae (av:= .xi d) rfl ?_)))))))
            obtain⟨n497,h⟩:=zag h
            refine pq rfl (zam (by kernel_rfl) rfl rfl n497.1 n497.2 (pq rfl (zar (a:= .xs (gi a1 d)) (by kernel_rfl) rfl rfl (pq rfl (zbv (n:=1) (enc:=zaa) [gi y12 b,gi a1 d] (CellsAll.cons rfl CellsOf.str (CellsAll.cons rfl CellsOf.str CellsAll.nil)) rfl (by kernel_rfl) (LEss.cons (lc lf ln) (LEss.cons (lc lf ln) LEss.nil)) ?_)))))
            obtain⟨n498,h⟩:=zag h
            refine P_l rfl (zdo (by kernel_rfl) rfl rfl zcp n498 (λ v499=>pq rfl (zbc (av:= .exact v499) rfl (zeg (zax (zac ⟨_,v499,h,so (l4 rfl rfl rfl rfl (lq rfl (lq rfl lt0)))⟩))))))
           .refine zaq (zax (zac ⟨_,v6_l14,h,so (l4 rfl rfl rfl rfl (lq rfl (lq rfl lt0)))⟩))
          .refine kr (qm (.xi d) rfl (gq (zcg rfl rfl rfl (qa (.xi (i64 (d+1))) rfl (zay (zac ⟨_,_,v6_j487,h,so (l4 rfl rfl rfl rfl (lq rfl (lq rfl lt0)))⟩))))))
         .refine zcr (zbs (zby (zbt (zax (zac ⟨_,v6_l14,h,so (l4 rfl rfl rfl rfl (lq rfl lt0))⟩)))))
       .refine kr (qm (.xi b) rfl (gq (zcg rfl rfl rfl (qa (.xi (i64 (b+1))) rfl (zay (zac ⟨_,_,v6_j420,h,so (l4 rfl rfl rfl rfl (lq rfl lt0))⟩))))))
      .refine zcr (zbs (zby (zbt (zac ⟨_,v6_l8,h,s1 rfl⟩))))
    .refine sr (qm (.exact v6_j13) rfl (G_sub rfl (SubU.freezeT2 (s1:=6) (s2:=63) rfl rfl zbj) ?_))
     obtain⟨y500,s,h⟩:=zab h
     refine gq (zah (m_ref9_compound_ok _ _ _ s) func115 (by kernel_rfl) (lc lf (lc lf ln)) (qa (.xs y500) rfl (gc (zau ?_))))
     obtain rfl:=oi h
     refine ke (pt AF0 4 (.xs y500)) [] rfl (s1 rfl) ⟨rfl,rfl⟩
theorem m_gen_Choices_Number_ok {w0:Nat} (a0:(List Int)×Int) (r:Int×((List Int)×Int)) (h:zhc a0=some r):Fun Tryz.prog 95 [(pA w0 0)] [boxI 50 w0 [.row 1 zbd a0.1, .exact (.int .i64 a0.2)]] (λ a s=>a= .exact (.int .i64 r.1)/\s=[boxI 50 w0 [.row 1 zbd r.2.1, .exact (.int .i64 r.2.2)]]):=by
 unfold zhc at h
 refine zao func95 rfl ntmps95 (by simp) rfl (res1 rfl) λ E hE=>zca (sr (qa (.xi 0) rfl (gc (zav (sr (qm (pA w0 0) rfl ?_))))))
 obtain⟨y1,b,h⟩:=zab h
 refine G_l rfl (zaz (zbh _ _ _ b) func7 (by kernel_rfl) (lc lf (lc lf ln)) (gc (zaw (sr (gq (zbi rfl rfl (qa (.xb (decide (y1.1=6))) rfl (gc (kd (p:=y1.1=6) rfl h (λ hc h=> ?_) (λ hc h=> ?_))))))))))
 .refine sr (qa (.xi (-1)) rfl (gc (zau (zbf (zbb ?_)))))
  obtain rfl:=oi h
  refine ke (pt AF0 2 (.xi (-1))) [boxI 50 w0 [.row 1 zbd y1.2.1, .xi y1.2.2]] rfl (s1 rfl) ⟨rfl,rfl⟩
 .refine sr (gq (zbi rfl rfl (qa (.xb (decide (y1.1=7))) rfl (gc (kd (p:=y1.1=7) rfl h (λ hc h=> ?_) (λ hc h=> ?_))))))
  .refine sr (qm (pA w0 0) rfl ?_)
   obtain⟨y2,c,h⟩:=zab h
   refine G_l rfl (zaz (zbh _ _ _ c) func7 (by kernel_rfl) (lc lf (lc lf ln)) (gq (zek rfl rfl rfl (qa (.xi (i64 (9223372036854775807 - y2.1))) rfl (gc (zau (zbf (zbb ?_))))))))
   obtain rfl:=oi h
   refine ke (pt AF0 2 (.xi (i64 (9223372036854775807 - y2.1)))) [boxI 50 w0 [.row 1 zbd y2.2.1, .xi y2.2.2]] rfl (s1 rfl) ⟨rfl,rfl⟩
  .refine sr (gq (zbi rfl rfl (qa (.xb (decide (y1.1=8))) rfl (gc (kd (p:=y1.1=8) rfl h (λ hc h=> ?_) (λ hc h=> ?_))))))
   .refine sr (qm (pA w0 0) rfl ?_)
    obtain⟨y3,d,h⟩:=zab h
    refine G_l rfl (zaz (zbh _ _ _ d) func7 (by kernel_rfl) (lc lf (lc lf ln)) (gq (zcg rfl rfl rfl (qa (.xi (i64 ((-9223372036854775808)+y3.1))) rfl (gc (zau (zbf (zbb ?_))))))))
    obtain rfl:=oi h
    refine ke (pt AF0 2 (.xi (i64 ((-9223372036854775808)+y3.1)))) [boxI 50 w0 [.row 1 zbd y3.2.1, .xi y3.2.2]] rfl (s1 rfl) ⟨rfl,rfl⟩
   .refine zaq (zax (zad (sr (qm (pA w0 0) rfl ?_))))
    obtain⟨y4,e,h⟩:=zab h
    refine G_l rfl (zaz (zbh _ _ _ e) func7 (by kernel_rfl) (lc lf (lc lf ln)) (gq (zek rfl rfl rfl (qa (.xi (i64 (y4.1 - 2))) rfl (gc (zau ?_))))))
    obtain rfl:=oi h
    refine ke (pt AF0 2 (.xi (i64 (y4.1 - 2)))) [boxI 50 w0 [.row 1 zbd y4.2.1, .xi y4.2.2]] rfl (s1 rfl) ⟨rfl,rfl⟩
theorem m_gen_Choices_Value_F_ok {w0:Nat} (c:((List Int)×Int)->Int->Option ((List UInt8)×((List Int)×Int))) (hself_gen_Choices_Value: ∀ ⦃w0:Nat⦄ (a0:(List Int)×Int) (a1:Int) (r:(List UInt8)×((List Int)×Int)),c a0 a1=some r->Fun Tryz.prog 54 [(pA w0 0),(.exact (.int .i64 a1))] [boxI 50 w0 [.row 1 zbd a0.1, .exact (.int .i64 a0.2)]] (λ a s=>a= .exact (.string (bs r.1))/\s=[boxI 50 w0 [.row 1 zbd r.2.1, .exact (.int .i64 r.2.2)]])) (a0:(List Int)×Int) (a1:Int) (r:(List UInt8)×((List Int)×Int)) (h:zgn c a0 a1=some r):Fun Tryz.prog 54 [(pA w0 0),(.exact (.int .i64 a1))] [boxI 50 w0 [.row 1 zbd a0.1, .exact (.int .i64 a0.2)]] (λ a s=>a= .exact (.string (bs r.1))/\s=[boxI 50 w0 [.row 1 zbd r.2.1, .exact (.int .i64 r.2.2)]]):=by
 unfold zgn at h
 refine zao func54 rfl ntmps54 (by simp) rfl (res1 rfl) λ E hE=>zca (sr (qa (.xs ([]:List UInt8)) rfl (gd (qm (pA w0 0) rfl ?_))))
 obtain⟨y1,l,h⟩:=zab h
 refine G_l rfl (zaz (zbh _ _ _ l) func7 (by kernel_rfl) (lc lf (lc lf ln)) (qa (.xi y1.1) rfl (gc (zba h (λ(b:Int)=>(pt (pt (pt AF0 0 (pA w0 0)) 1 (.xi a1)) 5 (.xi b))) (λ(b:Int)=>[boxI 50 w0 [.row 1 zbd y1.2.1, .xi y1.2.2]]) (λ k2 h=> ?_) (λ b h=> ?_)))))
 .refine sr (qm (.xi a1) rfl (gq (op_leq rfl rfl (gc (kd (p:=a1≤1) rfl h (λ hc h=> ?_) (λ hc h=> ?_))))))
  .refine kr (qm (.xi y1.1) rfl (gq (op_rem rfl rfl (by decide) rfl (qa (.xi (Int.tmod y1.1 3)) rfl (zay (zac ⟨_,h,s3 rfl rfl rfl⟩))))))
  .refine zaq (zac ⟨_,h,s3 rfl rfl rfl⟩)
 .refine zeh h ((pt AF0 0 (pA w0 0))) ([boxI 50 w0 [.row 1 zbd y1.2.1, .xi y1.2.2]]) (λ k3 h=> ?_) (λ  h=> ?_)
  .refine sr (qm (.xi b) rfl (gc (zaw (sr (gq (zbi rfl rfl (qa (.xb (decide (b=1))) rfl (gc (kd (p:=b=1) rfl h (λ hc h=> ?_) (λ hc h=> ?_))))))))))
   .refine sr (qm (pA w0 0) rfl ?_)
    obtain⟨y45,o,h⟩:=zab h
    refine G_l rfl (zaz (zbh _ _ _ o) func7 (by kernel_rfl) (lc lf (lc lf ln)) (gq (zbi rfl rfl ?_)))
    obtain⟨y46,q,h⟩:=zab h
    refine gq (zah (m_ref9_Bool_ok _ _ q) func90 (by kernel_rfl) (lc lf ln) (qa (.xs y46) rfl (gc (zau (zbf (zbu ?_))))))
    obtain rfl:=oi h
    refine ke (pt AF0 4 (.xs y46)) [boxI 50 w0 [.row 1 zbd y45.2.1, .xi y45.2.2]] rfl (s1 rfl) ⟨rfl,rfl⟩
   .refine sr (gq (zbi rfl rfl (qa (.xb (decide (b=2))) rfl (gc (kd (p:=b=2) rfl h (λ hc h=> ?_) (λ hc h=> ?_))))))
    .refine sr (qm (pA w0 0) rfl ?_)
     obtain⟨y47,u,h⟩:=zab h
     refine G_l rfl (zaz (zbh _ _ _ u) func7 (by kernel_rfl) (lc lf (lc lf ln)) ?_)
     obtain⟨y48,v,h⟩:=zab h
     refine gq (zah (m_ref9_Name_ok _ _ v) func91 (by kernel_rfl) (lc lf ln) (qa (.xs y48) rfl (gc (zau (zbf (zbu ?_))))))
     obtain rfl:=oi h
     refine ke (pt AF0 4 (.xs y48)) [boxI 50 w0 [.row 1 zbd y47.2.1, .xi y47.2.2]] rfl (s1 rfl) ⟨rfl,rfl⟩
    .refine sr (gq (zbi rfl rfl (qa (.xb (decide (b=3))) rfl (gc (kd (p:=b=3) rfl h (λ hc h=> ?_) (λ hc h=> ?_))))))
     .refine sr (qm (pA w0 0) rfl (qm (.xi a1) rfl (gq (zek rfl rfl rfl ?_))))
      obtain⟨y49,w,h⟩:=zab h
      refine G_l rfl (zaz (hself_gen_Choices_Value _ _ _ w) func54 (by kernel_rfl) (lc lf (lc lf ln)) (qm (pA w0 0) rfl (qm (.xi a1) rfl (gq (zek rfl rfl rfl ?_)))))
      obtain⟨y50,x,h⟩:=zab h
      refine G_l rfl (zaz (hself_gen_Choices_Value _ _ _ x) func54 (by kernel_rfl) (lc lf (lc lf ln)) (gq (zbv (n:=1) (enc:=zaa) [y49.1,y50.1] (CellsAll.cons rfl CellsOf.str (CellsAll.cons rfl CellsOf.str CellsAll.nil)) rfl (by kernel_rfl) (LEss.cons (lc lf ln) (LEss.cons (lc lf ln) LEss.nil)) ?_)))
      obtain⟨y51,y,h⟩:=zab h
      refine gq (zah (m_ref9_Make_ok _ _ _ y) func75 (by kernel_rfl) (lc lf (lc lf ln)) (qa (.xs y51) rfl (gc (zau (zbf (zbu ?_))))))
      obtain rfl:=oi h
      refine ke (pt AF0 4 (.xs y51)) [boxI 50 w0 [.row 1 zbd y50.2.1, .xi y50.2.2]] rfl (s1 rfl) ⟨rfl,rfl⟩
     .refine sr (gq (zbi rfl rfl (qa (.xb (decide (b=4))) rfl (gc (kd (p:=b=4) rfl h (λ hc h=> ?_) (λ hc h=> ?_))))))
      .refine sr (qm (pA w0 0) rfl (qm (.xi a1) rfl (gq (zek rfl rfl rfl ?_))))
       obtain⟨y52,z,h⟩:=zab h
       refine G_l rfl (zaz (zff c hself_gen_Choices_Value _ _ _ _ z) func20 (by kernel_rfl) (lc lf (lc lf (lc lf ln))) ?_)
       obtain⟨y53,A,h⟩:=zab h
       refine gq (zah (m_ref9_Make_ok _ _ _ A) func75 (by kernel_rfl) (lc lf (lc lf ln)) (qa (.xs y53) rfl (gc (zau (zbf (zbu ?_))))))
       obtain rfl:=oi h
       refine ke (pt AF0 4 (.xs y53)) [boxI 50 w0 [.row 1 zbd y52.2.1, .xi y52.2.2]] rfl (s1 rfl) ⟨rfl,rfl⟩
      .refine sr (gq (zbi rfl rfl (qa (.xb (decide (b=5))) rfl (gc (kd (p:=b=5) rfl h (λ hc h=> ?_) (λ hc h=> ?_))))))
       .refine sr (qm (pA w0 0) rfl (qm (.xi a1) rfl (gq (zek rfl rfl rfl ?_))))
        obtain⟨y54,B,h⟩:=zab h
        refine G_l rfl (zaz (zff c hself_gen_Choices_Value _ _ _ _ B) func20 (by kernel_rfl) (lc lf (lc lf (lc lf ln))) ?_)
        obtain⟨y55,C,h⟩:=zab h
        refine gq (zah (m_ref9_Set_ok _ _ C) func74 (by kernel_rfl) (lc lf ln) (qa (.xs y55) rfl (gc (zau (zbf (zbu ?_))))))
        obtain rfl:=oi h
        refine ke (pt AF0 4 (.xs y55)) [boxI 50 w0 [.row 1 zbd y54.2.1, .xi y54.2.2]] rfl (s1 rfl) ⟨rfl,rfl⟩
       .refine sr (gq (zbi rfl rfl (qa (.xb (decide (b=6))) rfl (gc (kd (p:=b=6) rfl h (λ hc h=> ?_) (λ hc h=> ?_))))))
        .refine sr (qm (pA w0 0) rfl ?_)
         obtain⟨y56,D,h⟩:=zab h
         refine G_l rfl (zaz (zbh _ _ _ D) func7 (by kernel_rfl) (lc lf (lc lf ln)) (qm (pA w0 0) rfl (qm (.xi a1) rfl (gq (zek rfl rfl rfl ?_)))))
         obtain⟨y57,F,h⟩:=zab h
         refine G_l rfl (zaz (zff c hself_gen_Choices_Value _ _ _ _ F) func20 (by kernel_rfl) (lc lf (lc lf (lc lf ln))) ?_)
         obtain⟨y58,G,h⟩:=zab h
         refine gq (zah (m_ref9_Dot_ok _ _ _ G) func92 (by kernel_rfl) (lc lf (lc lf ln)) (qa (.xs y58) rfl (gc (zau (zbf (zbu ?_))))))
         obtain rfl:=oi h
         refine ke (pt AF0 4 (.xs y58)) [boxI 50 w0 [.row 1 zbd y57.2.1, .xi y57.2.2]] rfl (s1 rfl) ⟨rfl,rfl⟩
        .refine sr (gq (zbi rfl rfl (qa (.xb (decide (b=7))) rfl (gc (kd (p:=b=7) rfl h (λ hc h=> ?_) (λ hc h=> ?_))))))
         .refine sr (qm (pA w0 0) rfl (qm (.xi a1) rfl (gq (zek rfl rfl rfl ?_))))
          obtain⟨y59,H,h⟩:=zab h
          refine G_l rfl (zaz (zff c hself_gen_Choices_Value _ _ _ _ H) func20 (by kernel_rfl) (lc lf (lc lf (lc lf ln))) ?_)
          obtain⟨y60,I,h⟩:=zab h
          refine gq (zah (m_ref9_Sort_ok _ _ I) func93 (by kernel_rfl) (lc lf ln) (qa (.row 1 zaa y60) rfl (gd (qa (.exact (.slice none 0 0)) rfl (gc (k_join3_1 h (λ(e:List Int) (f:Int) (g:List (List UInt8)) (v7_j61:Value)=>(pt (pt (pt AF0 0 (pA w0 0)) 6 (.row 1 zaa y60)) 7 (.exact v7_j61))) (λ(e:List Int) (f:Int) (g:List (List UInt8)) (v7_j61:Value)=>[boxI 50 w0 [.row 1 zbd e, .xi f],vecT Tryz.prog 26 1 zaa v7_j61 g]) (λ k61 h=> ?_) (λ e f g v7_j61 h=> ?_)))))))
          .refine sr (qa (.xi 0) rfl (gc (zaw (k_loop4_1 (zft c a1 y60 k61) (zhn c a1 y60 k61) (λ _ _ _ _=>rfl) (λ m _ _ _ _=>rfl) h (λ(i:List Int) (j:Int) (k:List (List UInt8)) (d:Int) (v7_l4:Value)=>(pt (pt (pt (pt (pt AF0 0 (pA w0 0)) 1 (.xi a1)) 6 (.row 1 zaa y60)) 7 (.exact v7_l4)) 8 (.xi d))) (λ(i:List Int) (j:Int) (k:List (List UInt8)) (d:Int) (v7_l4:Value)=>[boxI 50 w0 [.row 1 zbd i, .xi j],vecT Tryz.prog 26 1 zaa v7_l4 k]) (.slice none 0 0) ?_ (λ R i j k d v7_l4 h=> ?_)))))
           .refine Sub.trans (SubU.to (SubU.nilT (P:=Tryz.prog) (t:=26) (n:=1) (enc:=zaa))) (Sub.trans (SubU.to SubU.f1) (so (l4 rfl rfl rfl rfl (lq rfl lt0))))
           .unfold zhn at h
            refine zav (sr (qm (.xi d) rfl (qm (.row 1 zaa y60) rfl (gq (zas (by kernel_rfl) rfl (gq (zcd rfl rfl (gc (kd (p:=d<(List.length y60:Int)) rfl h (λ hc h=> ?_) (λ hc h=> ?_))))))))))
            .refine zaq (zad (zav (zaw (kr (qm (.exact v7_l4) rfl (qm (pA w0 0) rfl (qm (.xi a1) rfl (gq (zek rfl rfl rfl ?_)))))))))
             obtain⟨y78,J,h⟩:=zab h
             refine G_l rfl (zaz (hself_gen_Choices_Value _ _ _ J) func54 (by kernel_rfl) (lc lf (lc lf ln)) (gq (zbv (n:=1) (enc:=zaa) [y78.1] (CellsAll.cons rfl CellsOf.str CellsAll.nil) rfl (by kernel_rfl) (LEss.cons (lc lf ln) LEss.nil) ?_)))
             obtain⟨n79,h⟩:=zag h
             refine G_l rfl (opB_f1 (zdo (by kernel_rfl) rfl rfl zcp n79 (λ v80=>qa (.exact v80) rfl (zay (zax (zad (kr (qm (.xi d) rfl (gq (zcg rfl rfl rfl (qa (.xi (i64 (d+1))) rfl (zay (zac ⟨_,_,_,_,v80,h, ?_⟩)))))))))))))
             refine Sub.trans (SubU.to SubU.f1) (so (l4 rfl rfl rfl rfl (lq rfl lt0)))
            .refine zcr (zbs (zby (zbt (zac ⟨_,_,_,v7_l4,h,s3 rfl rfl rfl⟩))))
          .refine sr (qm (.row 1 zaa y60) rfl (qm (.exact v7_j61) rfl (G_sub rfl (SubU.trans SubU.f1 (SubU.freezeT2 (s1:=7) (s2:=83) rfl rfl zbj)) ?_)))
           obtain⟨y81,K,h⟩:=zab h
           refine gq (zah (m_ref9_Map_ok _ _ _ K) func94 (by kernel_rfl) (lc lf (lc lf ln)) (qa (.xs y81) rfl (gc (zau (zbf (zbu ?_))))))
           obtain rfl:=oi h
           refine ke (pt AF0 4 (.xs y81)) [boxI 50 w0 [.row 1 zbd e, .xi f]] rfl (s1 rfl) ⟨rfl,rfl⟩
         .refine sr (gq (zbi rfl rfl (qa (.xb (decide (b=8))) rfl (gc (kd (p:=b=8) rfl h (λ hc h=> ?_) (λ hc h=> ?_))))))
          .refine sr (qm (pA w0 0) rfl ?_)
           obtain⟨y82,L,h⟩:=zab h
           refine G_l rfl (zaz (zbh _ _ _ L) func7 (by kernel_rfl) (lc lf (lc lf ln)) (qm (pA w0 0) rfl (qm (.xi a1) rfl (gq (zek rfl rfl rfl ?_)))))
           obtain⟨y83,M,h⟩:=zab h
           refine G_l rfl (zaz (zff c hself_gen_Choices_Value _ _ _ _ M) func20 (by kernel_rfl) (lc lf (lc lf (lc lf ln))) ?_)
           obtain⟨y84,N,h⟩:=zab h
           refine gq (zah (m_ref9_Numbered_ok _ _ _ _ N) func39 (by kernel_rfl) (lc lf (lc lf (lc lf ln))) (qa (.xs y84) rfl (gc (zau (zbf (zbu ?_))))))
           obtain rfl:=oi h
           refine ke (pt AF0 4 (.xs y84)) [boxI 50 w0 [.row 1 zbd y83.2.1, .xi y83.2.2]] rfl (s1 rfl) ⟨rfl,rfl⟩
          .refine zaq (zax (zac ⟨h,s1 rfl⟩))
  .refine sr (qm (pA w0 0) rfl ?_)
   obtain⟨y85,O,h⟩:=zab h
   refine G_l rfl (zaz (m_gen_Choices_Number_ok _ _ O) func95 (by kernel_rfl) (lc lf ln) ?_)
   obtain⟨y86,Q,h⟩:=zab h
   refine gq (zah (zlz _ _ Q) func22 (by kernel_rfl) (lc lf ln) (qa (.xs y86) rfl (gc (zau ?_))))
   obtain rfl:=oi h
   refine ke (pt AF0 4 (.xs y86)) [boxI 50 w0 [.row 1 zbd y85.2.1, .xi y85.2.2]] rfl (s1 rfl) ⟨rfl,rfl⟩
theorem m_gen_Choices_Value_S_ok: ∀n:Nat,(∀ ⦃w0:Nat⦄ (a0:(List Int)×Int) (a1:Int) (r:(List UInt8)×((List Int)×Int)),zgc n a0 a1=some r->Fun Tryz.prog 54 [(pA w0 0),(.exact (.int .i64 a1))] [boxI 50 w0 [.row 1 zbd a0.1, .exact (.int .i64 a0.2)]] (λ a s=>a= .exact (.string (bs r.1))/\s=[boxI 50 w0 [.row 1 zbd r.2.1, .exact (.int .i64 r.2.2)]]))
  |0=>(λ _ _ _ _ h=>by have h':(none:Option _)=some _:=h;cases h')
  |n+1=>by
    have ih:=m_gen_Choices_Value_S_ok n
    exact λ w0 a0 a1 r h=>m_gen_Choices_Value_F_ok (zgc n) ih a0 a1 r h
theorem m_gen_Choices_Value_ok {w0:Nat} (a0:(List Int)×Int) (a1:Int) (r:(List UInt8)×((List Int)×Int)) (h:zfy a0 a1=some r):Fun Tryz.prog 54 [(pA w0 0),(.exact (.int .i64 a1))] [boxI 50 w0 [.row 1 zbd a0.1, .exact (.int .i64 a0.2)]] (λ a s=>a= .exact (.string (bs r.1))/\s=[boxI 50 w0 [.row 1 zbd r.2.1, .exact (.int .i64 r.2.2)]]):=(m_gen_Choices_Value_S_ok FU) a0 a1 r h
theorem m_gen_Choices_Value_all: ∀ ⦃w0:Nat⦄ (a0:(List Int)×Int) (a1:Int) (r:(List UInt8)×((List Int)×Int)),zfy a0 a1=some r->Fun Tryz.prog 54 [(pA w0 0),(.exact (.int .i64 a1))] [boxI 50 w0 [.row 1 zbd a0.1, .exact (.int .i64 a0.2)]] (λ a s=>a= .exact (.string (bs r.1))/\s=[boxI 50 w0 [.row 1 zbd r.2.1, .exact (.int .i64 r.2.2)]]):=λ w0 a0 a1 r h=>m_gen_Choices_Value_ok a0 a1 r h
theorem m_law16_ProctermMakes_ok (a0:List UInt8) (a1:List UInt8) (a2:List Int) (a3:List Int) (a4:List (Int×Int)) (a5:List (Int×Int)) (a6:Int) (a7:Int) (a8:List (List UInt8)) (a9:List (Int×(List UInt8))) (a10:List Int) (r:Bool) (h:zlj a0 a1 a2 a3 a4 a5 a6 a7 a8 a9 a10=some r):Pure Tryz.prog 3 [(.exact (.string (bs a0))),(.exact (.string (bs a1))),(.row 1 zbd a2),(.row 1 zbd a3),(.row 2 zai a4),(.row 2 zaj a5),(.exact (.int .i64 a6)),(.exact (.int .i64 a7)),(.row 1 zaa a8),(.row 2 zan a9),(.row 1 zbd a10)] (.exact (.bool r)):=by
 unfold zlj at h
 refine Pure.ofFun (zao func3 rfl ntmps3 (by simp) rfl (res1 rfl) λ E hE=>zca (sr (qa (.xb false) rfl (gd (qm (.row 1 zbd a10) rfl ?_)))))
 obtain⟨y1,k,h⟩:=zab h
 refine G_l rfl (op_fun_0_1_1 (m_gen_New_ok _ _ k) func5 (by kernel_rfl) (lc lf ln) (λ b2=>qa (pA b2 0) rfl (gd (qm (pA b2 0) rfl ?_))))
 obtain⟨y3,l,h⟩:=zab h
 refine G_l rfl (zaz (m_gen_Choices_Term_ok _ _ _ _ l) func6 (by kernel_rfl) (lc lf (lc lf (lc lf ln))) (qm (pA b2 0) rfl ?_))
 obtain⟨y4,o,h⟩:=zab h
 refine G_l rfl (zaz (m_gen_Choices_Term_ok _ _ _ _ o) func6 (by kernel_rfl) (lc lf (lc lf (lc lf ln))) (qa (.xs y3.1) rfl (qa (.xs y4.1) rfl (gd (qa (.exact (.slice none 0 0)) rfl (gc (k_join3_1 h (λ(d:List Int) (e:Int) (f:List (Int×(List UInt8))) (v26_j5:Value)=>(pt (pt (pt (pt (pt (pt (pt (pt (pt (pt (pt (pt (pt (pt AF0 0 (.xs a0)) 1 (.xs a1)) 2 (.row 1 zbd a2)) 3 (.row 1 zbd a3)) 4 (.row 2 zai a4)) 5 (.row 2 zaj a5)) 6 (.xi a6)) 7 (.xi a7)) 8 (.row 1 zaa a8)) 9 (.row 2 zan a9)) 23 (pA b2 0)) 24 (.xs y3.1)) 25 (.xs y4.1)) 26 (.exact v26_j5))) (λ(d:List Int) (e:Int) (f:List (Int×(List UInt8))) (v26_j5:Value)=>[boxI 50 b2 [.row 1 zbd d, .xi e],vecT Tryz.prog 27 2 zan v26_j5 f]) (λ k5 h=> ?_) (λ d e f v26_j5 h=> ?_))))))))
 .refine sr (qm (pA b2 0) rfl ?_)
  obtain⟨y20,q,h⟩:=zab h
  refine G_l rfl (zaz (zbh _ _ _ q) func7 (by kernel_rfl) (lc lf (lc lf ln)) (qa (.xi y20.1) rfl (gc (zaw (k_loop4_1 (zez k5) (zgl k5) (λ _ _ _ _=>rfl) (λ m _ _ _ _=>rfl) h (λ(g:List Int) (i:Int) (j:List (Int×(List UInt8))) (a:Int) (v26_l2:Value)=>(pt (pt (pt (pt (pt (pt (pt (pt (pt (pt (pt (pt (pt (pt (pt AF0 0 (.xs a0)) 1 (.xs a1)) 2 (.row 1 zbd a2)) 3 (.row 1 zbd a3)) 4 (.row 2 zai a4)) 5 (.row 2 zaj a5)) 6 (.xi a6)) 7 (.xi a7)) 8 (.row 1 zaa a8)) 9 (.row 2 zan a9)) 23 (pA b2 0)) 24 (.xs y3.1)) 25 (.xs y4.1)) 26 (.exact v26_l2)) 27 (.xi a))) (λ(g:List Int) (i:Int) (j:List (Int×(List UInt8))) (a:Int) (v26_l2:Value)=>[boxI 50 b2 [.row 1 zbd g, .xi i],vecT Tryz.prog 27 2 zan v26_l2 j]) (.slice none 0 0) ?_ (λ S g i j a v26_l2 h=> ?_))))))
  .refine Sub.trans (SubU.to (SubU.nilT (P:=Tryz.prog) (t:=27) (n:=2) (enc:=zan))) (Sub.trans (SubU.to SubU.f1) (so (l4 rfl rfl rfl rfl (l4 rfl rfl rfl rfl (l4 rfl rfl rfl rfl (lq rfl (lq rfl (lq rfl lt0))))))))
  .unfold zgl at h
   refine zav (sr (qm (.xi a) rfl (gq (ziv rfl rfl (gc (kd (p:=0<a) rfl h (λ hc h=> ?_) (λ hc h=> ?_)))))))
   .refine zaq (zad (zav (zaw (kr (qm (.exact v26_l2) rfl (qm (pA b2 0) rfl ?_))))))
    obtain⟨y29,u,h⟩:=zab h
    refine G_l rfl (zaz (zej _ _ u) func8 (by kernel_rfl) (lc lf ln) (qm (pA b2 0) rfl ?_))
    obtain⟨y30,v,h⟩:=zab h
    refine G_l rfl (zaz (m_gen_Choices_Term_ok _ _ _ _ v) func6 (by kernel_rfl) (lc lf (lc lf (lc lf ln))) (gq (op_bld (c':=zan (y29.1,y30.1)) (CellsAll.cons rfl CellsOf.int (CellsAll.cons rfl CellsOf.str CellsAll.nil)) rfl (lc lf (lc lf ln)) (gq (zbv (n:=2) (enc:=zan) [(y29.1,y30.1)] (CellsAll.cons rfl CellsOf.agg CellsAll.nil) rfl (by kernel_rfl) (LEss.cons (lc lf (lc lf ln)) LEss.nil) ?_)))))
    obtain⟨n31,h⟩:=zag h
    refine G_l rfl (opB_f1 (zdo (by kernel_rfl) rfl rfl zgr n31 (λ v32=>qa (.exact v32) rfl (zay (zax (zad (kr (qm (.xi a) rfl (gq (zek rfl rfl rfl (qa (.xi (i64 (a - 1))) rfl (zay (zac ⟨_,_,_,_,v32,h, ?_⟩)))))))))))))
    refine Sub.trans (SubU.to SubU.f1) (so (l4 rfl rfl rfl rfl (l4 rfl rfl rfl rfl (l4 rfl rfl rfl rfl (lq rfl (lq rfl (lq rfl lt0)))))))
   .refine zcr (zbs (zby (zbt (zac ⟨_,_,_,v26_l2,h,so (l4 rfl rfl rfl rfl (l4 rfl rfl rfl rfl (l4 rfl rfl rfl rfl (lq rfl (lq rfl lt0)))))⟩))))
 .refine zba h (λ(b:Bool)=>(pt AF0 22 (.xb b))) (λ(b:Bool)=>[]) (λ k33 h=> ?_) (λ b h=> ?_)
  .refine kr ?_
   obtain⟨y63,w,h⟩:=zab h
   refine gq (zah (m_law16_awake_ok _ w) func9 (by kernel_rfl) ln (qm (.xb y63) rfl (G_splitB (c:=y63) 49 rfl (λ hc=> ?_) (λ hc=> ?_))))
   .replace h:=zcs h hc
    obtain⟨y64,x,h⟩:=zab h
    refine gy (zah (m_procterm_Stop_ok _ x) func10 (by kernel_rfl) ln ?_)
    obtain⟨y65,y,h⟩:=zab h
    refine gy (zah (zbp _ _ _ y) func11 (by kernel_rfl) (lc lf (lc (zed (by decide)) ln)) (gy (zim rfl rfl (gq (zap rfl (av:= .xb (decide (y64=y65))) rfl (qm (.xb (decide (y64=y65))) rfl (zbz (p:=y64=y65) 54 rfl (λ hc=> ?_) (λ hc=> ?_))))))))
    .replace h:=zcs h hc
     obtain⟨y66,z,h⟩:=zab h
     refine gy (zah (m_procterm_Skip_ok _ z) func12 (by kernel_rfl) ln ?_)
     obtain⟨y67,A,h⟩:=zab h
     refine gy (zah (zbp _ _ _ A) func11 (by kernel_rfl) (lc lf (lc (zed (by decide)) ln)) (gy (zim rfl rfl (gq (zap rfl (av:= .xb (decide (y66=y67))) rfl (qm (.xb (decide (y66=y67))) rfl (zbz (p:=y66=y67) 59 rfl (λ hc=> ?_) (λ hc=> ?_))))))))
     .replace h:=zcs h hc
      obtain⟨y68,B,h⟩:=zab h
      refine gy (zah (m_procterm_Div_ok _ B) func13 (by kernel_rfl) ln ?_)
      obtain⟨y69,C,h⟩:=zab h
      refine gy (zah (zbp _ _ _ C) func11 (by kernel_rfl) (lc lf (lc (zed (by decide)) ln)) (gy (zim rfl rfl (gq (zap rfl (av:= .xb (decide (y68=y69))) rfl (qm (.xb (decide (y68=y69))) rfl (zbz (p:=y68=y69) 64 rfl (λ hc=> ?_) (λ hc=> ?_))))))))
      .replace h:=zcs h hc
       obtain⟨y70,D,h⟩:=zab h
       refine gy (zah (m_procterm_Omega_ok _ D) func14 (by kernel_rfl) ln ?_)
       obtain⟨y71,F,h⟩:=zab h
       refine gy (zah (m_ref16_Omega_ok _ F) func15 (by kernel_rfl) ln (gy (zim rfl rfl (gq (zap rfl (av:= .xb (decide (y70=y71))) rfl (qm (.xb (decide (y70=y71))) rfl (zbz (p:=y70=y71) 69 rfl (λ hc=> ?_) (λ hc=> ?_))))))))
       .replace h:=zcs h hc
        refine gy (zae (av:= .xs a0) rfl (gy (zae (av:= .xs a1) rfl (gy (zae (av:= .row 1 zbd a2) rfl (gy (zae (av:= .row 1 zbd a3) rfl (gy (zae (av:= .row 2 zai a4) rfl (gy (zae (av:= .row 2 zaj a5) rfl (gy (zae (av:= .xi a6) rfl (gy (zae (av:= .xi a7) rfl (gy (zae (av:= .row 1 zaa a8) rfl (gy (zae (av:= .row 2 zan a9) rfl ?_)))))))))))))))))))
        obtain⟨y72,G,h⟩:=zab h
        refine gy (zah (m_law16_made_ok _ _ _ _ _ _ _ _ _ _ _ G) func16 (by kernel_rfl) (lc lf (lc lf (lc lf (lc lf (lc lf (lc lf (lc lf (lc lf (lc lf (lc lf ln)))))))))) (gq (zap rfl (av:= .xb y72) rfl (qm (.xb y72) rfl (G_splitB (c:=y72) 82 rfl (λ hc=> ?_) (λ hc=> ?_))))))
        .replace h:=zcs h hc
         refine gy (zae (av:= .xs y3.1) rfl (gy (zae (av:= .xs y4.1) rfl (gy (zae (av:=pA b2 0) rfl ?_)))))
         obtain⟨y73,H,h⟩:=zab h
         refine Gy_l rfl rfl rfl (zio (zef _ _ H) func17 (by kernel_rfl) (lc lf ln) (λ v74=>gy (zae (av:=pA b2 0) rfl ?_)))
         obtain⟨y75,I,h⟩:=zab h
         refine Gy_l rfl rfl rfl (opB_f1 (zio (zef _ _ I) func17 (by kernel_rfl) (lc lf ln) (λ v76=>G_sub rfl (SubU.freezeT (s:=88) rfl zjo) ?_)))
         obtain⟨n77,h⟩:=zag h
         refine Gy_l rfl rfl rfl (opB_f1 (zdo (by kernel_rfl) rfl rfl oc_c_int n77 (λ v78=>gy (zae (av:=pA b2 0) rfl ?_))))
         obtain⟨y79,J,h⟩:=zab h
         refine Gy_l rfl rfl rfl (opB_f1 (zio (zef _ _ J) func17 (by kernel_rfl) (lc lf ln) (λ v80=>gy (zae (av:=pA b2 0) rfl ?_))))
         obtain⟨y81,K,h⟩:=zab h
         refine Gy_l rfl rfl rfl (opB_f1 (zio (zla _ _ K) func18 (by kernel_rfl) (lc lf ln) (λ v82=>gy (zae (av:=pA b2 0) rfl ?_))))
         obtain⟨y83,L,h⟩:=zab h
         refine Gy_l rfl rfl rfl (opB_f1 (zio (zla _ _ L) func18 (by kernel_rfl) (lc lf ln) (λ v84=>G_sub rfl (SubU.freezeT (s:=95) rfl zbw) ?_)))
         obtain⟨n85,h⟩:=zag h
         refine Gy_l rfl rfl rfl (opB_f1 (zdo (by kernel_rfl) rfl rfl zex n85 (λ v86=>gy (zae (av:=pA b2 0) rfl ?_))))
         obtain⟨y87,M,h⟩:=zab h
         refine Gy_l rfl rfl rfl (opB_f1 (zaz (m_gen_Choices_Order_ok _ _ M) func19 (by kernel_rfl) (lc lf ln) (gy (zae (av:=pA b2 0) rfl ?_))))
         obtain⟨y88,N,h⟩:=zab h
         refine Gy_l rfl rfl rfl (zaz (zbh _ _ _ N) func7 (by kernel_rfl) (lc lf (lc lf ln)) (gy (zae (av:=pA b2 0) rfl ?_)))
         obtain⟨y89,O,h⟩:=zab h
         refine Gy_l rfl rfl rfl (zaz (zbh _ _ _ O) func7 (by kernel_rfl) (lc lf (lc lf ln)) (gy (zae (av:=pA b2 0) rfl ?_)))
         obtain⟨y90,Q,h⟩:=zab h
         refine Gy_l rfl rfl rfl (zaz (zff zfy m_gen_Choices_Value_all _ _ _ _ Q) func20 (by kernel_rfl) (lc lf (lc lf (lc lf ln))) (gy (zae (av:= .exact v26_j5) rfl (G_sub rfl (SubU.trans SubU.f3 (SubU.freezeT (s:=89) rfl zjo)) (G_sub rfl (SubU.trans SubU.f2 (SubU.freezeT (s:=91) rfl zjo)) (G_sub rfl (SubU.trans SubU.f1 (SubU.freezeT (s:=96) rfl zbw)) (G_sub rfl (SubU.trans SubU.f1 (SubU.freezeT2 (s1:=26) (s2:=105) rfl rfl zcm)) ?_)))))))
         obtain⟨y91,R,h⟩:=zab h
         refine gy (zah (m_law16_made_ok _ _ _ _ _ _ _ _ _ _ _ R) func16 (by kernel_rfl) (lc lf (lc lf (lc lf (lc lf (lc lf (lc lf (lc lf (lc lf (lc lf (lc lf ln)))))))))) (gq (zap rfl (av:= .xb y91) rfl (qa (.xb y91) rfl (zay (zac ⟨_,h, ?_⟩))))))
         refine Sub.trans (SubU.to SubU.drop) (s1 rfl)
        .replace h:=zct h hc
         refine gn (gn (gn (gn (gn (gn (gn (gn (gn (gn (gn (gn (gn (gn (gn (gn (gn (gn (gn (gn (gn (gn (gn (gn (gq (zal rfl (av:= .xb false) rfl (qa (.xb false) rfl (zay (zac ⟨_,h, ?_⟩))))))))))))))))))))))))))))
         refine Sub.trans (SubU.to SubU.drop) (Sub.trans (SubU.to SubU.drop) (s1 rfl))
       .replace h:=zct h hc
        refine gn (gn (gn (gn (gn (gn (gn (gn (gn (gn (gn (gq (zal rfl (av:= .xb false) rfl (qm (.xb false) rfl (gn (gn (gn (gn (gn (gn (gn (gn (gn (gn (gn (gn (gn (gn (gn (gn (gn (gn (gn (gn (gn (gn (gn (gn (gq (zal rfl (av:= .xb false) rfl (qa (.xb false) rfl (zay (zac ⟨_,h, ?_⟩))))))))))))))))))))))))))))))))))))))))))
        refine Sub.trans (SubU.to SubU.drop) (Sub.trans (SubU.to SubU.drop) (s1 rfl))
      .replace h:=zct h hc
       refine gn (gn (gn (gq (zal rfl (av:= .xb false) rfl (qm (.xb false) rfl (gn (gn (gn (gn (gn (gn (gn (gn (gn (gn (gn (gq (zal rfl (av:= .xb false) rfl (qm (.xb false) rfl (gn (gn (gn (gn (gn (gn (gn (gn (gn (gn (gn (gn (gn (gn (gn (gn (gn (gn (gn (gn (gn (gn (gn (gn (gq (zal rfl (av:= .xb false) rfl (qa (.xb false) rfl (zay (zac ⟨_,h, ?_⟩))))))))))))))))))))))))))))))))))))))))))))))))
       refine Sub.trans (SubU.to SubU.drop) (Sub.trans (SubU.to SubU.drop) (s1 rfl))
     .replace h:=zct h hc
      refine gn (gn (gn (gq (zal rfl (av:= .xb false) rfl (qm (.xb false) rfl (gn (gn (gn (gq (zal rfl (av:= .xb false) rfl (qm (.xb false) rfl (gn (gn (gn (gn (gn (gn (gn (gn (gn (gn (gn (gq (zal rfl (av:= .xb false) rfl (qm (.xb false) rfl (gn (gn (gn (gn (gn (gn (gn (gn (gn (gn (gn (gn (gn (gn (gn (gn (gn (gn (gn (gn (gn (gn (gn (gn (gq (zal rfl (av:= .xb false) rfl (qa (.xb false) rfl (zay (zac ⟨_,h, ?_⟩))))))))))))))))))))))))))))))))))))))))))))))))))))))
      refine Sub.trans (SubU.to SubU.drop) (Sub.trans (SubU.to SubU.drop) (s1 rfl))
    .replace h:=zct h hc
     refine gn (gn (gn (gq (zal rfl (av:= .xb false) rfl (qm (.xb false) rfl (gn (gn (gn (gq (zal rfl (av:= .xb false) rfl (qm (.xb false) rfl (gn (gn (gn (gq (zal rfl (av:= .xb false) rfl (qm (.xb false) rfl (gn (gn (gn (gn (gn (gn (gn (gn (gn (gn (gn (gq (zal rfl (av:= .xb false) rfl (qm (.xb false) rfl (gn (gn (gn (gn (gn (gn (gn (gn (gn (gn (gn (gn (gn (gn (gn (gn (gn (gn (gn (gn (gn (gn (gn (gn (gq (zal rfl (av:= .xb false) rfl (qa (.xb false) rfl (zay (zac ⟨_,h, ?_⟩))))))))))))))))))))))))))))))))))))))))))))))))))))))))))))
     refine Sub.trans (SubU.to SubU.drop) (Sub.trans (SubU.to SubU.drop) (s1 rfl))
   .replace h:=zct h hc
    refine gn (gn (gn (gq (zal rfl (av:= .xb false) rfl (qm (.xb false) rfl (gn (gn (gn (gq (zal rfl (av:= .xb false) rfl (qm (.xb false) rfl (gn (gn (gn (gq (zal rfl (av:= .xb false) rfl (qm (.xb false) rfl (gn (gn (gn (gq (zal rfl (av:= .xb false) rfl (qm (.xb false) rfl (gn (gn (gn (gn (gn (gn (gn (gn (gn (gn (gn (gq (zal rfl (av:= .xb false) rfl (qm (.xb false) rfl (gn (gn (gn (gn (gn (gn (gn (gn (gn (gn (gn (gn (gn (gn (gn (gn (gn (gn (gn (gn (gn (gn (gn (gn (gq (zal rfl (av:= .xb false) rfl (qa (.xb false) rfl (zay (zac ⟨_,h, ?_⟩))))))))))))))))))))))))))))))))))))))))))))))))))))))))))))))))))
    refine Sub.trans (SubU.to SubU.drop) (Sub.trans (SubU.to SubU.drop) (s1 rfl))
  .refine zau ?_
   obtain rfl:=oi h
   refine ke (pt AF0 22 (.xb b)) [] rfl (s1 rfl) ⟨rfl,rfl⟩
end
end Go.Proofs.YtloigebekdkijaaGreat
