/- Parts, merged. -/
import Derived.Test.YtloigebekdkijaaGreatQC6
namespace Go.Proofs.YtloigebekdkijaaGreat
open _root_.Go.Proofs.Tryz
noncomputable section
open Go.RowKit
attribute [local irreducible] AV.exact AV.top AV.row AV.ptr AV.agg AV.tup AV.eptr AV.fn AV.nilq AV.nilqn opA opB opM opR Quiet Loud Reads wpG awp den Sub SubU Pure Fun vecI vecT boxI CellsAll CellsOf OneC LEs LEss
set_option maxRecDepth 100000
set_option maxHeartbeats 4000000
theorem m_slices_Equal_L_api_Above_api_Above_ok (a0:List (Int×Int)) (a1:List (Int×Int)) (r:Bool) (h:zdp a0 a1=some r):Pure Tryz.prog 132 [(.row 2 zal a0),(.row 2 zal a1)] (.exact (.bool r)):=by
 unfold zdp at h
 refine Pure.ofFun (zan func132 rfl ntmps132 (by simp) rfl (res1 rfl) λ E hE=>zca (sr (qa (.xb false) rfl (gc (zau (sr (qm (.row 2 zal a0) rfl (gq (zaw (by kernel_rfl) rfl (qm (.row 2 zal a1) rfl (gq (zaw (by kernel_rfl) rfl (gq (zlq rfl rfl (gc (kd (p:= ¬(List.length a0:Int)=(List.length a1:Int)) rfl h (λ hc h=> ?_) (λ hc h=> ?_)))))))))))))))))
 .refine sr (qa (.xb false) rfl (gc (zax (zaz ?_))))
  obtain rfl:=oi h
  refine ke (pt AF0 4 (.xb false)) [] rfl (s1 rfl) ⟨rfl,rfl⟩
 .refine zaq (zad (zdq h (AF0) ([]) (λ k1 h=> ?_) (λ  h=> ?_)))
  .refine sr (qm (.row 2 zal a0) rfl (gq (zaw (by kernel_rfl) rfl (qm (.xi 0) rfl (gc (zas (zen (zcq a0 a1 k1) (zde a0 a1 k1) (λ _=>rfl) (λ m _=>rfl) h (λ(c:Int)=>(pt (pt (pt (pt AF0 0 (.row 2 zal a0)) 1 (.row 2 zal a1)) 12 (.xi (List.length a0:Int))) 13 (.xi c))) (λ(c:Int)=>[]) ?_ (λ d c h=> ?_))))))))
   .exact s4 rfl rfl rfl rfl
   .unfold zde at h
    refine sr (gq (zby rfl rfl (gc (zau (kd (p:=c<(List.length a0:Int)) rfl h (λ hc h=> ?_) (λ hc h=> ?_))))))
    .refine zaq (zad (zau (zas (sr (qm (.xi c) rfl (qa (.xi c) rfl (gc (zau (zdy [] [(0,0),(0,1),(0,2),(0,3),(0,4),(0,5),(0,6),(0,7),(0,8)] hmixP (by kernel_rfl) (pq rfl (zae (av:= .row 2 zal a0) rfl (pq rfl (zae (av:= .xi c) rfl ?_)))))))))))))
     obtain⟨n13,h⟩:=zag h
     refine pq rfl (zaj (by kernel_rfl) rfl rfl n13.1 n13.2 (pq rfl (zke (m:=2) (c':=zal (gi a0 c)) (by kernel_rfl) rfl rfl rfl (pq rfl (zae (av:= .row 2 zal a1) rfl (pq rfl (zae (av:= .xi c) rfl ?_)))))))
     obtain⟨n14,h⟩:=zag h
     refine pq rfl (zaj (by kernel_rfl) rfl rfl n14.1 n14.2 (pq rfl (zke (m:=2) (c':=zal (gi a1 c)) (by kernel_rfl) rfl rfl rfl (pq rfl (op_neqA (a:=(gi a0 c)) (b:=(gi a1 c)) (by kernel_rfl) (eq_c_api_Above _ _) rfl rfl (zdu (zad (kd (p:= ¬(gi a0 c)=(gi a1 c)) rfl h (λ hc h=> ?_) (λ hc h=> ?_)))))))))
     .refine sr (qa (.xb false) rfl (gc (zax (zbe (zaz (zbr (zbe (zbr ?_))))))))
      obtain rfl:=oi h
      refine ke (pt AF0 4 (.xb false)) [] rfl (s1 rfl) ⟨rfl,rfl⟩
     .refine zaq (zar (zad (kr (gq (zbx rfl rfl rfl (qm (.xi (i64 (c+1))) rfl (zay (zab ⟨_,h,s4 rfl rfl rfl rfl⟩))))))))
    .refine zcl (zbo (zbu (zbn (zab ⟨h,Sub.of_le lt0⟩))))
  .refine sr (qa (.xb true) rfl (gc (zax ?_)))
   obtain rfl:=oi h
   refine ke (pt AF0 4 (.xb true)) [] rfl (s1 rfl) ⟨rfl,rfl⟩
theorem m_alphabet_ValidOrder_ok (a0:List (Int×Int)) (r:Bool) (h:zfk a0=some r):Pure Tryz.prog 89 [(.row 2 zal a0)] (.exact (.bool r)):=by
 unfold zfk at h
 refine Pure.ofFun (zan func89 rfl ntmps89 (by simp) rfl (res1 rfl) λ E hE=>zca (sr (qa (.xb false) rfl (gd (qm (.row 2 zal a0) rfl ?_)))))
 obtain⟨y1,b,h⟩:=zac h
 refine gq (zai (m_close_ok _ _ b) func131 (by kernel_rfl) (lc lf ln) (qm (.tup [.row 2 zal y1.1, .xi y1.2]) rfl (gq (zbh (av:= .row 2 zal y1.1) rfl rfl (gq (zbh (av:= .xi y1.2) rfl rfl (qa (.row 2 zal y1.1) rfl (qa (.xi y1.2) rfl (gc (zbb h (λ(a:Bool)=>(pt AF0 2 (.xb a))) (λ(a:Bool)=>[]) (λ k2 h=> ?_) (λ a h=> ?_)))))))))))
 .refine kr (qm (.xi y1.2) rfl (gq (zbi rfl rfl (qm (.xb (decide (y1.2=0))) rfl (zcm (p:=y1.2=0) 12 rfl (λ hc=> ?_) (λ hc=> ?_))))))
  .replace h:=zdb h hc
   refine gy (zae (av:= .row 2 zal a0) rfl (gy (zae (av:= .row 2 zal y1.1) rfl ?_)))
   obtain⟨y4,c,h⟩:=zac h
   refine gy (zai (m_slices_Equal_L_api_Above_api_Above_ok _ _ _ c) func132 (by kernel_rfl) (lc lf (lc lf ln)) (gq (zat rfl (av:= .xb y4) rfl (qa (.xb y4) rfl (zay (zab ⟨_,h,s1 rfl⟩))))))
  .replace h:=zdc h hc
   refine gn (gn (gn (gq (zao rfl (av:= .xb false) rfl (qa (.xb false) rfl (zay (zab ⟨_,h,s1 rfl⟩)))))))
 .refine zax ?_
  obtain rfl:=oi h
  refine ke (pt AF0 2 (.xb a)) [] rfl (s1 rfl) ⟨rfl,rfl⟩
theorem m_procterm_term_F_ok (c:(List UInt8)->Option Bool) (hself_procterm_term: ∀(a0:List UInt8) (r:Bool),c a0=some r->Pure Tryz.prog 60 [(.exact (.string (bs a0)))] (.exact (.bool r))) (a0:List UInt8) (r:Bool) (h:zid c a0=some r):Pure Tryz.prog 60 [(.exact (.string (bs a0)))] (.exact (.bool r)):=by
 unfold zid at h
 refine Pure.ofFun (zan func60 rfl ntmps60 (by simp) rfl (res1 rfl) λ E hE=>zca (sr (qa (.xb false) rfl (gd (qm (.xs a0) rfl ?_)))))
 obtain⟨y1,g,h⟩:=zac h
 refine gq (zai (m_procterm_split_ok _ _ g) func81 (by kernel_rfl) (lc lf ln) (qm (.tup [.xi y1.1, .row 1 zaa y1.2]) rfl (gq (zbh (av:= .xi y1.1) rfl rfl (gq (zbh (av:= .row 1 zaa y1.2) rfl rfl (qa (.xi y1.1) rfl (qa (.row 1 zaa y1.2) rfl (gc (zau (sr (qm (.xi y1.1) rfl (gc (zas (sr (gq (zbi rfl rfl (qa (.xb (decide (y1.1=0))) rfl (gc (kd (p:=y1.1=0) rfl h (λ hc h=> ?_) (λ hc h=> ?_)))))))))))))))))))))
 .refine sr (qa (.xb false) rfl (gc (zax (zbe (zaz ?_)))))
  obtain rfl:=oi h
  refine ke (pt AF0 2 (.xb false)) [] rfl (s1 rfl) ⟨rfl,rfl⟩
 .refine zbb h (λ(d:Bool)=>(pt (pt (pt (pt AF0 3 (.xi y1.1)) 4 (.row 1 zaa y1.2)) 15 (.xi y1.1)) 18 (.xb d))) (λ(d:Bool)=>[]) (λ k15 h=> ?_) (λ d h=> ?_)
  .refine sr (gq (zbi rfl rfl (qa (.xb (decide (y1.1=1))) rfl (gc (kd (p:=y1.1=1) rfl h (λ hc h=> ?_) (λ hc h=> ?_))))))
   .refine zaq (zab ⟨_,h,s4 rfl rfl rfl rfl⟩)
   .refine sr (gq (zbi rfl rfl (qa (.xb (decide (y1.1=2))) rfl (gc (kd (p:=y1.1=2) rfl h (λ hc h=> ?_) (λ hc h=> ?_))))))
    .refine zaq (zab ⟨_,h,s4 rfl rfl rfl rfl⟩)
    .refine sr (gq (zbi rfl rfl (qa (.xb (decide (y1.1=3))) rfl (gc (kd (p:=y1.1=3) rfl h (λ hc h=> ?_) (λ hc h=> ?_))))))
     .refine zaq (zab ⟨_,h,s4 rfl rfl rfl rfl⟩)
     .refine kr (gq (zbi rfl rfl (qa (.xb (decide (y1.1=4))) rfl (zay (zab ⟨_,h,s4 rfl rfl rfl rfl⟩)))))
  .refine kb (p:=d) rfl h (λ hc h=> ?_) (λ hc h=> ?_)
   .refine sr (qm (.row 1 zaa y1.2) rfl (gq (zaw (by kernel_rfl) rfl (gq (zbi rfl rfl (qa (.xb (decide ((List.length y1.2:Int)=0))) rfl (gc (zax (zbe (zaz ?_))))))))))
    obtain rfl:=oi h
    refine ke (pt AF0 2 (.xb (decide ((List.length y1.2:Int)=0)))) [] rfl (s1 rfl) ⟨rfl,rfl⟩
   .refine sr (gq (zbi rfl rfl (qa (.xb (decide (y1.1=5))) rfl (gc (kd (p:=y1.1=5) rfl h (λ hc h=> ?_) (λ hc h=> ?_))))))
    .refine zbb h (λ(e:Bool)=>(pt AF0 2 (.xb e))) (λ(e:Bool)=>[]) (λ k16 h=> ?_) (λ e h=> ?_)
     .refine kr (qm (.row 1 zaa y1.2) rfl (gq (zaw (by kernel_rfl) rfl (gq (op_geq rfl rfl (qm (.xb (decide (1≤(List.length y1.2:Int)))) rfl (zcm (p:=1≤(List.length y1.2:Int)) 31 rfl (λ hc=> ?_) (λ hc=> ?_))))))))
      .replace h:=zdb h hc
       refine gy (zae (av:= .row 1 zaa y1.2) rfl (gy (zaw (by kernel_rfl) rfl (gy (op_leq rfl rfl (gq (zat rfl (av:= .xb (decide ((List.length y1.2:Int)≤33))) rfl (qm (.xb (decide ((List.length y1.2:Int)≤33))) rfl (zcm (p:=(List.length y1.2:Int)≤33) 36 rfl (λ hc=> ?_) (λ hc=> ?_))))))))))
       .replace h:=zdb h hc
        refine gy (zae (av:= .row 1 zaa y1.2) rfl ?_)
        obtain⟨n19,h⟩:=zag h
        refine gy (zaj (by kernel_rfl) rfl rfl n19.1 n19.2 (gy (zap (a:= .xs (gi y1.2 0)) (by kernel_rfl) rfl rfl ?_)))
        obtain⟨y20,i,h⟩:=zac h
        refine gy (zai (m_procterm_number_ok _ _ _ i) func99 (by kernel_rfl) (lc lf (lc lf ln)) (gq (zat rfl (av:= .xb y20) rfl (qa (.xb y20) rfl (zay (zab ⟨_,h,s1 rfl⟩))))))
       .replace h:=zdc h hc
        refine gn (gn (gn (gn (gq (zao rfl (av:= .xb false) rfl (qa (.xb false) rfl (zay (zab ⟨_,h,s1 rfl⟩))))))))
      .replace h:=zdc h hc
       refine gn (gn (gn (gq (zao rfl (av:= .xb false) rfl (qm (.xb false) rfl (gn (gn (gn (gn (gq (zao rfl (av:= .xb false) rfl (qa (.xb false) rfl (zay (zab ⟨_,h,s1 rfl⟩))))))))))))))
     .refine zax (zbe (zaz ?_))
      obtain rfl:=oi h
      refine ke (pt AF0 2 (.xb e)) [] rfl (s1 rfl) ⟨rfl,rfl⟩
    .refine sr (gq (zbi rfl rfl (qa (.xb (decide (y1.1=6))) rfl (gc (kd (p:=y1.1=6) rfl h (λ hc h=> ?_) (λ hc h=> ?_))))))
     .refine sr (qm (.row 1 zaa y1.2) rfl ?_)
      obtain⟨y21,j,h⟩:=zac h
      refine gq (zai (m_procterm_offers_ok c hself_procterm_term _ _ j) func100 (by kernel_rfl) (lc lf ln) (qa (.xb y21) rfl (gc (zax (zbe (zaz ?_))))))
      obtain rfl:=oi h
      refine ke (pt AF0 2 (.xb y21)) [] rfl (s1 rfl) ⟨rfl,rfl⟩
     .refine sr (gq (zbi rfl rfl (qa (.xb (decide (y1.1=21))) rfl (gc (kd (p:=y1.1=21) rfl h (λ hc h=> ?_) (λ hc h=> ?_))))))
      .refine zbb h (λ(f:Bool)=>(pt AF0 2 (.xb f))) (λ(f:Bool)=>[]) (λ k22 h=> ?_) (λ f h=> ?_)
       .refine kr (qm (.row 1 zaa y1.2) rfl (gq (zaw (by kernel_rfl) rfl (gq (zbi rfl rfl (qm (.xb (decide ((List.length y1.2:Int)=1))) rfl (zcm (p:=(List.length y1.2:Int)=1) 51 rfl (λ hc=> ?_) (λ hc=> ?_))))))))
        .replace h:=zdb h hc
         refine gy (zae (av:= .row 1 zaa y1.2) rfl ?_)
         obtain⟨n25,h⟩:=zag h
         refine gy (zaj (by kernel_rfl) rfl rfl n25.1 n25.2 (gy (zap (a:= .xs (gi y1.2 0)) (by kernel_rfl) rfl rfl ?_)))
         obtain⟨y26,k,h⟩:=zac h
         refine gy (zai (m_procterm_number_ok _ _ _ k) func99 (by kernel_rfl) (lc lf (lc lf ln)) (gq (zat rfl (av:= .xb y26) rfl (qa (.xb y26) rfl (zay (zab ⟨_,h,s1 rfl⟩))))))
        .replace h:=zdc h hc
         refine gn (gn (gn (gn (gq (zao rfl (av:= .xb false) rfl (qa (.xb false) rfl (zay (zab ⟨_,h,s1 rfl⟩))))))))
       .refine zax (zbe (zaz ?_))
        obtain rfl:=oi h
        refine ke (pt AF0 2 (.xb f)) [] rfl (s1 rfl) ⟨rfl,rfl⟩
      .refine zaq (zar (zad (sr (qm (.xi y1.1) rfl ?_))))
       obtain⟨y27,l,h⟩:=zac h
       refine gq (zai (m_procterm_form_ok _ _ l) func63 (by kernel_rfl) (lc lf ln) (qa (.xs y27) rfl (gc (zau (sr (qm (.row 1 zaa y1.2) rfl (gq (zaw (by kernel_rfl) rfl (qm (.xs y27) rfl (gq (op_lenS (by kernel_rfl) rfl (gq (zlq rfl rfl (gc (kd (p:= ¬(List.length y1.2:Int)=(List.length y27:Int)) rfl h (λ hc h=> ?_) (λ hc h=> ?_))))))))))))))))
       .refine sr (qa (.xb false) rfl (gc (zax (zaz ?_))))
        obtain rfl:=oi h
        refine ke (pt AF0 2 (.xb false)) [] rfl (s1 rfl) ⟨rfl,rfl⟩
       .refine zaq (zad (zdq h ((pt (pt AF0 3 (.xi y1.1)) 4 (.row 1 zaa y1.2))) ([]) (λ k28 h=> ?_) (λ  h=> ?_)))
        .refine sr (qm (.row 1 zaa y1.2) rfl (gq (zaw (by kernel_rfl) rfl (qm (.xi 0) rfl (gc (zas (zen (zjt c y1 y27 k28) (zmr c y1 y27 k28) (λ _=>rfl) (λ m _=>rfl) h (λ(b:Int)=>(pt (pt (pt (pt (pt (pt AF0 3 (.xi y1.1)) 4 (.row 1 zaa y1.2)) 5 (.xs y27)) 64 (.row 1 zaa y1.2)) 65 (.xi (List.length y1.2:Int))) 66 (.xi b))) (λ(b:Int)=>[]) ?_ (λ t b h=> ?_))))))))
         .exact so (l4 rfl rfl rfl rfl (lq rfl (lq rfl lt0)))
         .unfold zmr at h
          refine sr (gq (zby rfl rfl (gc (zau (kd (p:=b<(List.length y1.2:Int)) rfl h (λ hc h=> ?_) (λ hc h=> ?_))))))
          .refine zaq (zad (zau (zas (sr (qm (.xi b) rfl ?_)))))
           obtain⟨n45,h⟩:=zag h
           refine gq (zaj (by kernel_rfl) rfl rfl n45.1 n45.2 (gq (zap (a:= .xs (gi y1.2 b)) (by kernel_rfl) rfl rfl (qa (.xi b) rfl (qa (.xs (gi y1.2 b)) rfl (gd (qm (.xs y27) rfl (qm (.xi b) rfl ?_))))))))
           obtain⟨n46,h⟩:=zag h
           refine gq (zbj (by kernel_rfl) rfl rfl n46.1 n46.2 (qm (.xs (gi y1.2 b)) rfl ?_))
           obtain⟨y47,n,h⟩:=zac h
           refine gq (zai (m_procterm_part_ok c hself_procterm_term _ _ _ n) func101 (by kernel_rfl) (lc lf (lc lf ln)) (gq (zgf rfl (gc (kb (p:= !y47) rfl h (λ hc h=> ?_) (λ hc h=> ?_))))))
           .refine sr (qa (.xb false) rfl (gc (zax (zbe (zaz (zbr (zbe (zbr ?_))))))))
            obtain rfl:=oi h
            refine ke (pt AF0 2 (.xb false)) [] rfl (s1 rfl) ⟨rfl,rfl⟩
           .refine zaq (zar (zad (kr (gq (zbx rfl rfl rfl (qm (.xi (i64 (b+1))) rfl (zay (zab ⟨_,h,so (l4 rfl rfl rfl rfl (lq rfl (lq rfl lt0)))⟩))))))))
          .refine zcl (zbo (zbu (zbn (zab ⟨h,s2 rfl rfl⟩))))
        .refine zau (sr (qm (.xi y1.1) rfl (gq (zlq rfl rfl (gc (kd (p:= ¬y1.1=18) rfl h (λ hc h=> ?_) (λ hc h=> ?_)))))))
         .refine sr (qa (.xb true) rfl (gc (zax (zaz ?_))))
          obtain rfl:=oi h
          refine ke (pt AF0 2 (.xb true)) [] rfl (s1 rfl) ⟨rfl,rfl⟩
         .refine zaq (zad (sr (qm (.row 1 zaa y1.2) rfl ?_)))
          obtain⟨n48,h⟩:=zag h
          refine gq (zaj (by kernel_rfl) rfl rfl n48.1 n48.2 (gq (zap (a:= .xs (gi y1.2 1)) (by kernel_rfl) rfl rfl ?_)))
          obtain⟨y49,o,h⟩:=zac h
          refine gq (zai (m_procterm_relation_ok _ _ o) func102 (by kernel_rfl) (lc lf ln) (qm (.tup [.row 2 zak y49.1, .xb y49.2]) rfl (gq (zbh (av:= .row 2 zak y49.1) rfl rfl (gq (zbh (av:= .xb y49.2) rfl rfl (qa (.row 2 zak y49.1) rfl (qa (.xb y49.2) rfl (gd (qm (.row 2 zak y49.1) rfl ?_))))))))))
          obtain⟨y50,q,h⟩:=zac h
          refine gq (zai (m_procterm_order_ok _ _ q) func103 (by kernel_rfl) (lc lf ln) ?_)
          obtain⟨y51,s,h⟩:=zac h
          refine gq (zai (m_alphabet_ValidOrder_ok _ _ s) func89 (by kernel_rfl) (lc lf ln) (qa (.xb y51) rfl (gc (zax ?_))))
          obtain rfl:=oi h
          refine ke (pt AF0 2 (.xb y51)) [] rfl (s1 rfl) ⟨rfl,rfl⟩
theorem m_procterm_term_S_ok: ∀n:Nat,(∀(a0:List UInt8) (r:Bool),zgm n a0=some r->Pure Tryz.prog 60 [(.exact (.string (bs a0)))] (.exact (.bool r)))
  |0=>(λ _ _ h=>by have h':(none:Option _)=some _:=h;cases h')
  |n+1=>by
    have ih:=m_procterm_term_S_ok n
    exact λ a0 r h=>m_procterm_term_F_ok (zgm n) ih a0 r h
theorem zly (a0:List UInt8) (r:Bool) (h:zlo a0=some r):Pure Tryz.prog 60 [(.exact (.string (bs a0)))] (.exact (.bool r)):=(m_procterm_term_S_ok FU) a0 r h
theorem m_procterm_open_ok (a0:List UInt8) (r:Int×(List (List UInt8))) (h:zhc a0=some r):Pure Tryz.prog 58 [(.exact (.string (bs a0)))] (.tup [.exact (.int .i64 r.1), .row 1 zaa r.2]):=by
 unfold zhc at h
 refine Pure.ofFun (zan func58 rfl ntmps58 (by simp) rfl (res2 rfl) λ E hE=>zca (sr (qa (.xi 0) rfl (qa (.exact (.slice none 0 0)) rfl (gc (zau (sr (qm (.xs a0) rfl ?_))))))))
 obtain⟨y1,a,h⟩:=zac h
 refine gq (zai (zly _ _ a) func60 (by kernel_rfl) (lc lf ln) (gq (zgf rfl (gc (kb (p:= !y1) rfl h (λ hc h=> ?_) (λ hc h=> ?_))))))
 .refine sr (qa (.xi 0) rfl (qa (.exact (.slice none 0 0)) rfl (gc (zax (zaz ?_)))))
  obtain rfl:=oi h
  refine ke (pt (pt AF0 2 (.xi 0)) 3 (.row 1 zaa [])) [] rfl (so (AF.le_put (zep (by decide)) (lq rfl lt0))) ⟨rfl,rfl⟩
 .refine zaq (zad (sr (qm (.xs a0) rfl ?_)))
  obtain⟨y2,b,h⟩:=zac h
  refine gq (zai (m_procterm_split_ok _ _ b) func81 (by kernel_rfl) (lc lf ln) (gq (zbh (av:= .xi y2.1) rfl rfl (gq (zbh (av:= .row 1 zaa y2.2) rfl rfl (qa (.xi y2.1) rfl (qa (.row 1 zaa y2.2) rfl (gc (zax ?_)))))))))
  obtain rfl:=oi h
  refine ke (pt (pt AF0 2 (.xi y2.1)) 3 (.row 1 zaa y2.2)) [] rfl (s2 rfl rfl) ⟨rfl,rfl⟩
theorem m_value_append64_ok {w0:Value} (a0:List UInt8) (a1:Int) (r:(List UInt8)) (h:m_value_append64 a0 a1=some r):Fun Tryz.prog 120 [(.exact w0),(.exact (.int .u64 a1))] [vecT Tryz.prog 80 1 zit w0 a0] (λ a s=> ∃z0,a= .exact z0/\s=[vecT Tryz.prog 80 1 zit z0 r]):=by
 unfold m_value_append64 at h
 refine zan func120 rfl ntmps120 (by simp) rfl (res1 rfl) λ E hE=>zca (sr (qa (.exact (.slice none 0 0)) rfl (gc (zdl h (λ(c:List UInt8) (v0_j1:Value)=>(pt AF0 0 (.exact v0_j1))) (λ(c:List UInt8) (v0_j1:Value)=>[vecT Tryz.prog 80 1 zit v0_j1 c]) (λ k1 h=> ?_) (λ c v0_j1 h=> ?_)))))
 .refine sr (qa (.xi 56) rfl (gc (zas (zei (zii a1 k1) (zln a1 k1) (λ _ _=>rfl) (λ m _ _=>rfl) h (λ(d:List UInt8) (b:Int) (v0_l2:Value)=>(pt (pt (pt AF0 0 (.exact v0_l2)) 1 (.exact (.int .u64 a1))) 5 (.xi b))) (λ(d:List UInt8) (b:Int) (v0_l2:Value)=>[vecT Tryz.prog 80 1 zit v0_l2 d]) w0 ?_ (λ e d b v0_l2 h=> ?_)))))
  .exact s3 rfl rfl rfl
  .unfold zln at h
   refine zau (sr (qm (.xi b) rfl (gq (op_geq rfl rfl (gc (kd (p:=0≤b) rfl h (λ hc h=> ?_) (λ hc h=> ?_)))))))
   .refine zaq (zad (zau (zas (kr (qm (.exact v0_l2) rfl (qm (.exact (.int .u64 a1)) rfl (qm (.xi b) rfl ?_)))))))
    obtain⟨n16,h⟩:=zag h
    refine gq (op_shr rfl rfl n16 rfl (gq (zbz (k:= .u8) (r:=(UInt8.toNat (u8i (Int.fdiv a1 (2^min (Int.toNat b) IntKind.u64.bits))):Int)) (by kernel_rfl) rfl (u8i_eq _) (gq (zcf (n:=1) (enc:=zit) [u8i (Int.fdiv a1 (2^min (Int.toNat b) IntKind.u64.bits))] (CellsAll.cons rfl CellsOf.int CellsAll.nil) rfl (by kernel_rfl) (LEss.cons (lc lf ln) LEss.nil) ?_)))))
    obtain⟨n17,h⟩:=zag h
    refine G_l rfl (zeb (by kernel_rfl) rfl rfl oc_c_uint8 n17 (λ v18=>qa (.exact v18) rfl (zay (zar (zad (kr (qm (.xi b) rfl (gq (zfo rfl rfl rfl (qa (.xi (i64 (b - 8))) rfl (zay (zab ⟨_,_,v18,h,s3 rfl rfl rfl⟩))))))))))))
   .refine zcl (zbo (zbu (zbn (zab ⟨_,v0_l2,h,s1 rfl⟩))))
 .refine sr (qm (.exact v0_j1) rfl (qa (.exact v0_j1) rfl (gc (zax ?_))))
  obtain rfl:=oi h
  refine ke (pt AF0 4 (.exact v0_j1)) [vecT Tryz.prog 80 1 zit v0_j1 c] rfl (s1 rfl) ⟨v0_j1,rfl,rfl⟩
theorem m_value_Int_ok (a0:Int) (r:(List UInt8)) (h:m_value_Int a0=some r):Pure Tryz.prog 80 [(.exact (.int .i64 a0))] (.exact (.string (bs r))):=by
 unfold m_value_Int at h
 refine Pure.ofFun (zan func80 rfl ntmps80 (by simp) rfl (res1 rfl) λ E hE=>zca (sr (qa (.xs ([]:List UInt8)) rfl (gd (G_l rfl (op_litI (n:=1) (enc:=zit) [1] (by kernel_rfl) (CellsAll.cons rfl CellsOf.int CellsAll.nil) rfl (by kernel_rfl) (LEss.cons (lc lf ln) LEss.nil) (λ v1=>qm (.xi a0) rfl (gq (zbz (k:= .u64) (by kernel_rfl) rfl rfl ?_)))))))))
 obtain⟨y2,a,h⟩:=zac h
 refine G_l rfl (op_fun_1_1_1 (m_value_append64_ok _ _ _ a) func120 (by kernel_rfl) (lc lf (lc lf ln)) (λ v3=>G_r rfl (op_bytesS_bor rfl (by kernel_rfl) (Bor.vec (List.Mem.head _) len_c_uint8) (qa (.xs y2) rfl (gc (zax ?_))))))
 obtain rfl:=oi h
 refine ke (pt AF0 2 (.xs y2)) [] rfl (Sub.trans (SubU.to SubU.drop) (s1 rfl)) ⟨rfl,rfl⟩
theorem m_value_append16_ok {w0:Value} (a0:List UInt8) (a1:Int) (r:(List UInt8)) (h:m_value_append16 a0 a1=some r):Fun Tryz.prog 165 [(.exact w0),(.exact (.int .u16 a1))] [vecT Tryz.prog 80 1 zit w0 a0] (λ a s=> ∃z0,a= .exact z0/\s=[vecT Tryz.prog 80 1 zit z0 r]):=by
 unfold m_value_append16 at h
 refine zan func165 rfl ntmps165 (by simp) rfl (res1 rfl) λ E hE=>zca (sr (qa (.exact (.slice none 0 0)) rfl (gd (qm (.exact w0) rfl (qm (.exact (.int .u16 a1)) rfl (gq (op_shr rfl rfl (by decide) rfl (gq (zbz (k:= .u8) (r:=(UInt8.toNat (u8i (Int.fdiv a1 (2^min (Int.toNat 8) IntKind.u16.bits))):Int)) (by kernel_rfl) rfl (u8i_eq _) (qm (.exact (.int .u16 a1)) rfl (gq (zbz (k:= .u8) (r:=(UInt8.toNat (u8i a1):Int)) (by kernel_rfl) rfl (u8i_eq _) (gq (zcf (n:=1) (enc:=zit) [u8i (Int.fdiv a1 (2^min (Int.toNat 8) IntKind.u16.bits)),u8i a1] (CellsAll.cons rfl CellsOf.int (CellsAll.cons rfl CellsOf.int CellsAll.nil)) rfl (by kernel_rfl) (LEss.cons (lc lf ln) (LEss.cons (lc lf ln) LEss.nil)) ?_))))))))))))))
 obtain⟨n1,h⟩:=zag h
 refine G_l rfl (zeb (by kernel_rfl) rfl rfl oc_c_uint8 n1 (λ v2=>qa (.exact v2) rfl (gc (zax ?_))))
 obtain rfl:=oi h
 refine ke (pt AF0 4 (.exact v2)) [vecT Tryz.prog 80 1 zit v2 (a0++[u8i (Int.fdiv a1 (2^min (Int.toNat 8) IntKind.u16.bits)),u8i a1])] rfl (s1 rfl) ⟨v2,rfl,rfl⟩
theorem m_slices_IndexFunc_L_api_Value_api_Value_ok (a0:List (List UInt8)) (a1:(List UInt8)->Option Bool) (r:Int) (h:zdz a0 a1=some r):Pure Tryz.prog 195 [(.row 1 zaa a0),(.fn Tryz.prog (λ(i:(List UInt8))=>[.exact (.string (bs i))]) (λ(i:(List UInt8))=>a1 i) (λ(r:Bool)=> .exact (.bool r)))] (.exact (.int .i64 r)):=by
 unfold zdz at h
 refine Pure.ofFun (zan func195 rfl ntmps195 (by simp) rfl (res1 rfl) λ E hE=>zca (sr (qa (.xi 0) rfl (gc (zdq h (AF0) ([]) (λ k1 h=> ?_) (λ  h=> ?_))))))
 .refine sr (qm (.row 1 zaa a0) rfl (gq (zaw (by kernel_rfl) rfl (qm (.xi 0) rfl (gc (zas (zen (zcd a0 a1 k1) (zcs a0 a1 k1) (λ _=>rfl) (λ m _=>rfl) h (λ(b:Int)=>(pt (pt (pt (pt AF0 0 (.row 1 zaa a0)) 1 (.fn Tryz.prog (λ(i:(List UInt8))=>[.xs i]) (λ(i:(List UInt8))=>a1 i) (λ(r:Bool)=> .xb r))) 7 (.xi (List.length a0:Int))) 8 (.xi b))) (λ(b:Int)=>[]) ?_ (λ d b h=> ?_))))))))
  .exact s4 rfl rfl rfl rfl
  .unfold zcs at h
   refine sr (gq (zby rfl rfl (gc (zau (kd (p:=b<(List.length a0:Int)) rfl h (λ hc h=> ?_) (λ hc h=> ?_))))))
   .refine zaq (zad (zau (zas (sr (qm (.xi b) rfl (qa (.xi b) rfl (gd (qm (.fn Tryz.prog (λ(i:(List UInt8))=>[.xs i]) (λ(i:(List UInt8))=>a1 i) (λ(r:Bool)=> .xb r)) rfl (qm (.row 1 zaa a0) rfl (qm (.xi b) rfl ?_))))))))))
    obtain⟨n13,h⟩:=zag h
    refine gq (zaj (by kernel_rfl) rfl rfl n13.1 n13.2 (gq (zap (a:= .xs (gi a0 b)) (by kernel_rfl) rfl rfl ?_)))
    obtain⟨y14,c,h⟩:=zac h
    refine gq (op_callfn (gi a0 b) rfl c (lc lf ln) (gc (kb (p:=y14) rfl h (λ hc h=> ?_) (λ hc h=> ?_))))
    .refine sr (qm (.xi b) rfl (qa (.xi b) rfl (gc (zax (zbe (zaz (zbr (zbe (zbr ?_)))))))))
     obtain rfl:=oi h
     refine ke (pt AF0 4 (.xi b)) [] rfl (s1 rfl) ⟨rfl,rfl⟩
    .refine zaq (zar (zad (kr (gq (zbx rfl rfl rfl (qm (.xi (i64 (b+1))) rfl (zay (zab ⟨_,h,s4 rfl rfl rfl rfl⟩))))))))
   .refine zcl (zbo (zbu (zbn (zab ⟨h,Sub.of_le lt0⟩))))
 .refine sr (qa (.xi (-1)) rfl (gc (zax ?_)))
  obtain rfl:=oi h
  refine ke (pt AF0 4 (.xi (-1))) [] rfl (s1 rfl) ⟨rfl,rfl⟩
theorem znf (a0:List (List UInt8)) (a1:(List UInt8)->Option Bool) (r:Bool) (h:zct a0 a1=some r):Pure Tryz.prog 166 [(.row 1 zaa a0),(.fn Tryz.prog (λ(i:(List UInt8))=>[.exact (.string (bs i))]) (λ(i:(List UInt8))=>a1 i) (λ(r:Bool)=> .exact (.bool r)))] (.exact (.bool r)):=by
 unfold zct at h
 refine Pure.ofFun (zan func166 rfl ntmps166 (by simp) rfl (res1 rfl) λ E hE=>zca (sr (qa (.xb false) rfl (gd (qm (.row 1 zaa a0) rfl (qm (.fn Tryz.prog (λ(i:(List UInt8))=>[.xs i]) (λ(i:(List UInt8))=>a1 i) (λ(r:Bool)=> .xb r)) rfl ?_))))))
 obtain⟨y1,a,h⟩:=zac h
 refine gq (zai (m_slices_IndexFunc_L_api_Value_api_Value_ok _ _ _ a) func195 (by kernel_rfl) (lc lf (lc lf ln)) (gq (op_geq rfl rfl (qa (.xb (decide (0≤y1))) rfl (gc (zax ?_))))))
 obtain rfl:=oi h
 refine ke (pt AF0 4 (.xb (decide (0≤y1)))) [] rfl (s1 rfl) ⟨rfl,rfl⟩
theorem m_value_compound_1_ok (a0:List UInt8) (r:Bool) (h:zmq a0=some r):Pure Tryz.prog 167 [(.exact (.string (bs a0)))] (.exact (.bool r)):=by
 unfold zmq at h
 refine Pure.ofFun (zan func167 rfl ntmps167 (by simp) rfl (res1 rfl) λ E hE=>zca (sr (qa (.xb false) rfl (gd (qm (.xs a0) rfl ?_)))))
 obtain⟨y1,a,h⟩:=zac h
 refine gq (zai (m_value_Valid_ok _ _ a) func134 (by kernel_rfl) (lc lf ln) (gq (zgf rfl (qa (.xb (!y1)) rfl (gc (zax ?_))))))
 obtain rfl:=oi h
 refine ke (pt AF0 2 (.xb (!y1))) [] rfl (s1 rfl) ⟨rfl,rfl⟩
theorem m_value_checked_ok (a0:List UInt8) (r:(List UInt8)) (h:m_value_checked a0=some r):Pure Tryz.prog 168 [(.row 1 zit a0)] (.exact (.string (bs r))):=by
 unfold m_value_checked at h
 refine Pure.ofFun (zan func168 rfl ntmps168 (by simp) rfl (res1 rfl) λ E hE=>zca (sr (qa (.xs ([]:List UInt8)) rfl (gc (zau (sr (qm (.row 1 zit a0) rfl (gq (op_bytesS rfl (by kernel_rfl) rfl ?_)))))))))
 obtain⟨y1,a,h⟩:=zac h
 refine gq (zai (m_value_Valid_ok _ _ a) func134 (by kernel_rfl) (lc lf ln) (gq (zgf rfl (gc (kb (p:= !y1) rfl h (λ hc h=> ?_) (λ hc h=> ?_))))))
 .refine sr (qa (.xs ([]:List UInt8)) rfl (gc (zax (zaz ?_))))
  obtain rfl:=oi h
  refine ke (pt AF0 2 (.xs ([]:List UInt8))) [] rfl (s1 rfl) ⟨rfl,rfl⟩
 .refine zaq (zad (sr (qm (.row 1 zit a0) rfl (gq (op_bytesS rfl (by kernel_rfl) rfl (qa (.xs a0) rfl (gc (zax ?_))))))))
  obtain rfl:=oi h
  refine ke (pt AF0 2 (.xs a0)) [] rfl (s1 rfl) ⟨rfl,rfl⟩
end
noncomputable section
open Go.RowKit
attribute [local irreducible] AV.exact AV.top AV.row AV.ptr AV.agg AV.tup AV.eptr AV.fn AV.nilq AV.nilqn opA opB opM opR Quiet Loud Reads wpG awp den Sub SubU Pure Fun vecI vecT boxI CellsAll CellsOf OneC LEs LEss
set_option maxRecDepth 100000
set_option maxHeartbeats 4000000
theorem m_value_compound_ok (a0:Int) (a1:List (List UInt8)) (r:(List UInt8)) (h:zlt a0 a1=some r):Pure Tryz.prog 123 [(.exact (.int .i64 a0)),(.row 1 zaa a1)] (.exact (.string (bs r))):=by
 unfold zlt at h
 refine Pure.ofFun (zan func123 rfl ntmps123 (by simp) rfl (res1 rfl) λ E hE=>zca (sr (qa (.xs ([]:List UInt8)) rfl (gc (zau (sr (qm (.row 1 zaa a1) rfl (gq (zaw (by kernel_rfl) rfl (gq (zlh rfl rfl (gc (kd (p:=65535<(List.length a1:Int)) rfl h (λ hc h=> ?_) (λ hc h=> ?_))))))))))))))
 .refine sr (qa (.xs ([]:List UInt8)) rfl (gc (zax (zaz ?_))))
  obtain rfl:=oi h
  refine ke (pt AF0 4 (.xs ([]:List UInt8))) [] rfl (s1 rfl) ⟨rfl,rfl⟩
 .refine zaq (zad (sr (qm (.xi a0) rfl (gq (zbz (k:= .u8) (r:=(UInt8.toNat (u8i a0):Int)) (by kernel_rfl) rfl (u8i_eq _) (G_l rfl (op_litI (n:=1) (enc:=zit) [u8i a0] (by kernel_rfl) (CellsAll.cons rfl CellsOf.int CellsAll.nil) rfl (by kernel_rfl) (LEss.cons (lc lf ln) LEss.nil) (λ v1=>qm (.row 1 zaa a1) rfl (gq (zaw (by kernel_rfl) rfl (gq (zbz (k:= .u16) (by kernel_rfl) rfl rfl ?_))))))))))))
  obtain⟨y2,f,h⟩:=zac h
  refine G_l rfl (op_fun_1_1_1 (m_value_append16_ok _ _ _ f) func165 (by kernel_rfl) (lc lf (lc lf ln)) (λ v3=>qa (.exact v3) rfl (gc (zdl h (λ(e:List UInt8) (v5_j4:Value)=>(pt (pt AF0 1 (.row 1 zaa a1)) 5 (.exact v5_j4))) (λ(e:List UInt8) (v5_j4:Value)=>[vecT Tryz.prog 80 1 zit v5_j4 e]) (λ k4 h=> ?_) (λ e v5_j4 h=> ?_)))))
  .refine sr (qm (.row 1 zaa a1) rfl (gq (zaw (by kernel_rfl) rfl (qm (.xi 0) rfl (gc (zas (zei (zgh a1 k4) (zkw a1 k4) (λ _ _=>rfl) (λ m _ _=>rfl) h (λ(c:List UInt8) (b:Int) (v5_l2:Value)=>(pt (pt (pt (pt (pt AF0 1 (.row 1 zaa a1)) 5 (.exact v5_l2)) 18 (.row 1 zaa a1)) 19 (.xi (List.length a1:Int))) 20 (.xi b))) (λ(c:List UInt8) (b:Int) (v5_l2:Value)=>[vecT Tryz.prog 80 1 zit v5_l2 c]) v3 ?_ (λ l c b v5_l2 h=> ?_))))))))
   .exact so (l4 rfl rfl rfl rfl (lq rfl lt0))
   .unfold zkw at h
    refine sr (gq (zby rfl rfl (gc (zau (kd (p:=b<(List.length a1:Int)) rfl h (λ hc h=> ?_) (λ hc h=> ?_))))))
    .refine zaq (zad (zau (zas (sr ?_))))
     obtain⟨n78,h⟩:=zag h
     refine gq (zaj (by kernel_rfl) rfl rfl n78.1 n78.2 (gq (zap (a:= .xs (gi a1 b)) (by kernel_rfl) rfl rfl (qa (.xs (gi a1 b)) rfl (gc (zau (zbb h (λ(d:Bool)=>(pt (pt (pt (pt (pt (pt (pt AF0 1 (.row 1 zaa a1)) 5 (.exact v5_l2)) 7 (.xs (gi a1 b))) 18 (.row 1 zaa a1)) 19 (.xi (List.length a1:Int))) 20 (.xi b)) 33 (.xb d))) (λ(d:Bool)=>[vecT Tryz.prog 80 1 zit v5_l2 c]) (λ k81 h=> ?_) (λ d h=> ?_))))))))
     .refine kr (qm (.xs (gi a1 b)) rfl (gq (op_eqlS rfl rfl (qm (.xb (decide ((gi a1 b)=([]:List UInt8)))) rfl (zcm (p:=(gi a1 b)=([]:List UInt8)) 26 rfl (λ hc=> ?_) (λ hc=> ?_))))))
      .replace h:=zdb h hc
       refine gn (gn (gn (gn (gn (gn (gq (zat rfl (av:= .xb true) rfl (zay (zab ⟨_,h,so (l4 rfl rfl rfl rfl (lq rfl (lq rfl (lq rfl lt0))))⟩)))))))))
      .replace h:=zdc h hc
       refine gy (zae (av:= .exact v5_l2) rfl (Gy_r rfl rfl rfl (zeg (by kernel_rfl) rfl (gy (zae (av:= .xs (gi a1 b)) rfl (gy (op_lenS (by kernel_rfl) rfl (gy (zbx rfl rfl rfl (gy (zlh rfl rfl (gq (zao rfl (av:= .xb (decide (131072<(i64 ((List.length c:Int)+(List.length (gi a1 b):Int)))))) rfl (zay (zab ⟨_,h,so (l4 rfl rfl rfl rfl (lq rfl (lq rfl (lq rfl lt0))))⟩)))))))))))))))
     .refine kb (p:=d) rfl h (λ hc h=> ?_) (λ hc h=> ?_)
      .refine sr (qa (.xs ([]:List UInt8)) rfl (gc (zax (zaz (zbe (zaz (zbr (zbe (zbr ?_)))))))))
       obtain rfl:=oi h
       refine ke (pt AF0 4 (.xs ([]:List UInt8))) [] rfl (Sub.trans (SubU.to SubU.drop) (s1 rfl)) ⟨rfl,rfl⟩
      .refine zaq (zad (kr (qm (.exact v5_l2) rfl (qm (.xs (gi a1 b)) rfl ?_))))
       obtain⟨n82,h⟩:=zag h
       refine G_l rfl (op_appTS (λ _=>rfl) (by kernel_rfl) (by kernel_rfl) (by kernel_rfl) (by kernel_rfl) rfl rfl n82 (λ v83=>qa (.exact v83) rfl (zay (zar (zad (kr (gq (zbx rfl rfl rfl (qm (.xi (i64 (b+1))) rfl (zay (zab ⟨_,_,v83,h,so (l4 rfl rfl rfl rfl (lq rfl lt0))⟩)))))))))))
    .refine zcl (zbo (zbu (zbn (zab ⟨_,v5_l2,h,s2 rfl rfl⟩))))
  .refine zau (sr (qm (.row 1 zaa a1) rfl ?_))
   obtain⟨y84,g,h⟩:=zac h
   refine gq (zai (znf _ _ _ g) func166 (by kernel_rfl) (lc lf (lc ((fn_le func167 (by kernel_rfl) (λ i r h=>m_value_compound_1_ok i r h))) ln)) (gq (zgf rfl (gc (kb (p:= !y84) rfl h (λ hc h=> ?_) (λ hc h=> ?_))))))
   .refine sr (qm (.exact v5_j4) rfl (G_sub rfl (SubU.freezeT2 (s1:=5) (s2:=41) rfl rfl len_c_uint8) ?_))
    obtain⟨y85,j,h⟩:=zac h
    refine gq (zai (m_value_checked_ok _ _ j) func168 (by kernel_rfl) (lc lf ln) (qa (.xs y85) rfl (gc (zax (zaz ?_)))))
    obtain rfl:=oi h
    refine ke (pt AF0 4 (.xs y85)) [] rfl (s1 rfl) ⟨rfl,rfl⟩
   .refine zaq (zad (sr (qa (.xs ([]:List UInt8)) rfl (gc (zax ?_)))))
    obtain rfl:=oi h
    refine ke (pt AF0 4 (.xs ([]:List UInt8))) [] rfl (Sub.trans (SubU.to SubU.drop) (s1 rfl)) ⟨rfl,rfl⟩
theorem m_value_Proc_ok (a0:Int) (a1:List (List UInt8)) (r:(List UInt8)) (h:m_value_Proc a0 a1=some r):Pure Tryz.prog 83 [(.exact (.int .i64 a0)),(.row 1 zaa a1)] (.exact (.string (bs r))):=by
 unfold m_value_Proc at h
 refine Pure.ofFun (zan func83 rfl ntmps83 (by simp) rfl (res1 rfl) λ E hE=>zca (sr (qa (.xs ([]:List UInt8)) rfl (gd (qm (.xi a0) rfl ?_)))))
 obtain⟨y1,a,h⟩:=zac h
 refine gq (zai (m_value_Int_ok _ _ a) func80 (by kernel_rfl) (lc lf ln) (G_l rfl (op_litI (n:=1) (enc:=zaa) [y1] (by kernel_rfl) (CellsAll.cons rfl CellsOf.str CellsAll.nil) rfl (by kernel_rfl) (LEss.cons (lc lf ln) LEss.nil) (λ v2=>qm (.row 1 zaa a1) rfl ?_))))
 obtain⟨n3,h⟩:=zag h
 refine G_l rfl (zeb (by kernel_rfl) rfl rfl zcr n3 (λ v4=>G_sub rfl (SubU.freezeT (s:=9) rfl zbd) ?_))
 obtain⟨y5,b,h⟩:=zac h
 refine gq (zai (m_value_compound_ok _ _ _ b) func123 (by kernel_rfl) (lc lf (lc lf ln)) (qa (.xs y5) rfl (gc (zax ?_))))
 obtain rfl:=oi h
 refine ke (pt AF0 4 (.xs y5)) [] rfl (s1 rfl) ⟨rfl,rfl⟩
theorem zmg (a0:Int) (a1:List (List UInt8)) (r:(List UInt8)) (h:zfi a0 a1=some r):Pure Tryz.prog 38 [(.exact (.int .i64 a0)),(.row 1 zaa a1)] (.exact (.string (bs r))):=by
 unfold zfi at h
 refine Pure.ofFun (zan func38 rfl ntmps38 (by simp) rfl (res1 rfl) λ E hE=>zca (sr (qa (.xs ([]:List UInt8)) rfl (gd (qm (.xi a0) rfl (qm (.row 1 zaa a1) rfl ?_))))))
 obtain⟨y1,a,h⟩:=zac h
 refine gq (zai (m_value_Proc_ok _ _ _ a) func83 (by kernel_rfl) (lc lf (lc lf ln)) (qa (.xs y1) rfl (gc (zau (sr (qm (.xs y1) rfl ?_))))))
 obtain⟨y2,b,h⟩:=zac h
 refine gq (zai (zly _ _ b) func60 (by kernel_rfl) (lc lf ln) (gq (zgf rfl (gc (kb (p:= !y2) rfl h (λ hc h=> ?_) (λ hc h=> ?_))))))
 .refine sr (qa (.xs ([]:List UInt8)) rfl (gc (zax (zaz ?_))))
  obtain rfl:=oi h
  refine ke (pt AF0 4 (.xs ([]:List UInt8))) [] rfl (s1 rfl) ⟨rfl,rfl⟩
 .refine zaq (zad (sr (qm (.xs y1) rfl (qa (.xs y1) rfl (gc (zax ?_))))))
  obtain rfl:=oi h
  refine ke (pt AF0 4 (.xs y1)) [] rfl (s1 rfl) ⟨rfl,rfl⟩
theorem m_procterm_Stop_ok  (r:(List UInt8)) (h:zjb=some r):Pure Tryz.prog 10 [] (.exact (.string (bs r))):=by
 unfold zjb at h
 refine Pure.ofFun (zan func10 rfl ntmps10 (by simp) rfl (res1 rfl) λ E hE=>zca (sr (qa (.xs ([]:List UInt8)) rfl (gd ?_))))
 obtain⟨y1,a,h⟩:=zac h
 refine gq (zai (zmg _ _ _ a) func38 (by kernel_rfl) (lc lf (lc (zep (by decide)) ln)) (qa (.xs y1) rfl (gc (zax ?_))))
 obtain rfl:=oi h
 refine ke (pt AF0 0 (.xs y1)) [] rfl (s1 rfl) ⟨rfl,rfl⟩
theorem m_slices_Clone_L_api_Offer_api_Offer_ok (a0:List (Int×(List UInt8))) (r:(List (Int×(List UInt8)))) (h:zdo a0=some r):Fun Tryz.prog 76 [(.row 2 zam a0)] [] (λ a s=> ∃z0,a= .exact z0/\s=[vecT Tryz.prog 27 2 zam z0 r]):=by
 unfold zdo at h
 refine zan func76 rfl ntmps76 (by simp) rfl (res1 rfl) λ E hE=>zca (sr (qa (.exact (.slice none 0 0)) rfl (gc (zau (sr (qm (.row 2 zam a0) rfl (gq (op_eqnil_row (by kernel_rfl) rfl (gc ?_)))))))))
 obtain⟨h1,h⟩:=nilc_some h
 refine k_cond_u (p:=a0=[]) rfl (λ hc=> ?_) ?_
 .replace h:=h1 hc
  refine sr (qa (.exact (.slice none 0 0)) rfl (gc (zax (zaz ?_))))
  obtain rfl:=oi h
  refine ke (pt AF0 2 (.exact (.slice none 0 0))) [vecT Tryz.prog 27 2 zam (.slice none 0 0) []] rfl (Sub.trans (SubU.to (SubU.nilT (P:=Tryz.prog) (t:=27) (n:=2) (enc:=zam))) (s1 rfl)) ⟨(.slice none 0 0),rfl,rfl⟩
 .refine zaq (zad (sr (G_l rfl (op_lit0I (enc:=zam) (n:=2) (by kernel_rfl) (λ v1=>qm (.row 2 zam a0) rfl ?_)))))
  obtain⟨n2,h⟩:=zag h
  refine G_l rfl (zeb (by kernel_rfl) rfl rfl zfm n2 (λ v3=>qa (.exact v3) rfl (gc (zax ?_))))
  obtain rfl:=oi h
  refine ke (pt AF0 2 (.exact v3)) [vecT Tryz.prog 27 2 zam v3 (([]:List (Int×(List UInt8)))++a0)] rfl (s1 rfl) ⟨v3,rfl,rfl⟩
theorem m_slices_Compact_L_api_Offer_api_Offer_ok {w0:Value} (a0:List (Int×(List UInt8))) (r:(List (Int×(List UInt8)))) (h:zdh a0=some r):Fun Tryz.prog 79 [(.exact w0)] [vecT Tryz.prog 27 2 zam w0 a0] (λ a s=>a= .row 2 zam r/\s=[]):=by
 unfold zdh at h
 refine zan func79 rfl ntmps79 (by simp) rfl (res1 rfl) λ E hE=>zca (sr (qa (.exact (.slice none 0 0)) rfl (gc (zau (sr (qm (.exact w0) rfl (G_r rfl (zeg (by kernel_rfl) rfl (gq (zby rfl rfl (gc (kd (p:=(List.length a0:Int)<2) rfl h (λ hc h=> ?_) (λ hc h=> ?_)))))))))))))
 .refine sr (qm (.exact w0) rfl (qa (.exact w0) rfl (gc (zax (zaz ?_)))))
  obtain rfl:=oi h
  refine ke (pt AF0 2 (.row 2 zam a0)) [] rfl (Sub.trans (SubU.to (SubU.freezeT (s:=2) rfl zbw)) (s1 rfl)) ⟨rfl,rfl⟩
 .refine zaq (zad (zdq h ((pt AF0 0 (.exact w0))) ([vecT Tryz.prog 27 2 zam w0 a0]) (λ k1 h=> ?_) (λ  h=> ?_)))
  .refine sr (qa (.xi 1) rfl (gc (zas (zen (zcj a0 k1) (zcv a0 k1) (λ _=>rfl) (λ m _=>rfl) h (λ(c:Int)=>(pt (pt AF0 0 (.exact w0)) 3 (.xi c))) (λ(c:Int)=>[vecT Tryz.prog 27 2 zam w0 a0]) ?_ (λ q c h=> ?_)))))
   .exact s2 rfl rfl
   .unfold zcv at h
    refine zau (sr (qm (.xi c) rfl (qm (.exact w0) rfl (G_r rfl (zeg (by kernel_rfl) rfl (gq (zby rfl rfl (gc (kd (p:=c<(List.length a0:Int)) rfl h (λ hc h=> ?_) (λ hc h=> ?_))))))))))
    .refine zaq (zad (zdq h ((pt (pt AF0 0 (.exact w0)) 3 (.xi c))) ([vecT Tryz.prog 27 2 zam w0 a0]) (λ k628 h=> ?_) (λ  h=> ?_)))
     .refine zas (zau (zdy [] [(0,0),(0,1),(0,4),(0,5),(0,6),(1,2),(1,3),(1,7),(1,8),(0,9)] hmixP (by kernel_rfl) (pq rfl (zae (av:= .exact w0) rfl (pq rfl (zae (av:= .xi c) rfl (pq rfl (zae (av:= .exact w0) rfl (pq rfl (zae (av:= .xi c) rfl (pq rfl (zfo rfl rfl rfl ?_))))))))))))
      obtain⟨n691,h⟩:=zag h
      refine P_r rfl (zce (by kernel_rfl) rfl rfl n691.1 n691.2 (P_r rfl (op_load_vecN (i:=c) (o:=0) (m:=2) (c':=zam (gi a0 c)) (by kernel_rfl) zbw rfl n691.1 n691.2 rfl rfl ?_)))
      obtain⟨n692,h⟩:=zag h
      refine P_r rfl (zce (by kernel_rfl) rfl rfl n692.1 n692.2 (P_r rfl (op_load_vecN (i:=i64 (c - 1)) (o:=0) (m:=2) (c':=zam (gi a0 (i64 (c - 1)))) (by kernel_rfl) zbw rfl n692.1 n692.2 rfl rfl (pq rfl (op_eqlA (a:=(gi a0 c)) (b:=(gi a0 (i64 (c - 1)))) (by kernel_rfl) (eq_c_api_Offer _ _) rfl rfl (zdu (zad (kd (p:=(gi a0 c)=(gi a0 (i64 (c - 1)))) rfl h (λ hc h=> ?_) (λ hc h=> ?_)))))))))
      .refine sr (qm (.exact w0) rfl (qm (.xi c) rfl ?_))
       obtain⟨n693,h⟩:=zag h
       refine G_r rfl (zhr (by kernel_rfl) rfl (zef rfl) zel n693.1 n693.2.1 n693.2.2 (qa (.vsub w0 2 (Int.toNat c) (Int.toNat (List.length a0:Int) - Int.toNat c)) rfl (gc (k_join2_0 h (λ(g:List (Int×(List UInt8))) (e:Int)=>(pt (pt AF0 0 (.exact w0)) 3 (.xi e))) (λ(g:List (Int×(List UInt8))) (e:Int)=>[vecT Tryz.prog 27 2 zam w0 g]) (λ k694 h=> ?_) (λ g e h=> ?_)))))
       .refine sr (qa (.xi 1) rfl (gc (zas (k_loop3_0 (zci a0 c k694) (zcw a0 c k694) (λ _ _ _=>rfl) (λ m _ _ _=>rfl) h (λ(f:List (Int×(List UInt8))) (k:Int) (d:Int)=>(pt (pt (pt (pt AF0 0 (.exact w0)) 3 (.xi k)) 4 (.vsub w0 2 (Int.toNat c) (Int.toNat (List.length a0:Int) - Int.toNat c))) 5 (.xi d))) (λ(f:List (Int×(List UInt8))) (k:Int) (d:Int)=>[vecT Tryz.prog 27 2 zam w0 f]) ?_ (λ t f k d h=> ?_)))))
        .exact s4 rfl rfl rfl rfl
        .unfold zcw at h
         refine zau (sr (qm (.xi d) rfl (qm (.vsub w0 2 (Int.toNat c) (Int.toNat (List.length a0:Int) - Int.toNat c)) rfl (gq (op_len_vsub (by kernel_rfl) rfl (gq (zby rfl rfl (gc (kd (p:=d<((Int.toNat (List.length a0:Int) - Int.toNat c:Nat):Int)) rfl h (λ hc h=> ?_) (λ hc h=> ?_))))))))))
         .refine zaq (zad (k_join2_0 h (λ(l:List (Int×(List UInt8))) (n:Int)=>(pt (pt (pt (pt AF0 0 (.exact w0)) 3 (.xi n)) 4 (.vsub w0 2 (Int.toNat c) (Int.toNat (List.length a0:Int) - Int.toNat c))) 5 (.xi d))) (λ(l:List (Int×(List UInt8))) (n:Int)=>[vecT Tryz.prog 27 2 zam w0 l]) (λ k741 h=> ?_) (λ l n h=> ?_)))
          .refine zas (zau (zdy [] [(0,0),(0,1),(0,4),(0,5),(0,6),(1,2),(1,3),(1,7),(1,8),(0,9)] hmixP (by kernel_rfl) (pq rfl (zae (av:= .vsub w0 2 (Int.toNat c) (Int.toNat (List.length a0:Int) - Int.toNat c)) rfl (pq rfl (zae (av:= .xi d) rfl (pq rfl (zae (av:= .vsub w0 2 (Int.toNat c) (Int.toNat (List.length a0:Int) - Int.toNat c)) rfl (pq rfl (zae (av:= .xi d) rfl (pq rfl (zfo rfl rfl rfl ?_))))))))))))
           obtain⟨n746,h⟩:=zag h
           refine P_r rfl (zko (j:=(c+d)) (by kernel_rfl) rfl rfl n746.2.1 (by have hh:=n746;try simp only[i64]at *;omega) (by have hh:=n746;try simp only[i64]at *;omega) (by have hh:=n746;try simp only[i64]at *;omega) (P_r rfl (op_load_vecN (i:=(c+d)) (o:=0) (m:=2) (c':=zam (gi f (c+d))) (by kernel_rfl) zbw rfl n746.2.2.2.1 n746.2.2.2.2 rfl rfl ?_)))
           obtain⟨n747,h⟩:=zag h
           refine P_r rfl (zko (j:=(c+(i64 (d - 1)))) (by kernel_rfl) rfl rfl n747.2.1 (by have hh:=n747;try simp only[i64]at *;omega) (by have hh:=n747;try simp only[i64]at *;omega) (by have hh:=n747;try simp only[i64]at *;omega) (P_r rfl (op_load_vecN (i:=(c+(i64 (d - 1)))) (o:=0) (m:=2) (c':=zam (gi f (c+(i64 (d - 1))))) (by kernel_rfl) zbw rfl n747.2.2.2.1 n747.2.2.2.2 rfl rfl (pq rfl (op_neqA (a:=(gi f (c+d))) (b:=(gi f (c+(i64 (d - 1))))) (by kernel_rfl) (eq_c_api_Offer _ _) rfl rfl (zdu (zad (kd (p:= ¬(gi f (c+d))=(gi f (c+(i64 (d - 1))))) rfl h (λ hc h=> ?_) (λ hc h=> ?_)))))))))
           .refine sr (qm (.exact w0) rfl (qm (.xi k) rfl (qm (.vsub w0 2 (Int.toNat c) (Int.toNat (List.length a0:Int) - Int.toNat c)) rfl (qm (.xi d) rfl ?_))))
            obtain⟨n748,h⟩:=zag h
            refine G_r rfl (zko (j:=(c+d)) (by kernel_rfl) rfl rfl n748.2.1 (by have hh:=n748;try simp only[i64]at *;omega) (by have hh:=n748;try simp only[i64]at *;omega) (by have hh:=n748;try simp only[i64]at *;omega) (G_r rfl (op_load_vecN (i:=(c+d)) (o:=0) (m:=2) (c':=zam (gi f (c+d))) (by kernel_rfl) zbw rfl n748.2.2.2.1 n748.2.2.2.2 rfl rfl ?_)))
            obtain⟨n749,h⟩:=zag h
            refine G_r rfl (zce (by kernel_rfl) rfl rfl n749.1 n749.2 (G_l rfl (zjl (i:=k) (o:=0) (z:=gi f (c+d)) (c':=[.xi ((gi f (c+d)).1), .xs ((gi f (c+d)).2)]) (by kernel_rfl) zbw rfl n749.1 n749.2 rfl CellsOf.agg (lc lf (lc lf ln)) (zfm _) (by kernel_rfl) (Nat.le_of_ble_eq_true rfl) rfl (gc (kr (qm (.xi k) rfl (gq (zbx rfl rfl rfl (qa (.xi (i64 (k+1))) rfl (zay (zar (zab ⟨_,_,h,s4 rfl rfl rfl rfl⟩))))))))))))
           .refine zaq (zar (zab ⟨_,_,h,s4 rfl rfl rfl rfl⟩))
          .refine kr (qm (.xi d) rfl (gq (zbx rfl rfl rfl (qa (.xi (i64 (d+1))) rfl (zay (zab ⟨_,_,_,h,s4 rfl rfl rfl rfl⟩))))))
         .refine zcl (zbo (zbu (zbn (zab ⟨_,_,h,s2 rfl rfl⟩))))
       .refine sr (qm (.exact w0) rfl (qm (.xi e) rfl ?_))
        obtain⟨n750,h⟩:=zag h
        refine G_r rfl (zhr (by kernel_rfl) rfl (zef rfl) zel n750.1 n750.2.1 n750.2.2 (G_l rfl (op_clear (zr:=(0,[])) (by kernel_rfl) zbw zfm rfl (by have:=n750;omega) zeroValue34 (λ _ _=>(Fit.ex (Fit.ex Fit.nil0))) (gd (qm (.exact w0) rfl (qm (.xi e) rfl (G_sub rfl (SubU.freezeT3 (s1:=0) (s2:=54) (s3:=57) rfl rfl rfl zbw) ?_)))))))
        obtain⟨n751,h⟩:=zag h
        refine gq (op_slice_rowt (by kernel_rfl) rfl zel (zef rfl) (Int.le_refl 0) n751.1 n751.2 (qa (.row 2 zam (List.take (Int.toNat e) (List.take (Int.toNat e) g++List.replicate (Int.toNat (List.length g:Int) - Int.toNat e) ((0,[]):Int×(List UInt8))++List.drop (Int.toNat e+(Int.toNat (List.length g:Int) - Int.toNat e)) g))) rfl (gc (zax (zbe (zbr (zbr (zbe (zbr ?_)))))))))
        obtain rfl:=oi h
        refine ke (pt AF0 2 (.row 2 zam (List.take (Int.toNat e) (List.take (Int.toNat e) g++List.replicate (Int.toNat (List.length g:Int) - Int.toNat e) ((0,[]):Int×(List UInt8))++List.drop (Int.toNat e+(Int.toNat (List.length g:Int) - Int.toNat e)) g)))) [] rfl (s1 rfl) ⟨rfl,rfl⟩
      .refine zaq (zar (zab ⟨h,s2 rfl rfl⟩))
     .refine kr (qm (.xi c) rfl (gq (zbx rfl rfl rfl (qa (.xi (i64 (c+1))) rfl (zay (zab ⟨_,h,s2 rfl rfl⟩))))))
    .refine zcl (zbo (zbu (zbn (zab ⟨h,s1 rfl⟩))))
  .refine sr (qm (.exact w0) rfl (qa (.exact w0) rfl (gc (zax ?_))))
   obtain rfl:=oi h
   refine ke (pt AF0 2 (.row 2 zam a0)) [] rfl (Sub.trans (SubU.to (SubU.freezeT (s:=2) rfl zbw)) (s1 rfl)) ⟨rfl,rfl⟩
theorem m_procterm_Prefix_ok (a0:List (Int×(List UInt8))) (r:(List UInt8)) (h:zfr a0=some r):Pure Tryz.prog 33 [(.row 2 zam a0)] (.exact (.string (bs r))):=by
 unfold zfr at h
 refine Pure.ofFun (zan func33 rfl ntmps33 (by simp) rfl (res1 rfl) λ E hE=>zca (sr (qa (.xs ([]:List UInt8)) rfl (gc (zau (sr (qm (.row 2 zam a0) rfl (gq (zaw (by kernel_rfl) rfl (gq (zbi rfl rfl (gc (kd (p:=(List.length a0:Int)=0) rfl h (λ hc h=> ?_) (λ hc h=> ?_))))))))))))))
 .refine sr ?_
  obtain⟨y1,f,h⟩:=zac h
  refine gq (zai (m_procterm_Stop_ok _ f) func10 (by kernel_rfl) ln (qa (.xs y1) rfl (gc (zax (zaz ?_)))))
  obtain rfl:=oi h
  refine ke (pt AF0 2 (.xs y1)) [] rfl (s1 rfl) ⟨rfl,rfl⟩
 .refine zaq (zad (sr (qm (.row 2 zam a0) rfl ?_)))
  obtain⟨y2,g,h⟩:=zac h
  refine G_l rfl (zms (m_slices_Clone_L_api_Offer_api_Offer_ok _ _ g) func76 (by kernel_rfl) (lc lf ln) (λ v3=>qa (.exact v3) rfl (gd (qm (.exact v3) rfl ?_))))
  obtain⟨y4,i,h⟩:=zac h
  refine G_l rfl (zbc (m_sort_api_Offer_ok m_procterm_compareOffers_ok _ _ i) func77 (by kernel_rfl) (lc lf (lc lf ln)) (gd (qa (.exact (.slice none 0 0)) rfl (gc (zdl h (λ(d:List (List UInt8)) (v3_j5:Value)=>(pt AF0 3 (.exact v3_j5))) (λ(d:List (List UInt8)) (v3_j5:Value)=>[vecT Tryz.prog 26 1 zaa v3_j5 d]) (λ k5 h=> ?_) (λ d v3_j5 h=> ?_))))))
  .refine sr (qm (.exact v3) rfl ?_)
   obtain⟨y23,j,h⟩:=zac h
   refine G_l rfl (op_fun_1_0_0 (m_slices_Compact_L_api_Offer_api_Offer_ok _ _ j) func79 (by kernel_rfl) (lc lf ln) (gq (zaw (by kernel_rfl) rfl (qm (.xi 0) rfl (gc (zas (zei (zfv k5 y23) (zkc k5 y23) (λ _ _=>rfl) (λ m _ _=>rfl) h (λ(e:List (List UInt8)) (b:Int) (v3_l2:Value)=>(pt (pt (pt (pt AF0 3 (.exact v3_l2)) 15 (.row 2 zam y23)) 16 (.xi (List.length y23:Int))) 17 (.xi b))) (λ(e:List (List UInt8)) (b:Int) (v3_l2:Value)=>[vecT Tryz.prog 26 1 zaa v3_l2 e]) (.slice none 0 0) ?_ (λ q e b v3_l2 h=> ?_))))))))
   .refine Sub.trans (SubU.to (SubU.nilT (P:=Tryz.prog) (t:=26) (n:=1) (enc:=zaa))) (s4 rfl rfl rfl rfl)
   .unfold zkc at h
    refine sr (gq (zby rfl rfl (gc (zau (kd (p:=b<(List.length y23:Int)) rfl h (λ hc h=> ?_) (λ hc h=> ?_))))))
    .refine zaq (zad (zau (zas (sr ?_))))
     obtain⟨n34,h⟩:=zag h
     refine gq (zaj (by kernel_rfl) rfl rfl n34.1 n34.2 (gq (zke (m:=2) (c':=zam (gi y23 b)) (by kernel_rfl) rfl rfl rfl (G_l rfl (op_alloc (c:=[.xi (((0,[]):Int×(List UInt8)).1), .xs (((0,[]):Int×(List UInt8)).2)]) rfl (lc lf (lc lf ln)) (λ b35=>G_l rfl (op_store_box (c':=[.xi ((gi y23 b).1), .xs ((gi y23 b).2)]) (c3:=[.xi ((gi y23 b).1), .xs ((gi y23 b).2)]) rfl rfl CellsOf.agg (lc lf (lc lf ln)) (zfm _) (by kernel_rfl) (Nat.le_of_ble_eq_true rfl) rfl (gc (zdy [] [(0,0),(0,1),(0,4),(1,2),(0,3),(1,5),(0,6),(2,7),(0,8)] hmixP (by kernel_rfl) (pq rfl (zae (av:= .exact v3_l2) rfl (pq rfl (zeq (o:=0) (by kernel_rfl) rfl (pq rfl (zeq (o:=1) (by kernel_rfl) rfl (P_r rfl (zer (a:= .xi ((gi y23 b).1)) (by kernel_rfl) rfl rfl ?_)))))))))))))))))
     obtain⟨y36,k,h⟩:=zac h
     refine pq rfl (zai (m_value_Int_ok _ _ k) func80 (by kernel_rfl) (lc lf ln) (P_r rfl (zer (a:= .xs ((gi y23 b).2)) (by kernel_rfl) rfl rfl (pq rfl (zcf (n:=1) (enc:=zaa) [y36,(gi y23 b).2] (CellsAll.cons rfl CellsOf.str (CellsAll.cons rfl CellsOf.str CellsAll.nil)) rfl (by kernel_rfl) (LEss.cons (lc lf ln) (LEss.cons (lc lf ln) LEss.nil)) ?_)))))
     obtain⟨n37,h⟩:=zag h
     refine P_l rfl (opB_f1 (zeb (by kernel_rfl) rfl rfl zcr n37 (λ v38=>pq rfl (zba (av:= .exact v38) rfl (zdu (zar (zad (kr (gq (zbx rfl rfl rfl (qm (.xi (i64 (b+1))) rfl (zay (zab ⟨_,_,v38,h, ?_⟩)))))))))))))
     refine Sub.trans (SubU.to SubU.f1) (Sub.trans (SubU.to SubU.drop) (s4 rfl rfl rfl rfl))
    .refine zcl (zbo (zbu (zbn (zab ⟨_,v3_l2,h,s1 rfl⟩))))
  .refine sr (qm (.exact v3_j5) rfl (G_sub rfl (SubU.freezeT2 (s1:=3) (s2:=30) rfl rfl zbd) ?_))
   obtain⟨y39,l,h⟩:=zac h
   refine gq (zai (zmg _ _ _ l) func38 (by kernel_rfl) (lc lf (lc lf ln)) (qa (.xs y39) rfl (gc (zax ?_))))
   obtain rfl:=oi h
   refine ke (pt AF0 2 (.xs y39)) [] rfl (s1 rfl) ⟨rfl,rfl⟩
theorem zjg (a0:List (List UInt8)) (r:(List (List UInt8))) (h:zcz a0=some r):Fun Tryz.prog 62 [(.row 1 zaa a0)] [] (λ a s=> ∃z0,a= .exact z0/\s=[vecT Tryz.prog 26 1 zaa z0 r]):=by
 unfold zcz at h
 refine zan func62 rfl ntmps62 (by simp) rfl (res1 rfl) λ E hE=>zca (sr (qa (.exact (.slice none 0 0)) rfl (gc (zau (sr (qm (.row 1 zaa a0) rfl (gq (op_eqnil_row (by kernel_rfl) rfl (gc ?_)))))))))
 obtain⟨h1,h⟩:=nilc_some h
 refine k_cond_u (p:=a0=[]) rfl (λ hc=> ?_) ?_
 .replace h:=h1 hc
  refine sr (qa (.exact (.slice none 0 0)) rfl (gc (zax (zaz ?_))))
  obtain rfl:=oi h
  refine ke (pt AF0 2 (.exact (.slice none 0 0))) [vecT Tryz.prog 26 1 zaa (.slice none 0 0) []] rfl (Sub.trans (SubU.to (SubU.nilT (P:=Tryz.prog) (t:=26) (n:=1) (enc:=zaa))) (s1 rfl)) ⟨(.slice none 0 0),rfl,rfl⟩
 .refine zaq (zad (sr (G_l rfl (op_lit0I (enc:=zaa) (n:=1) (by kernel_rfl) (λ v1=>qm (.row 1 zaa a0) rfl ?_)))))
  obtain⟨n2,h⟩:=zag h
  refine G_l rfl (zeb (by kernel_rfl) rfl rfl zcr n2 (λ v3=>qa (.exact v3) rfl (gc (zax ?_))))
  obtain rfl:=oi h
  refine ke (pt AF0 2 (.exact v3)) [vecT Tryz.prog 26 1 zaa v3 (([]:List (List UInt8))++a0)] rfl (s1 rfl) ⟨v3,rfl,rfl⟩
theorem m_procterm_Replace_F_ok (e:(List UInt8)->(List (List UInt8))->Option (List UInt8)) (hself_procterm_Replace: ∀(a0:List UInt8) (a1:List (List UInt8)) (r:(List UInt8)),e a0 a1=some r->Pure Tryz.prog 23 [(.exact (.string (bs a0))),(.row 1 zaa a1)] (.exact (.string (bs r)))) (a0:List UInt8) (a1:List (List UInt8)) (r:(List UInt8)) (h:zkf e a0 a1=some r):Pure Tryz.prog 23 [(.exact (.string (bs a0))),(.row 1 zaa a1)] (.exact (.string (bs r))):=by
 unfold zkf at h
 refine Pure.ofFun (zan func23 rfl ntmps23 (by simp) rfl (res1 rfl) λ E hE=>zca (sr (qa (.xs ([]:List UInt8)) rfl (gd (qm (.xs a0) rfl ?_)))))
 obtain⟨y1,n,h⟩:=zac h
 refine gq (zai (m_procterm_open_ok _ _ n) func58 (by kernel_rfl) (lc lf ln) (qm (.tup [.xi y1.1, .row 1 zaa y1.2]) rfl (gq (zbh (av:= .xi y1.1) rfl rfl (gq (zbh (av:= .row 1 zaa y1.2) rfl rfl (qa (.xi y1.1) rfl (qa (.row 1 zaa y1.2) rfl (gc (zdq h ((pt (pt (pt AF0 1 (.row 1 zaa a1)) 5 (.xi y1.1)) 6 (.row 1 zaa y1.2))) ([]) (λ k2 h=> ?_) (λ  h=> ?_)))))))))))
 .refine sr (qm (.xi y1.1) rfl (gc (zas (sr (gq (zbi rfl rfl (qa (.xb (decide (y1.1=0))) rfl (gc (kd (p:=y1.1=0) rfl h (λ hc h=> ?_) (λ hc h=> ?_))))))))))
  .refine sr (qa (.xs ([]:List UInt8)) rfl (gc (zax (zbe (zbr ?_)))))
   obtain rfl:=oi h
   refine ke (pt AF0 4 (.xs ([]:List UInt8))) [] rfl (s1 rfl) ⟨rfl,rfl⟩
  .refine sr (gq (zbi rfl rfl (qa (.xb (decide (y1.1=21))) rfl (gc (kd (p:=y1.1=21) rfl h (λ hc h=> ?_) (λ hc h=> ?_))))))
   .refine sr (qm (.row 1 zaa y1.2) rfl ?_)
    obtain⟨n41,h⟩:=zag h
    refine gq (zaj (by kernel_rfl) rfl rfl n41.1 n41.2 (gq (zap (a:= .xs (gi y1.2 0)) (by kernel_rfl) rfl rfl ?_)))
    obtain⟨y42,q,h⟩:=zac h
    refine gq (zai (zku _ _ q) func59 (by kernel_rfl) (lc lf ln) (qa (.xi y42) rfl (gc (zau (zbb h (λ(g:Bool)=>(pt (pt (pt AF0 1 (.row 1 zaa a1)) 7 (.xi y42)) 37 (.xb g))) (λ(g:Bool)=>[]) (λ k49 h=> ?_) (λ g h=> ?_))))))
    .refine kr (qm (.xi y42) rfl (qm (.row 1 zaa a1) rfl (gq (zaw (by kernel_rfl) rfl (gq (op_geq rfl rfl (qm (.xb (decide ((List.length a1:Int)≤y42))) rfl (zcm (p:=(List.length a1:Int)≤y42) 30 rfl (λ hc=> ?_) (λ hc=> ?_)))))))))
     .replace h:=zdb h hc
      refine gn (gn (gn (gn (gn (gn (gq (zat rfl (av:= .xb true) rfl (zay (zab ⟨_,h,s3 rfl rfl rfl⟩)))))))))
     .replace h:=zdc h hc
      refine gy (zae (av:= .row 1 zaa a1) rfl (gy (zae (av:= .xi y42) rfl ?_)))
      obtain⟨n52,h⟩:=zag h
      refine gy (zaj (by kernel_rfl) rfl rfl n52.1 n52.2 (gy (zap (a:= .xs (gi a1 y42)) (by kernel_rfl) rfl rfl ?_)))
      obtain⟨y53,t,h⟩:=zac h
      refine gy (zai (zly _ _ t) func60 (by kernel_rfl) (lc lf ln) (gy (zgf rfl (gq (zao rfl (av:= .xb (!y53)) rfl (zay (zab ⟨_,h,s3 rfl rfl rfl⟩)))))))
    .refine kb (p:=g) rfl h (λ hc h=> ?_) (λ hc h=> ?_)
     .refine sr (qa (.xs ([]:List UInt8)) rfl (gc (zax (zaz (zbe (zbr ?_))))))
      obtain rfl:=oi h
      refine ke (pt AF0 4 (.xs ([]:List UInt8))) [] rfl (s1 rfl) ⟨rfl,rfl⟩
     .refine zaq (zad (sr (qm (.row 1 zaa a1) rfl (qm (.xi y42) rfl ?_))))
      obtain⟨n54,h⟩:=zag h
      refine gq (zaj (by kernel_rfl) rfl rfl n54.1 n54.2 (gq (zap (a:= .xs (gi a1 y42)) (by kernel_rfl) rfl rfl (qa (.xs (gi a1 y42)) rfl (gc (zax (zbe (zbr ?_))))))))
      obtain rfl:=oi h
      refine ke (pt AF0 4 (.xs (gi a1 y42))) [] rfl (s1 rfl) ⟨rfl,rfl⟩
   .refine sr (gq (zbi rfl rfl (qa (.xb (decide (y1.1=6))) rfl (gc (kd (p:=y1.1=6) rfl h (λ hc h=> ?_) (λ hc h=> ?_))))))
    .refine sr (qm (.row 1 zaa y1.2) rfl ?_)
     obtain⟨y55,u,h⟩:=zac h
     refine G_l rfl (zms (m_procterm_pairUp_ok _ _ u) func61 (by kernel_rfl) (lc lf ln) (λ v56=>qa (.exact v56) rfl (gc (zbb h (λ(k:List (Int×(List UInt8)))=>(pt AF0 8 (.exact v56))) (λ(k:List (Int×(List UInt8)))=>[vecO Tryz.prog 27 2 zam v56 k]) (λ k57 h=> ?_) (λ k h=> ?_)))))
     .refine sr (qm (.exact v56) rfl (G_r rfl (op_len_O (by kernel_rfl) rfl (qm (.xi 0) rfl (gc (zas (k_loop2_0 (zgr e a1 y55 k57) (zjk e a1 y55 k57) (λ _ _=>rfl) (λ m _ _=>rfl) h (λ(f:List (Int×(List UInt8))) (c:Int)=>(pt (pt (pt (pt AF0 1 (.row 1 zaa a1)) 8 (.exact v56)) 47 (.xi (List.length y55:Int))) 48 (.xi c))) (λ(f:List (Int×(List UInt8))) (c:Int)=>[vecO Tryz.prog 27 2 zam v56 f]) ?_ (λ C f c h=> ?_))))))))
      .exact s4 rfl rfl rfl rfl
      .unfold zjk at h
       refine sr (gq (zby rfl rfl (gc (zau (kd (p:=c<(List.length y55:Int)) rfl h (λ hc h=> ?_) (λ hc h=> ?_))))))
       .refine zaq (zad (zau (zas (sr (qm (.xi c) rfl (qa (.xi c) rfl (gc (kr (qm (.exact v56) rfl (qm (.xi c) rfl (qm (.exact v56) rfl (qm (.xi c) rfl ?_))))))))))))
        obtain⟨n74,h⟩:=zag h
        refine G_r rfl (op_index_O (by kernel_rfl) rfl rfl n74.1 n74.2 (gq (op_fieldAddr_O (o:=1) (by kernel_rfl) rfl (G_r rfl (op_load_O (i:=c) (o:=1) (a:= .xs ((gi f c).2)) (by kernel_rfl) zbw rfl n74.1 n74.2 rfl (qm (.row 1 zaa a1) rfl ?_))))))
        obtain⟨y75,v,h⟩:=zac h
        refine gq (zai (hself_procterm_Replace _ _ _ v) func23 (by kernel_rfl) (lc lf (lc lf ln)) ?_)
        obtain⟨n76,h⟩:=zag h
        refine G_r rfl (op_index_O (by kernel_rfl) rfl rfl n76.1 n76.2 (gq (op_fieldAddr_O (o:=1) (by kernel_rfl) rfl (G_l rfl (op_store_O (i:=c) (o:=1) (z:=((gi f c).1,y75)) (c':=[.xs y75]) zbw rfl n76.1 n76.2 rfl CellsOf.str (lc lf ln) (OneC.str OneC.nil) (by kernel_rfl) (Nat.le_of_ble_eq_true rfl) rfl (zay (zar (zad (kr (gq (zbx rfl rfl rfl (qm (.xi (i64 (c+1))) rfl (zay (zab ⟨_,_,h,s4 rfl rfl rfl rfl⟩))))))))))))))
       .refine zcl (zbo (zbu (zbn (zab ⟨_,h,s1 rfl⟩))))
     .refine sr (qm (.exact v56) rfl (G_sub rfl (SubU.freezeO (s:=63) rfl zbw) ?_))
      obtain⟨y77,w,h⟩:=zac h
      refine gq (zai (m_procterm_Prefix_ok _ _ w) func33 (by kernel_rfl) (lc lf ln) (qa (.xs y77) rfl (gc (zax (zbe (zbr ?_))))))
      obtain rfl:=oi h
      refine ke (pt AF0 4 (.xs y77)) [] rfl (s1 rfl) ⟨rfl,rfl⟩
    .refine zaq (zar (zab ⟨h,s3 rfl rfl rfl⟩))
 .refine sr (qm (.row 1 zaa y1.2) rfl ?_)
  obtain⟨y78,x,h⟩:=zac h
  refine G_l rfl (zms (zjg _ _ x) func62 (by kernel_rfl) (lc lf ln) (λ v79=>qa (.exact v79) rfl (gd (qm (.xi y1.1) rfl ?_))))
  obtain⟨y80,y,h⟩:=zac h
  refine gq (zai (m_procterm_form_ok _ _ y) func63 (by kernel_rfl) (lc lf ln) (qa (.xs y80) rfl (gc (zbb h (λ(l:List (List UInt8))=>(pt (pt AF0 5 (.xi y1.1)) 6 (.exact v79))) (λ(l:List (List UInt8))=>[vecT Tryz.prog 26 1 zaa v79 l]) (λ k81 h=> ?_) (λ l h=> ?_)))))
  .refine sr (qm (.xs y80) rfl (G_l rfl (op_rangeS (by kernel_rfl) rfl (λ b96=>gc (zas (k_loop2_0 (zfd e a1 y80 k81) (zgs e a1 y80 k81) (λ _ _=>rfl) (λ m _ _=>rfl) h (λ(j:List (List UInt8)) (d:Nat)=>(pt (pt (pt (pt (pt AF0 1 (.row 1 zaa a1)) 5 (.xi y1.1)) 6 (.exact v79)) 10 (.xs y80)) 70 (pA b96 0))) (λ(j:List (List UInt8)) (d:Nat)=>[vecT Tryz.prog 26 1 zaa v79 j,sitI b96 y80 d]) ?_ (λ D j d h=> ?_)))))))
   .refine Sub.trans (SubU.to SubU.f1) (so (l4 rfl rfl rfl rfl (lq rfl lt0)))
   .unfold zgs at h
    refine sr (G_l rfl (opB_f1 (op_nextS rfl (gq (op_sit0 rfl (gc (zau (kd (p:=d<List.length y80) rfl h (λ hc h=> ?_) (λ hc h=> ?_)))))))))
    .refine zaq (zad (zas (sr (gq (op_sit1 rfl (by assumption) (qa (.xi (d:Int)) rfl (gd (qm (.xs y80) rfl (qm (.xi (d:Int)) rfl ?_)))))))))
     obtain⟨n105,h⟩:=zag h
     refine gq (zbj (by kernel_rfl) rfl rfl n105.1 n105.2 (gq (zjy (a:=(gi y80 (d:Int))) (b:=112) rfl rfl (gc (kd (p:=(gi y80 (d:Int))=112) rfl h (λ hc h=> ?_) (λ hc h=> ?_))))))
     .refine kr (qm (.exact v79) rfl (qm (.xi (d:Int)) rfl (qm (.exact v79) rfl (qm (.xi (d:Int)) rfl ?_))))
      obtain⟨n106,h⟩:=zag h
      refine G_r rfl (opR_f1 (zce (by kernel_rfl) rfl rfl n106.1 n106.2 (G_r rfl (opR_f1 (zdv (i:=(d:Int)) (o:=0) (a:= .xs (gi j (d:Int))) (by kernel_rfl) zbd rfl n106.1 n106.2 rfl (qm (.row 1 zaa a1) rfl ?_))))))
      obtain⟨y107,A,h⟩:=zac h
      refine gq (zai (hself_procterm_Replace _ _ _ A) func23 (by kernel_rfl) (lc lf (lc lf ln)) ?_)
      obtain⟨n108,h⟩:=zag h
      refine G_r rfl (opR_f1 (zce (by kernel_rfl) rfl rfl n108.1 n108.2 (G_l rfl (opB_f1 (zjl (i:=(d:Int)) (o:=0) (z:=y107) (c':=[.xs y107]) (by kernel_rfl) zbd rfl n108.1 n108.2 rfl CellsOf.str (lc lf ln) (OneC.str OneC.nil) (by kernel_rfl) (Nat.le_of_ble_eq_true rfl) rfl (zay (zar (zab ⟨_,_,h,so (l4 rfl rfl rfl rfl (lq rfl lt0))⟩))))))))
     .refine zaq (zar (zab ⟨_,_,h, ?_⟩))
      refine Sub.trans (SubU.to SubU.f1) (so (l4 rfl rfl rfl rfl (lq rfl lt0)))
    .refine zcl (zbo (zbu (zbn (zab ⟨_,h, ?_⟩))))
     refine Sub.trans (SubU.to SubU.drop) (s2 rfl rfl)
  .refine sr (qm (.xi y1.1) rfl (qm (.exact v79) rfl (G_sub rfl (SubU.freezeT2 (s1:=6) (s2:=88) rfl rfl zbd) ?_)))
   obtain⟨y109,B,h⟩:=zac h
   refine gq (zai (zmg _ _ _ B) func38 (by kernel_rfl) (lc lf (lc lf ln)) (qa (.xs y109) rfl (gc (zax ?_))))
   obtain rfl:=oi h
   refine ke (pt AF0 4 (.xs y109)) [] rfl (s1 rfl) ⟨rfl,rfl⟩
theorem m_procterm_Replace_S_ok: ∀n:Nat,(∀(a0:List UInt8) (a1:List (List UInt8)) (r:(List UInt8)),zfw n a0 a1=some r->Pure Tryz.prog 23 [(.exact (.string (bs a0))),(.row 1 zaa a1)] (.exact (.string (bs r))))
  |0=>(λ _ _ _ h=>by have h':(none:Option _)=some _:=h;cases h')
  |n+1=>by
    have ih:=m_procterm_Replace_S_ok n
    exact λ a0 a1 r h=>m_procterm_Replace_F_ok (zfw n) ih a0 a1 r h
theorem zfe (a0:List UInt8) (a1:List (List UInt8)) (r:(List UInt8)) (h:zez a0 a1=some r):Pure Tryz.prog 23 [(.exact (.string (bs a0))),(.row 1 zaa a1)] (.exact (.string (bs r))):=(m_procterm_Replace_S_ok FU) a0 a1 r h
theorem m_procterm_Skip_ok  (r:(List UInt8)) (h:m_procterm_Skip=some r):Pure Tryz.prog 12 [] (.exact (.string (bs r))):=by
 unfold m_procterm_Skip at h
 refine Pure.ofFun (zan func12 rfl ntmps12 (by simp) rfl (res1 rfl) λ E hE=>zca (sr (qa (.xs ([]:List UInt8)) rfl (gd ?_))))
 obtain⟨y1,a,h⟩:=zac h
 refine gq (zai (zmg _ _ _ a) func38 (by kernel_rfl) (lc lf (lc (zep (by decide)) ln)) (qa (.xs y1) rfl (gc (zax ?_))))
 obtain rfl:=oi h
 refine ke (pt AF0 0 (.xs y1)) [] rfl (s1 rfl) ⟨rfl,rfl⟩
theorem m_procterm_Offers_ok (a0:List UInt8) (r:(List (Int×(List UInt8)))) (h:m_procterm_Offers a0=some r):Pure Tryz.prog 34 [(.exact (.string (bs a0)))] (.row 2 zam r):=by
 unfold m_procterm_Offers at h
 refine Pure.ofFun (zan func34 rfl ntmps34 (by simp) rfl (res1 rfl) λ E hE=>zca (sr (qa (.exact (.slice none 0 0)) rfl (gd (qm (.xs a0) rfl ?_)))))
 obtain⟨y1,a,h⟩:=zac h
 refine gq (zai (m_procterm_open_ok _ _ a) func58 (by kernel_rfl) (lc lf ln) (qm (.tup [.xi y1.1, .row 1 zaa y1.2]) rfl (gq (zbh (av:= .xi y1.1) rfl rfl (gq (zbh (av:= .row 1 zaa y1.2) rfl rfl (qa (.xi y1.1) rfl (qa (.row 1 zaa y1.2) rfl (gc (zau (sr (qm (.xi y1.1) rfl (gq (zlq rfl rfl (gc (kd (p:= ¬y1.1=6) rfl h (λ hc h=> ?_) (λ hc h=> ?_)))))))))))))))))
 .refine sr (qa (.exact (.slice none 0 0)) rfl (gc (zax (zaz ?_))))
  obtain rfl:=oi h
  refine ke (pt AF0 2 (.row 2 zam [])) [] rfl (so (AF.le_put (zep (by decide)) lt0)) ⟨rfl,rfl⟩
 .refine zaq (zad (sr (qm (.row 1 zaa y1.2) rfl ?_)))
  obtain⟨y2,b,h⟩:=zac h
  refine gq (zai (m_procterm_pairUp_fz _ _ b) func61 (by kernel_rfl) (lc lf ln) (qa (.row 2 zam y2) rfl (gc (zax ?_))))
  obtain rfl:=oi h
  refine ke (pt AF0 2 (.row 2 zam y2)) [] rfl (s1 rfl) ⟨rfl,rfl⟩
end
noncomputable section
open Go.RowKit
attribute [local irreducible] AV.exact AV.top AV.row AV.ptr AV.agg AV.tup AV.eptr AV.fn AV.nilq AV.nilqn opA opB opM opR Quiet Loud Reads wpG awp den Sub SubU Pure Fun vecI vecT boxI CellsAll CellsOf OneC LEs LEss
set_option maxRecDepth 100000
set_option maxHeartbeats 4000000
theorem m_procterm_Valid_ok (a0:List UInt8) (r:Bool) (h:m_procterm_Valid a0=some r):Pure Tryz.prog 35 [(.exact (.string (bs a0)))] (.exact (.bool r)):=by
 unfold m_procterm_Valid at h
 refine Pure.ofFun (zan func35 rfl ntmps35 (by simp) rfl (res1 rfl) λ E hE=>zca (sr (qa (.xb false) rfl (gd (qm (.xs a0) rfl ?_)))))
 obtain⟨y1,a,h⟩:=zac h
 refine gq (zai (zly _ _ a) func60 (by kernel_rfl) (lc lf ln) (qa (.xb y1) rfl (gc (zax ?_))))
 obtain rfl:=oi h
 refine ke (pt AF0 2 (.xb y1)) [] rfl (s1 rfl) ⟨rfl,rfl⟩
theorem m_procterm_Op_ok (a0:List UInt8) (r:Int) (h:m_procterm_Op a0=some r):Pure Tryz.prog 36 [(.exact (.string (bs a0)))] (.exact (.int .i64 r)):=by
 unfold m_procterm_Op at h
 refine Pure.ofFun (zan func36 rfl ntmps36 (by simp) rfl (res1 rfl) λ E hE=>zca (sr (qa (.xi 0) rfl (gc (zau (sr (qm (.xs a0) rfl ?_)))))))
 obtain⟨y1,a,h⟩:=zac h
 refine gq (zai (zly _ _ a) func60 (by kernel_rfl) (lc lf ln) (gq (zgf rfl (gc (kb (p:= !y1) rfl h (λ hc h=> ?_) (λ hc h=> ?_))))))
 .refine sr (qa (.xi 0) rfl (gc (zax (zaz ?_))))
  obtain rfl:=oi h
  refine ke (pt AF0 2 (.xi 0)) [] rfl (s1 rfl) ⟨rfl,rfl⟩
 .refine zaq (zad (sr (qm (.xs a0) rfl ?_)))
  obtain⟨y2,b,h⟩:=zac h
  refine gq (zai (m_procterm_split_ok _ _ b) func81 (by kernel_rfl) (lc lf ln) (qm (.tup [.xi y2.1, .row 1 zaa y2.2]) rfl (gq (zbh (av:= .xi y2.1) rfl rfl (gq (zbh (av:= .row 1 zaa y2.2) rfl rfl (qa (.xi y2.1) rfl (qa (.row 1 zaa y2.2) rfl (gd (qm (.xi y2.1) rfl (qa (.xi y2.1) rfl (gc (zax ?_)))))))))))))
  obtain rfl:=oi h
  refine ke (pt AF0 2 (.xi y2.1)) [] rfl (s1 rfl) ⟨rfl,rfl⟩
theorem m_slices_Compact_L_api_Value_api_Value_ok {w0:Value} (a0:List (List UInt8)) (r:(List (List UInt8))) (h:zdj a0=some r):Fun Tryz.prog 194 [(.exact w0)] [vecT Tryz.prog 26 1 zaa w0 a0] (λ a s=>a= .row 1 zaa r/\s=[]):=by
 unfold zdj at h
 refine zan func194 rfl ntmps194 (by simp) rfl (res1 rfl) λ E hE=>zca (sr (qa (.exact (.slice none 0 0)) rfl (gc (zau (sr (qm (.exact w0) rfl (G_r rfl (zeg (by kernel_rfl) rfl (gq (zby rfl rfl (gc (kd (p:=(List.length a0:Int)<2) rfl h (λ hc h=> ?_) (λ hc h=> ?_)))))))))))))
 .refine sr (qm (.exact w0) rfl (qa (.exact w0) rfl (gc (zax (zaz ?_)))))
  obtain rfl:=oi h
  refine ke (pt AF0 2 (.row 1 zaa a0)) [] rfl (Sub.trans (SubU.to (SubU.freezeT (s:=2) rfl zbd)) (s1 rfl)) ⟨rfl,rfl⟩
 .refine zaq (zad (zdq h ((pt AF0 0 (.exact w0))) ([vecT Tryz.prog 26 1 zaa w0 a0]) (λ k1 h=> ?_) (λ  h=> ?_)))
  .refine sr (qa (.xi 1) rfl (gc (zas (zen (zch a0 k1) (zcx a0 k1) (λ _=>rfl) (λ m _=>rfl) h (λ(b:Int)=>(pt (pt AF0 0 (.exact w0)) 3 (.xi b))) (λ(b:Int)=>[vecT Tryz.prog 26 1 zaa w0 a0]) ?_ (λ n b h=> ?_)))))
   .exact s2 rfl rfl
   .unfold zcx at h
    refine zau (sr (qm (.xi b) rfl (qm (.exact w0) rfl (G_r rfl (zeg (by kernel_rfl) rfl (gq (zby rfl rfl (gc (kd (p:=b<(List.length a0:Int)) rfl h (λ hc h=> ?_) (λ hc h=> ?_))))))))))
    .refine zaq (zad (zdq h ((pt (pt AF0 0 (.exact w0)) 3 (.xi b))) ([vecT Tryz.prog 26 1 zaa w0 a0]) (λ k628 h=> ?_) (λ  h=> ?_)))
     .refine zas (zau (zdy [] [(0,0),(0,1),(0,4),(0,5),(0,6),(1,2),(1,3),(1,7),(1,8),(0,9)] hmixP (by kernel_rfl) (pq rfl (zae (av:= .exact w0) rfl (pq rfl (zae (av:= .xi b) rfl (pq rfl (zae (av:= .exact w0) rfl (pq rfl (zae (av:= .xi b) rfl (pq rfl (zfo rfl rfl rfl ?_))))))))))))
      obtain⟨n691,h⟩:=zag h
      refine P_r rfl (zce (by kernel_rfl) rfl rfl n691.1 n691.2 (P_r rfl (zdv (i:=b) (o:=0) (a:= .xs (gi a0 b)) (by kernel_rfl) zbd rfl n691.1 n691.2 rfl ?_)))
      obtain⟨n692,h⟩:=zag h
      refine P_r rfl (zce (by kernel_rfl) rfl rfl n692.1 n692.2 (P_r rfl (zdv (i:=i64 (b - 1)) (o:=0) (a:= .xs (gi a0 (i64 (b - 1)))) (by kernel_rfl) zbd rfl n692.1 n692.2 rfl (pq rfl (op_eqlS rfl rfl (zdu (zad (kd (p:=(gi a0 b)=(gi a0 (i64 (b - 1)))) rfl h (λ hc h=> ?_) (λ hc h=> ?_)))))))))
      .refine sr (qm (.exact w0) rfl (qm (.xi b) rfl ?_))
       obtain⟨n693,h⟩:=zag h
       refine G_r rfl (zhr (by kernel_rfl) rfl (zef rfl) zel n693.1 n693.2.1 n693.2.2 (qa (.vsub w0 1 (Int.toNat b) (Int.toNat (List.length a0:Int) - Int.toNat b)) rfl (gc (k_join2_0 h (λ(e:List (List UInt8)) (d:Int)=>(pt (pt AF0 0 (.exact w0)) 3 (.xi d))) (λ(e:List (List UInt8)) (d:Int)=>[vecT Tryz.prog 26 1 zaa w0 e]) (λ k694 h=> ?_) (λ e d h=> ?_)))))
       .refine sr (qa (.xi 1) rfl (gc (zas (k_loop3_0 (zcg a0 b k694) (zcy a0 b k694) (λ _ _ _=>rfl) (λ m _ _ _=>rfl) h (λ(f:List (List UInt8)) (g:Int) (c:Int)=>(pt (pt (pt (pt AF0 0 (.exact w0)) 3 (.xi g)) 4 (.vsub w0 1 (Int.toNat b) (Int.toNat (List.length a0:Int) - Int.toNat b))) 5 (.xi c))) (λ(f:List (List UInt8)) (g:Int) (c:Int)=>[vecT Tryz.prog 26 1 zaa w0 f]) ?_ (λ q f g c h=> ?_)))))
        .exact s4 rfl rfl rfl rfl
        .unfold zcy at h
         refine zau (sr (qm (.xi c) rfl (qm (.vsub w0 1 (Int.toNat b) (Int.toNat (List.length a0:Int) - Int.toNat b)) rfl (gq (op_len_vsub (by kernel_rfl) rfl (gq (zby rfl rfl (gc (kd (p:=c<((Int.toNat (List.length a0:Int) - Int.toNat b:Nat):Int)) rfl h (λ hc h=> ?_) (λ hc h=> ?_))))))))))
         .refine zaq (zad (k_join2_0 h (λ(k:List (List UInt8)) (l:Int)=>(pt (pt (pt (pt AF0 0 (.exact w0)) 3 (.xi l)) 4 (.vsub w0 1 (Int.toNat b) (Int.toNat (List.length a0:Int) - Int.toNat b))) 5 (.xi c))) (λ(k:List (List UInt8)) (l:Int)=>[vecT Tryz.prog 26 1 zaa w0 k]) (λ k741 h=> ?_) (λ k l h=> ?_)))
          .refine zas (zau (zdy [] [(0,0),(0,1),(0,4),(0,5),(0,6),(1,2),(1,3),(1,7),(1,8),(0,9)] hmixP (by kernel_rfl) (pq rfl (zae (av:= .vsub w0 1 (Int.toNat b) (Int.toNat (List.length a0:Int) - Int.toNat b)) rfl (pq rfl (zae (av:= .xi c) rfl (pq rfl (zae (av:= .vsub w0 1 (Int.toNat b) (Int.toNat (List.length a0:Int) - Int.toNat b)) rfl (pq rfl (zae (av:= .xi c) rfl (pq rfl (zfo rfl rfl rfl ?_))))))))))))
           obtain⟨n746,h⟩:=zag h
           refine P_r rfl (zko (j:=(b+c)) (by kernel_rfl) rfl rfl n746.2.1 (by have hh:=n746;try simp only[i64]at *;omega) (by have hh:=n746;try simp only[i64]at *;omega) (by have hh:=n746;try simp only[i64]at *;omega) (P_r rfl (zdv (i:=(b+c)) (o:=0) (a:= .xs (gi f (b+c))) (by kernel_rfl) zbd rfl n746.2.2.2.1 n746.2.2.2.2 rfl ?_)))
           obtain⟨n747,h⟩:=zag h
           refine P_r rfl (zko (j:=(b+(i64 (c - 1)))) (by kernel_rfl) rfl rfl n747.2.1 (by have hh:=n747;try simp only[i64]at *;omega) (by have hh:=n747;try simp only[i64]at *;omega) (by have hh:=n747;try simp only[i64]at *;omega) (P_r rfl (zdv (i:=(b+(i64 (c - 1)))) (o:=0) (a:= .xs (gi f (b+(i64 (c - 1))))) (by kernel_rfl) zbd rfl n747.2.2.2.1 n747.2.2.2.2 rfl (pq rfl (op_neqS rfl rfl (zdu (zad (kd (p:= ¬(gi f (b+c))=(gi f (b+(i64 (c - 1))))) rfl h (λ hc h=> ?_) (λ hc h=> ?_)))))))))
           .refine sr (qm (.exact w0) rfl (qm (.xi g) rfl (qm (.vsub w0 1 (Int.toNat b) (Int.toNat (List.length a0:Int) - Int.toNat b)) rfl (qm (.xi c) rfl ?_))))
            obtain⟨n748,h⟩:=zag h
            refine G_r rfl (zko (j:=(b+c)) (by kernel_rfl) rfl rfl n748.2.1 (by have hh:=n748;try simp only[i64]at *;omega) (by have hh:=n748;try simp only[i64]at *;omega) (by have hh:=n748;try simp only[i64]at *;omega) (G_r rfl (zdv (i:=(b+c)) (o:=0) (a:= .xs (gi f (b+c))) (by kernel_rfl) zbd rfl n748.2.2.2.1 n748.2.2.2.2 rfl ?_)))
            obtain⟨n749,h⟩:=zag h
            refine G_r rfl (zce (by kernel_rfl) rfl rfl n749.1 n749.2 (G_l rfl (zjl (i:=g) (o:=0) (z:=gi f (b+c)) (c':=[.xs (gi f (b+c))]) (by kernel_rfl) zbd rfl n749.1 n749.2 rfl CellsOf.str (lc lf ln) (OneC.str OneC.nil) (by kernel_rfl) (Nat.le_of_ble_eq_true rfl) rfl (gc (kr (qm (.xi g) rfl (gq (zbx rfl rfl rfl (qa (.xi (i64 (g+1))) rfl (zay (zar (zab ⟨_,_,h,s4 rfl rfl rfl rfl⟩))))))))))))
           .refine zaq (zar (zab ⟨_,_,h,s4 rfl rfl rfl rfl⟩))
          .refine kr (qm (.xi c) rfl (gq (zbx rfl rfl rfl (qa (.xi (i64 (c+1))) rfl (zay (zab ⟨_,_,_,h,s4 rfl rfl rfl rfl⟩))))))
         .refine zcl (zbo (zbu (zbn (zab ⟨_,_,h,s2 rfl rfl⟩))))
       .refine sr (qm (.exact w0) rfl (qm (.xi d) rfl ?_))
        obtain⟨n750,h⟩:=zag h
        refine G_r rfl (zhr (by kernel_rfl) rfl (zef rfl) zel n750.1 n750.2.1 n750.2.2 (G_l rfl (op_clear (zr:=[]) (by kernel_rfl) zbd zcr rfl (by have:=n750;omega) zeroValue22 (λ _ _=>(Fit.ex Fit.nil0)) (gd (qm (.exact w0) rfl (qm (.xi d) rfl (G_sub rfl (SubU.freezeT3 (s1:=0) (s2:=54) (s3:=57) rfl rfl rfl zbd) ?_)))))))
        obtain⟨n751,h⟩:=zag h
        refine gq (op_slice_rowt (by kernel_rfl) rfl zel (zef rfl) (Int.le_refl 0) n751.1 n751.2 (qa (.row 1 zaa (List.take (Int.toNat d) (List.take (Int.toNat d) e++List.replicate (Int.toNat (List.length e:Int) - Int.toNat d) ([]:List UInt8)++List.drop (Int.toNat d+(Int.toNat (List.length e:Int) - Int.toNat d)) e))) rfl (gc (zax (zbe (zbr (zbr (zbe (zbr ?_)))))))))
        obtain rfl:=oi h
        refine ke (pt AF0 2 (.row 1 zaa (List.take (Int.toNat d) (List.take (Int.toNat d) e++List.replicate (Int.toNat (List.length e:Int) - Int.toNat d) ([]:List UInt8)++List.drop (Int.toNat d+(Int.toNat (List.length e:Int) - Int.toNat d)) e)))) [] rfl (s1 rfl) ⟨rfl,rfl⟩
      .refine zaq (zar (zab ⟨h,s2 rfl rfl⟩))
     .refine kr (qm (.xi b) rfl (gq (zbx rfl rfl rfl (qa (.xi (i64 (b+1))) rfl (zay (zab ⟨_,h,s2 rfl rfl⟩))))))
    .refine zcl (zbo (zbu (zbn (zab ⟨h,s1 rfl⟩))))
  .refine sr (qm (.exact w0) rfl (qa (.exact w0) rfl (gc (zax ?_))))
   obtain rfl:=oi h
   refine ke (pt AF0 2 (.row 1 zaa a0)) [] rfl (Sub.trans (SubU.to (SubU.freezeT (s:=2) rfl zbd)) (s1 rfl)) ⟨rfl,rfl⟩
theorem m_value_Sort_ok (a0:List (List UInt8)) (r:(List (List UInt8))) (h:m_value_Sort a0=some r):Pure Tryz.prog 164 [(.row 1 zaa a0)] (.row 1 zaa r):=by
 unfold m_value_Sort at h
 refine Pure.ofFun (zan func164 rfl ntmps164 (by simp) rfl (res1 rfl) λ E hE=>zca (sr (qa (.exact (.slice none 0 0)) rfl (gd (qm (.row 1 zaa a0) rfl ?_)))))
 obtain⟨y1,a,h⟩:=zac h
 refine G_l rfl (zms (zjg _ _ a) func62 (by kernel_rfl) (lc lf ln) (λ v2=>qa (.exact v2) rfl (gd (qm (.exact v2) rfl ?_))))
 obtain⟨y3,b,h⟩:=zac h
 refine G_l rfl (zbc (m_sort_api_Value_ok m_value_Compare_ok _ _ b) func193 (by kernel_rfl) (lc lf (lc lf ln)) (gd (qm (.exact v2) rfl ?_)))
 obtain⟨y4,c,h⟩:=zac h
 refine G_l rfl (op_fun_1_0_0 (m_slices_Compact_L_api_Value_api_Value_ok _ _ c) func194 (by kernel_rfl) (lc lf ln) ?_)
 obtain⟨y5,d,h⟩:=zac h
 refine gq (zai (zeh _ _ d) func109 (by kernel_rfl) (lc lf ln) (qa (.row 1 zaa y5) rfl (gc (zax ?_))))
 obtain rfl:=oi h
 refine ke (pt AF0 2 (.row 1 zaa y5)) [] rfl (s1 rfl) ⟨rfl,rfl⟩
theorem m_value_Set_ok (a0:List (List UInt8)) (r:(List UInt8)) (h:m_value_Set a0=some r):Pure Tryz.prog 122 [(.row 1 zaa a0)] (.exact (.string (bs r))):=by
 unfold m_value_Set at h
 refine Pure.ofFun (zan func122 rfl ntmps122 (by simp) rfl (res1 rfl) λ E hE=>zca (sr (qa (.xs ([]:List UInt8)) rfl (gd (qm (.row 1 zaa a0) rfl ?_)))))
 obtain⟨y1,a,h⟩:=zac h
 refine gq (zai (m_value_Sort_ok _ _ a) func164 (by kernel_rfl) (lc lf ln) ?_)
 obtain⟨y2,b,h⟩:=zac h
 refine gq (zai (m_value_compound_ok _ _ _ b) func123 (by kernel_rfl) (lc lf (lc lf ln)) (qa (.xs y2) rfl (gc (zax ?_))))
 obtain rfl:=oi h
 refine ke (pt AF0 2 (.xs y2)) [] rfl (s1 rfl) ⟨rfl,rfl⟩
theorem m_procterm_set_ok (a0:List Int) (r:(List UInt8)) (h:m_procterm_set a0=some r):Pure Tryz.prog 82 [(.row 1 zbf a0)] (.exact (.string (bs r))):=by
 unfold m_procterm_set at h
 refine Pure.ofFun (zan func82 rfl ntmps82 (by simp) rfl (res1 rfl) λ E hE=>zca (sr (qa (.xs ([]:List UInt8)) rfl (gd (qa (.exact (.slice none 0 0)) rfl (gc (zdl h (λ(c:List (List UInt8)) (v3_j1:Value)=>(pt AF0 3 (.exact v3_j1))) (λ(c:List (List UInt8)) (v3_j1:Value)=>[vecT Tryz.prog 26 1 zaa v3_j1 c]) (λ k1 h=> ?_) (λ c v3_j1 h=> ?_))))))))
 .refine sr (qm (.row 1 zbf a0) rfl (gq (zaw (by kernel_rfl) rfl (qm (.xi 0) rfl (gc (zas (zei (zks a0 k1) (zno a0 k1) (λ _ _=>rfl) (λ m _ _=>rfl) h (λ(d:List (List UInt8)) (b:Int) (v3_l2:Value)=>(pt (pt (pt (pt AF0 3 (.exact v3_l2)) 6 (.row 1 zbf a0)) 7 (.xi (List.length a0:Int))) 8 (.xi b))) (λ(d:List (List UInt8)) (b:Int) (v3_l2:Value)=>[vecT Tryz.prog 26 1 zaa v3_l2 d]) (.slice none 0 0) ?_ (λ g d b v3_l2 h=> ?_))))))))
  .refine Sub.trans (SubU.to (SubU.nilT (P:=Tryz.prog) (t:=26) (n:=1) (enc:=zaa))) (s4 rfl rfl rfl rfl)
  .unfold zno at h
   refine sr (gq (zby rfl rfl (gc (zau (kd (p:=b<(List.length a0:Int)) rfl h (λ hc h=> ?_) (λ hc h=> ?_))))))
   .refine zaq (zad (zau (zas (sr ?_))))
    obtain⟨n23,h⟩:=zag h
    refine gq (zaj (by kernel_rfl) rfl rfl n23.1 n23.2 (gq (zap (a:= .xi (gi a0 b)) (by kernel_rfl) rfl rfl (qa (.xi (gi a0 b)) rfl (gc (kr (qm (.exact v3_l2) rfl (qm (.xi (gi a0 b)) rfl ?_))))))))
    obtain⟨y24,e,h⟩:=zac h
    refine gq (zai (m_value_Int_ok _ _ e) func80 (by kernel_rfl) (lc lf ln) (gq (zcf (n:=1) (enc:=zaa) [y24] (CellsAll.cons rfl CellsOf.str CellsAll.nil) rfl (by kernel_rfl) (LEss.cons (lc lf ln) LEss.nil) ?_)))
    obtain⟨n25,h⟩:=zag h
    refine G_l rfl (zeb (by kernel_rfl) rfl rfl zcr n25 (λ v26=>qa (.exact v26) rfl (zay (zar (zad (kr (gq (zbx rfl rfl rfl (qm (.xi (i64 (b+1))) rfl (zay (zab ⟨_,_,v26,h,s4 rfl rfl rfl rfl⟩)))))))))))
   .refine zcl (zbo (zbu (zbn (zab ⟨_,v3_l2,h,s1 rfl⟩))))
 .refine sr (qm (.exact v3_j1) rfl (G_sub rfl (SubU.freezeT2 (s1:=3) (s2:=18) rfl rfl zbd) ?_))
  obtain⟨y27,f,h⟩:=zac h
  refine gq (zai (m_value_Set_ok _ _ f) func122 (by kernel_rfl) (lc lf ln) (qa (.xs y27) rfl (gc (zax ?_))))
  obtain rfl:=oi h
  refine ke (pt AF0 2 (.xs y27)) [] rfl (s1 rfl) ⟨rfl,rfl⟩
theorem m_procterm_Hide_ok (a0:List UInt8) (a1:List Int) (r:(List UInt8)) (h:znm a0 a1=some r):Pure Tryz.prog 37 [(.exact (.string (bs a0))),(.row 1 zbf a1)] (.exact (.string (bs r))):=by
 unfold znm at h
 refine Pure.ofFun (zan func37 rfl ntmps37 (by simp) rfl (res1 rfl) λ E hE=>zca (sr (qa (.xs ([]:List UInt8)) rfl (gd (qm (.xs a0) rfl (qm (.row 1 zbf a1) rfl ?_))))))
 obtain⟨y1,a,h⟩:=zac h
 refine gq (zai (m_procterm_set_ok _ _ a) func82 (by kernel_rfl) (lc lf ln) (gq (zcf (n:=1) (enc:=zaa) [a0,y1] (CellsAll.cons rfl CellsOf.str (CellsAll.cons rfl CellsOf.str CellsAll.nil)) rfl (by kernel_rfl) (LEss.cons (lc lf ln) (LEss.cons (lc lf ln) LEss.nil)) ?_)))
 obtain⟨y2,b,h⟩:=zac h
 refine gq (zai (zmg _ _ _ b) func38 (by kernel_rfl) (lc lf (lc lf ln)) (qa (.xs y2) rfl (gc (zax ?_))))
 obtain rfl:=oi h
 refine ke (pt AF0 4 (.xs y2)) [] rfl (s1 rfl) ⟨rfl,rfl⟩
theorem m_law16_awake_ok  (r:Bool) (h:m_law16_awake=some r):Pure Tryz.prog 9 [] (.exact (.bool r)):=by
 unfold m_law16_awake at h
 refine Pure.ofFun (zan func9 rfl ntmps9 (by simp) rfl (res1 rfl) λ E hE=>zca (sr (qa (.xb false) rfl (gd ?_))))
 obtain⟨y1,d,h⟩:=zac h
 refine gq (zai (m_procterm_Stop_ok _ d) func10 (by kernel_rfl) ln (gq (op_bld (c':=zam (3,y1)) (CellsAll.cons rfl CellsOf.int (CellsAll.cons rfl CellsOf.str CellsAll.nil)) rfl (lc lf (lc lf ln)) ?_)))
 obtain⟨y2,e,h⟩:=zac h
 refine gq (zai (m_procterm_Skip_ok _ e) func12 (by kernel_rfl) ln (gq (op_bld (c':=zam (2,y2)) (CellsAll.cons rfl CellsOf.int (CellsAll.cons rfl CellsOf.str CellsAll.nil)) rfl (lc lf (lc lf ln)) (gq (zcf (n:=2) (enc:=zam) [(3,y1),(2,y2)] (CellsAll.cons rfl CellsOf.agg (CellsAll.cons rfl CellsOf.agg CellsAll.nil)) rfl (by kernel_rfl) (LEss.cons (lc lf (lc lf ln)) (LEss.cons (lc lf (lc lf ln)) LEss.nil)) ?_)))))
 obtain⟨y3,f,h⟩:=zac h
 refine gq (zai (m_procterm_Prefix_ok _ _ f) func33 (by kernel_rfl) (lc lf ln) (qa (.xs y3) rfl (gd (qm (.xs y3) rfl ?_))))
 obtain⟨y4,g,h⟩:=zac h
 refine gq (zai (m_procterm_Offers_ok _ _ g) func34 (by kernel_rfl) (lc lf ln) (qa (.row 2 zam y4) rfl (gc (zbb h (λ(b:Bool)=>(pt AF0 0 (.xb b))) (λ(b:Bool)=>[]) (λ k5 h=> ?_) (λ b h=> ?_)))))
 .refine zdy [] [(0,0),(0,1),(0,2),(0,3),(0,4),(0,5),(0,6),(0,7),(0,8),(0,9),(0,10),(0,11),(0,12),(0,13),(0,14),(0,15),(0,16),(0,17),(0,18),(0,19),(0,20),(0,21),(0,22),(0,23),(0,24),(0,25),(0,26),(0,27),(0,28),(0,29),(0,30),(0,31),(0,32),(0,33)] hmixP (by kernel_rfl) (pq rfl (zae (av:= .xs y3) rfl ?_))
  obtain⟨y13,i,h⟩:=zac h
  refine pq rfl (zai (m_procterm_Valid_ok _ _ i) func35 (by kernel_rfl) (lc lf ln) (pq rfl (zae (av:= .xb y13) rfl (P_splitB (c:=y13) 13 rfl (λ hc=> ?_) (λ hc=> ?_)))))
  .replace h:=zdb h hc
   refine py rfl (zae (av:= .xs y3) rfl ?_)
   obtain⟨y14,j,h⟩:=zac h
   refine py rfl (zai (m_procterm_Op_ok _ _ j) func36 (by kernel_rfl) (lc lf ln) (py rfl (zbi rfl rfl (pq rfl (zat rfl (av:= .xb (decide (y14=6))) rfl (pq rfl (zae (av:= .xb (decide (y14=6))) rfl (zix (p:=y14=6) 18 rfl (λ hc=> ?_) (λ hc=> ?_)))))))))
   .replace h:=zdb h hc
    refine py rfl (zae (av:= .row 2 zam y4) rfl (py rfl (zaw (by kernel_rfl) rfl (py rfl (zbi rfl rfl (pq rfl (zat rfl (av:= .xb (decide ((List.length y4:Int)=2))) rfl (pq rfl (zae (av:= .xb (decide ((List.length y4:Int)=2))) rfl (zix (p:=(List.length y4:Int)=2) 23 rfl (λ hc=> ?_) (λ hc=> ?_)))))))))))
    .replace h:=zdb h hc
     refine py rfl (zae (av:= .row 2 zam y4) rfl ?_)
     obtain⟨n15,h⟩:=zag h
     refine py rfl (zaj (by kernel_rfl) rfl rfl n15.1 n15.2 (py rfl (zav (o:=0) (c':=(List.drop 0 (zam (gi y4 0)))) (by kernel_rfl) rfl rfl (py rfl (zap (a:= .xi ((gi y4 0).1)) (by kernel_rfl) rfl rfl (py rfl (zbi rfl rfl (pq rfl (zat rfl (av:= .xb (decide (((gi y4 0).1)=2))) rfl (pq rfl (zae (av:= .xb (decide (((gi y4 0).1)=2))) rfl (zix (p:=((gi y4 0).1)=2) 30 rfl (λ hc=> ?_) (λ hc=> ?_)))))))))))))
     .replace h:=zdb h hc
      refine py rfl (zae (av:= .row 2 zam y4) rfl ?_)
      obtain⟨n16,h⟩:=zag h
      refine py rfl (zaj (by kernel_rfl) rfl rfl n16.1 n16.2 (py rfl (zav (o:=1) (c':=(List.drop 1 (zam (gi y4 0)))) (by kernel_rfl) rfl rfl (py rfl (zap (a:= .xs ((gi y4 0).2)) (by kernel_rfl) rfl rfl ?_)))))
      obtain⟨y17,k,h⟩:=zac h
      refine py rfl (zai (zcb _ _ _ k) func11 (by kernel_rfl) (lc lf (lc (zep (by decide)) ln)) (py rfl (op_eqlS rfl rfl (pq rfl (zat rfl (av:= .xb (decide (((gi y4 0).2)=y17))) rfl (pq rfl (zae (av:= .xb (decide (((gi y4 0).2)=y17))) rfl (zix (p:=((gi y4 0).2)=y17) 38 rfl (λ hc=> ?_) (λ hc=> ?_)))))))))
      .replace h:=zdb h hc
       obtain⟨y18,l,h⟩:=zac h
       refine py rfl (zai (m_procterm_Stop_ok _ l) func10 (by kernel_rfl) ln (py rfl (zcf (n:=1) (enc:=zbf) [0] (CellsAll.cons rfl CellsOf.int CellsAll.nil) rfl (by kernel_rfl) (LEss.cons (lc lf ln) LEss.nil) ?_)))
       obtain⟨y19,m,h⟩:=zac h
       refine py rfl (zai (m_procterm_Hide_ok _ _ _ m) func37 (by kernel_rfl) (lc lf (lc lf ln)) (py rfl (op_eqlS rfl rfl (pq rfl (zat rfl (av:= .xb (decide (y19=([]:List UInt8)))) rfl (pq rfl (zba (av:= .xb (decide (y19=([]:List UInt8)))) rfl (zdu (zab ⟨_,h,s1 rfl⟩)))))))))
      .replace h:=zdc h hc
       refine pn rfl (pn rfl (pn rfl (pn rfl (pq rfl (zao rfl (av:= .xb false) rfl (pq rfl (zba (av:= .xb false) rfl (zdu (zab ⟨_,h,s1 rfl⟩)))))))))
     .replace h:=zdc h hc
      refine pn rfl (pn rfl (pn rfl (pn rfl (pn rfl (pn rfl (pq rfl (zao rfl (av:= .xb false) rfl (pq rfl (zae (av:= .xb false) rfl (pn rfl (pn rfl (pn rfl (pn rfl (pq rfl (zao rfl (av:= .xb false) rfl (pq rfl (zba (av:= .xb false) rfl (zdu (zab ⟨_,h,s1 rfl⟩)))))))))))))))))))
    .replace h:=zdc h hc
     refine pn rfl (pn rfl (pn rfl (pn rfl (pn rfl (pq rfl (zao rfl (av:= .xb false) rfl (pq rfl (zae (av:= .xb false) rfl (pn rfl (pn rfl (pn rfl (pn rfl (pn rfl (pn rfl (pq rfl (zao rfl (av:= .xb false) rfl (pq rfl (zae (av:= .xb false) rfl (pn rfl (pn rfl (pn rfl (pn rfl (pq rfl (zao rfl (av:= .xb false) rfl (pq rfl (zba (av:= .xb false) rfl (zdu (zab ⟨_,h,s1 rfl⟩))))))))))))))))))))))))))))
   .replace h:=zdc h hc
    refine pn rfl (pn rfl (pn rfl (pq rfl (zao rfl (av:= .xb false) rfl (pq rfl (zae (av:= .xb false) rfl (pn rfl (pn rfl (pn rfl (pn rfl (pn rfl (pq rfl (zao rfl (av:= .xb false) rfl (pq rfl (zae (av:= .xb false) rfl (pn rfl (pn rfl (pn rfl (pn rfl (pn rfl (pn rfl (pq rfl (zao rfl (av:= .xb false) rfl (pq rfl (zae (av:= .xb false) rfl (pn rfl (pn rfl (pn rfl (pn rfl (pq rfl (zao rfl (av:= .xb false) rfl ?_)))))))))))))))))))))))))))))))
    refine pq rfl (zba (av:= .xb false) rfl (zdu (zab ⟨_,h,s1 rfl⟩)))
  .replace h:=zdc h hc
   refine pn rfl (pn rfl (pn rfl (pq rfl (zao rfl (av:= .xb false) rfl (pq rfl (zae (av:= .xb false) rfl (pn rfl (pn rfl (pn rfl (pq rfl (zao rfl (av:= .xb false) rfl (pq rfl (zae (av:= .xb false) rfl (pn rfl (pn rfl (pn rfl (pn rfl (pn rfl (pq rfl (zao rfl (av:= .xb false) rfl (pq rfl (zae (av:= .xb false) rfl (pn rfl (pn rfl (pn rfl (pn rfl (pn rfl (pn rfl (pq rfl (zao rfl (av:= .xb false) rfl (pq rfl (zae (av:= .xb false) rfl ?_))))))))))))))))))))))))))))))))
   refine pn rfl (pn rfl (pn rfl (pn rfl (pq rfl (zao rfl (av:= .xb false) rfl (pq rfl (zba (av:= .xb false) rfl (zdu (zab ⟨_,h,s1 rfl⟩)))))))))
 .refine zax ?_
  obtain rfl:=oi h
  refine ke (pt AF0 0 (.xb b)) [] rfl (s1 rfl) ⟨rfl,rfl⟩
theorem m_ref16_Replace_F_ok (d:(List UInt8)->(List (List UInt8))->Option (List UInt8)) (hself_ref16_Replace: ∀(a0:List UInt8) (a1:List (List UInt8)) (r:(List UInt8)),d a0 a1=some r->Pure Tryz.prog 24 [(.exact (.string (bs a0))),(.row 1 zaa a1)] (.exact (.string (bs r)))) (a0:List UInt8) (a1:List (List UInt8)) (r:(List UInt8)) (h:m_ref16_Replace_F d a0 a1=some r):Pure Tryz.prog 24 [(.exact (.string (bs a0))),(.row 1 zaa a1)] (.exact (.string (bs r))):=by
 unfold m_ref16_Replace_F at h
 refine Pure.ofFun (zan func24 rfl ntmps24 (by simp) rfl (res1 rfl) λ E hE=>zca (sr (qa (.xs ([]:List UInt8)) rfl (gc (zau (sr (qm (.xs a0) rfl ?_)))))))
 obtain⟨y1,g,h⟩:=zac h
 refine gq (zai (m_ref16_Op_ok _ _ g) func64 (by kernel_rfl) (lc lf ln) (gc (zas (sr (gq (zbi rfl rfl (qa (.xb (decide (y1=0))) rfl (gc (kd (p:=y1=0) rfl h (λ hc h=> ?_) (λ hc h=> ?_))))))))))
 .refine sr (qa (.xs ([]:List UInt8)) rfl (gc (zax (zbe (zaz ?_)))))
  obtain rfl:=oi h
  refine ke (pt AF0 4 (.xs ([]:List UInt8))) [] rfl (s1 rfl) ⟨rfl,rfl⟩
 .refine sr (gq (zbi rfl rfl (qa (.xb (decide (y1=21))) rfl (gc (kd (p:=y1=21) rfl h (λ hc h=> ?_) (λ hc h=> ?_))))))
  .refine sr (qm (.xs a0) rfl ?_)
   obtain⟨y2,j,h⟩:=zac h
   refine gq (zai (zha _ _ j) func66 (by kernel_rfl) (lc lf ln) ?_)
   obtain⟨n3,h⟩:=zag h
   refine gq (zaj (by kernel_rfl) rfl rfl n3.1 n3.2 (gq (zap (a:= .xs (gi y2 1)) (by kernel_rfl) rfl rfl ?_)))
   obtain⟨y4,k,h⟩:=zac h
   refine gq (zai (zgg _ _ k) func65 (by kernel_rfl) (lc lf ln) (qa (.xi y4) rfl (gc (zau (zbb h (λ(e:Bool)=>(pt (pt (pt AF0 1 (.row 1 zaa a1)) 5 (.xi y4)) 30 (.xb e))) (λ(e:Bool)=>[]) (λ k11 h=> ?_) (λ e h=> ?_))))))
   .refine kr (qm (.xi y4) rfl (qm (.row 1 zaa a1) rfl (gq (zaw (by kernel_rfl) rfl (gq (op_geq rfl rfl (qm (.xb (decide ((List.length a1:Int)≤y4))) rfl (zcm (p:=(List.length a1:Int)≤y4) 23 rfl (λ hc=> ?_) (λ hc=> ?_)))))))))
    .replace h:=zdb h hc
     refine gn (gn (gn (gn (gn (gn (gq (zat rfl (av:= .xb true) rfl (zay (zab ⟨_,h,s3 rfl rfl rfl⟩)))))))))
    .replace h:=zdc h hc
     refine gy (zae (av:= .row 1 zaa a1) rfl (gy (zae (av:= .xi y4) rfl ?_)))
     obtain⟨n14,h⟩:=zag h
     refine gy (zaj (by kernel_rfl) rfl rfl n14.1 n14.2 (gy (zap (a:= .xs (gi a1 y4)) (by kernel_rfl) rfl rfl ?_)))
     obtain⟨y15,l,h⟩:=zac h
     refine gy (zai (m_ref16_Valid_ok _ _ l) func40 (by kernel_rfl) (lc lf ln) (gy (zgf rfl (gq (zao rfl (av:= .xb (!y15)) rfl (zay (zab ⟨_,h,s3 rfl rfl rfl⟩)))))))
   .refine kb (p:=e) rfl h (λ hc h=> ?_) (λ hc h=> ?_)
    .refine sr (qa (.xs ([]:List UInt8)) rfl (gc (zax (zaz (zbe (zaz ?_))))))
     obtain rfl:=oi h
     refine ke (pt AF0 4 (.xs ([]:List UInt8))) [] rfl (s1 rfl) ⟨rfl,rfl⟩
    .refine zaq (zad (sr (qm (.row 1 zaa a1) rfl (qm (.xi y4) rfl ?_))))
     obtain⟨n16,h⟩:=zag h
     refine gq (zaj (by kernel_rfl) rfl rfl n16.1 n16.2 (gq (zap (a:= .xs (gi a1 y4)) (by kernel_rfl) rfl rfl (qa (.xs (gi a1 y4)) rfl (gc (zax (zbe (zaz ?_))))))))
     obtain rfl:=oi h
     refine ke (pt AF0 4 (.xs (gi a1 y4))) [] rfl (s1 rfl) ⟨rfl,rfl⟩
  .refine zaq (zar (zad (sr (qm (.xs a0) rfl ?_))))
   obtain⟨y17,n,h⟩:=zac h
   refine G_l rfl (zms (m_ref16_Operands_ok _ _ n) func55 (by kernel_rfl) (lc lf ln) (λ v18=>qa (.exact v18) rfl (gc (zau (sr (qm (.exact v18) rfl (G_r rfl (zeg (by kernel_rfl) rfl (gq (zbi rfl rfl (gc (kd (p:=(List.length y17:Int)=0) rfl h (λ hc h=> ?_) (λ hc h=> ?_)))))))))))))
   .refine sr (qm (.xs a0) rfl (qa (.xs a0) rfl (gc (zax (zaz ?_)))))
    obtain rfl:=oi h
    refine ke (pt AF0 4 (.xs a0)) [] rfl (Sub.trans (SubU.to SubU.drop) (s1 rfl)) ⟨rfl,rfl⟩
   .refine zaq (zad (zbb h (λ(f:List (List UInt8))=>(pt (pt AF0 0 (.xs a0)) 6 (.exact v18))) (λ(f:List (List UInt8))=>[vecT Tryz.prog 26 1 zaa v18 f]) (λ k19 h=> ?_) (λ f h=> ?_)))
    .refine sr (qa (.xi 0) rfl (gc (zas (k_loop2_0 (zjw d a1 k19) (zmh d a1 k19) (λ _ _=>rfl) (λ m _ _=>rfl) h (λ(c:List (List UInt8)) (b:Int)=>(pt (pt (pt (pt AF0 0 (.xs a0)) 1 (.row 1 zaa a1)) 6 (.exact v18)) 7 (.xi b))) (λ(c:List (List UInt8)) (b:Int)=>[vecT Tryz.prog 26 1 zaa v18 c]) ?_ (λ t c b h=> ?_)))))
     .exact s4 rfl rfl rfl rfl
     .unfold zmh at h
      refine zau (sr (qm (.xi b) rfl (qm (.exact v18) rfl (G_r rfl (zeg (by kernel_rfl) rfl (gq (zby rfl rfl (gc (kd (p:=b<(List.length c:Int)) rfl h (λ hc h=> ?_) (λ hc h=> ?_))))))))))
      .refine zaq (zad (zau (zas (sr (qm (.exact v18) rfl (qm (.xi b) rfl (qm (.exact v18) rfl (qm (.xi b) rfl ?_))))))))
       obtain⟨n41,h⟩:=zag h
       refine G_r rfl (zce (by kernel_rfl) rfl rfl n41.1 n41.2 (G_r rfl (zdv (i:=b) (o:=0) (a:= .xs (gi c b)) (by kernel_rfl) zbd rfl n41.1 n41.2 rfl (qm (.row 1 zaa a1) rfl ?_))))
       obtain⟨y42,q,h⟩:=zac h
       refine gq (zai (hself_ref16_Replace _ _ _ q) func24 (by kernel_rfl) (lc lf (lc lf ln)) ?_)
       obtain⟨n43,h⟩:=zag h
       refine G_r rfl (zce (by kernel_rfl) rfl rfl n43.1 n43.2 (G_l rfl (zjl (i:=b) (o:=0) (z:=y42) (c':=[.xs y42]) (by kernel_rfl) zbd rfl n43.1 n43.2 rfl CellsOf.str (lc lf ln) (OneC.str OneC.nil) (by kernel_rfl) (Nat.le_of_ble_eq_true rfl) rfl (gd (qm (.exact v18) rfl (qm (.xi b) rfl ?_))))))
       obtain⟨n44,h⟩:=zag h
       refine G_r rfl (zce (by kernel_rfl) rfl rfl n44.1 n44.2 (G_r rfl (zdv (i:=b) (o:=0) (a:= .xs (gi (List.set c (Int.toNat b) y42) b)) (by kernel_rfl) zbd rfl n44.1 n44.2 rfl (gq (op_eqlS rfl rfl (gc (kd (p:=(gi (List.set c (Int.toNat b) y42) b)=([]:List UInt8)) rfl h (λ hc h=> ?_) (λ hc h=> ?_))))))))
       .refine sr (qa (.xs ([]:List UInt8)) rfl (gc (zax (zbe (zaz (zbr (zbe (zbr ?_))))))))
        obtain rfl:=oi h
        refine ke (pt AF0 4 (.xs ([]:List UInt8))) [] rfl (Sub.trans (SubU.to SubU.drop) (s1 rfl)) ⟨rfl,rfl⟩
       .refine zaq (zar (zad (kr (qm (.xi b) rfl (gq (zbx rfl rfl rfl (qa (.xi (i64 (b+1))) rfl (zay (zab ⟨_,_,h,s4 rfl rfl rfl rfl⟩)))))))))
      .refine zcl (zbo (zbu (zbn (zab ⟨_,h,s2 rfl rfl⟩))))
    .refine sr (qm (.xs a0) rfl (qm (.exact v18) rfl (G_sub rfl (SubU.freezeT2 (s1:=6) (s2:=62) rfl rfl zbd) ?_)))
     obtain⟨y45,s,h⟩:=zac h
     refine gq (zai (m_ref16_With_ok _ _ _ s) func56 (by kernel_rfl) (lc lf (lc lf ln)) (qa (.xs y45) rfl (gc (zax ?_))))
     obtain rfl:=oi h
     refine ke (pt AF0 4 (.xs y45)) [] rfl (s1 rfl) ⟨rfl,rfl⟩
theorem m_ref16_Replace_S_ok: ∀n:Nat,(∀(a0:List UInt8) (a1:List (List UInt8)) (r:(List UInt8)),zig n a0 a1=some r->Pure Tryz.prog 24 [(.exact (.string (bs a0))),(.row 1 zaa a1)] (.exact (.string (bs r))))
  |0=>(λ _ _ _ h=>by have h':(none:Option _)=some _:=h;cases h')
  |n+1=>by
    have ih:=m_ref16_Replace_S_ok n
    exact λ a0 a1 r h=>m_ref16_Replace_F_ok (zig n) ih a0 a1 r h
theorem m_ref16_Replace_ok (a0:List UInt8) (a1:List (List UInt8)) (r:(List UInt8)) (h:m_ref16_Replace a0 a1=some r):Pure Tryz.prog 24 [(.exact (.string (bs a0))),(.row 1 zaa a1)] (.exact (.string (bs r))):=(m_ref16_Replace_S_ok FU) a0 a1 r h
theorem m_procterm_pick_ok (a0:Int) (a1:List (List UInt8)) (a2:UInt8) (r:(List (List UInt8))) (h:zle a0 a1 a2=some r):Pure Tryz.prog 108 [(.exact (.int .i64 a0)),(.row 1 zaa a1),(.exact (.int .u8 (UInt8.toNat a2:Int)))] (.row 1 zaa r):=by
 unfold zle at h
 refine Pure.ofFun (zan func108 rfl ntmps108 (by simp) rfl (res1 rfl) λ E hE=>zca (sr (qa (.exact (.slice none 0 0)) rfl (gd (qa (.exact (.slice none 0 0)) rfl (gd (qm (.xi a0) rfl ?_)))))))
 obtain⟨y1,f,h⟩:=zac h
 refine gq (zai (m_procterm_form_ok _ _ f) func63 (by kernel_rfl) (lc lf ln) (qa (.xs y1) rfl (gc (zdl h (λ(d:List (List UInt8)) (v7_j2:Value)=>(pt AF0 7 (.exact v7_j2))) (λ(d:List (List UInt8)) (v7_j2:Value)=>[vecT Tryz.prog 26 1 zaa v7_j2 d]) (λ k2 h=> ?_) (λ d v7_j2 h=> ?_)))))
 .refine sr (qm (.xs y1) rfl (G_l rfl (op_rangeS (by kernel_rfl) rfl (λ b17=>gc (zas (zei (zhg a1 a2 y1 k2) (zjo a1 a2 y1 k2) (λ _ _=>rfl) (λ m _ _=>rfl) h (λ(e:List (List UInt8)) (c:Nat) (v7_l2:Value)=>(pt (pt (pt (pt (pt AF0 1 (.row 1 zaa a1)) 2 (.exact (.int .u8 (UInt8.toNat a2:Int)))) 7 (.exact v7_l2)) 8 (.xs y1)) 13 (pA b17 0))) (λ(e:List (List UInt8)) (c:Nat) (v7_l2:Value)=>[vecT Tryz.prog 26 1 zaa v7_l2 e,sitI b17 y1 c]) (.slice none 0 0) ?_ (λ i e c v7_l2 h=> ?_)))))))
  .refine Sub.trans (SubU.to (SubU.nilT (P:=Tryz.prog) (t:=26) (n:=1) (enc:=zaa))) (so (l4 rfl rfl rfl rfl (lq rfl lt0)))
  .unfold zjo at h
   refine sr (G_l rfl (opB_f1 (op_nextS rfl (gq (op_sit0 rfl (gc (zau (kd (p:=c<List.length y1) rfl h (λ hc h=> ?_) (λ hc h=> ?_)))))))))
   .refine zaq (zad (zas (sr (gq (op_sit1 rfl (by assumption) (qa (.xi (c:Int)) rfl (gd (qm (.xs y1) rfl (qm (.xi (c:Int)) rfl ?_)))))))))
    obtain⟨n26,h⟩:=zag h
    refine gq (zbj (by kernel_rfl) rfl rfl n26.1 n26.2 (qm (.exact (.int .u8 (UInt8.toNat a2:Int))) rfl (gq (zjy (a:=(gi y1 (c:Int))) (b:=a2) rfl rfl (gc (kd (p:=(gi y1 (c:Int))=a2) rfl h (λ hc h=> ?_) (λ hc h=> ?_)))))))
    .refine kr (qm (.exact v7_l2) rfl (qm (.row 1 zaa a1) rfl (qm (.xi (c:Int)) rfl ?_)))
     obtain⟨n27,h⟩:=zag h
     refine gq (zaj (by kernel_rfl) rfl rfl n27.1 n27.2 (gq (zap (a:= .xs (gi a1 (c:Int))) (by kernel_rfl) rfl rfl (gq (zcf (n:=1) (enc:=zaa) [gi a1 (c:Int)] (CellsAll.cons rfl CellsOf.str CellsAll.nil) rfl (by kernel_rfl) (LEss.cons (lc lf ln) LEss.nil) ?_)))))
     obtain⟨n28,h⟩:=zag h
     refine G_l rfl (opB_f1 (zeb (by kernel_rfl) rfl rfl zcr n28 (λ v29=>qa (.exact v29) rfl (zay (zar (zab ⟨_,_,v29,h,so (l4 rfl rfl rfl rfl (lq rfl lt0))⟩))))))
    .refine zaq (zar (zab ⟨_,_,v7_l2,h, ?_⟩))
     refine Sub.trans (SubU.to SubU.f1) (so (l4 rfl rfl rfl rfl (lq rfl lt0)))
   .refine zcl (zbo (zbu (zbn (zab ⟨_,v7_l2,h, ?_⟩))))
    refine Sub.trans (SubU.to SubU.drop) (s1 rfl)
 .refine sr (qm (.exact v7_j2) rfl (G_sub rfl (SubU.freezeT2 (s1:=7) (s2:=29) rfl rfl zbd) ?_))
  obtain⟨y30,g,h⟩:=zac h
  refine gq (zai (zeh _ _ g) func109 (by kernel_rfl) (lc lf ln) (qa (.row 1 zaa y30) rfl (gc (zax ?_))))
  obtain rfl:=oi h
  refine ke (pt AF0 6 (.row 1 zaa y30)) [] rfl (s1 rfl) ⟨rfl,rfl⟩
theorem m_procterm_Operands_ok (a0:List UInt8) (r:(List (List UInt8))) (h:zla a0=some r):Pure Tryz.prog 67 [(.exact (.string (bs a0)))] (.row 1 zaa r):=by
 unfold zla at h
 refine Pure.ofFun (zan func67 rfl ntmps67 (by simp) rfl (res1 rfl) λ E hE=>zca (sr (qa (.exact (.slice none 0 0)) rfl (gd (qm (.xs a0) rfl ?_)))))
 obtain⟨y1,f,h⟩:=zac h
 refine gq (zai (m_procterm_open_ok _ _ f) func58 (by kernel_rfl) (lc lf ln) (qm (.tup [.xi y1.1, .row 1 zaa y1.2]) rfl (gq (zbh (av:= .xi y1.1) rfl rfl (gq (zbh (av:= .row 1 zaa y1.2) rfl rfl (qa (.xi y1.1) rfl (qa (.row 1 zaa y1.2) rfl (gc (zau (sr (qm (.xi y1.1) rfl (gq (zlq rfl rfl (gc (kd (p:= ¬y1.1=6) rfl h (λ hc h=> ?_) (λ hc h=> ?_)))))))))))))))))
 .refine sr (qm (.xi y1.1) rfl (qm (.row 1 zaa y1.2) rfl ?_))
  obtain⟨y2,g,h⟩:=zac h
  refine gq (zai (m_procterm_pick_ok _ _ _ _ g) func108 (by kernel_rfl) (lc lf (lc lf (lc lf ln))) (qa (.row 1 zaa y2) rfl (gc (zax (zaz ?_)))))
  obtain rfl:=oi h
  refine ke (pt AF0 2 (.row 1 zaa y2)) [] rfl (s1 rfl) ⟨rfl,rfl⟩
 .refine zaq (zad (sr (qa (.exact (.slice none 0 0)) rfl (gc (zdl h (λ(d:List (List UInt8)) (v5_j3:Value)=>(pt AF0 5 (.exact v5_j3))) (λ(d:List (List UInt8)) (v5_j3:Value)=>[vecT Tryz.prog 26 1 zaa v5_j3 d]) (λ k3 h=> ?_) (λ d v5_j3 h=> ?_))))))
  .refine sr (qm (.row 1 zaa y1.2) rfl ?_)
   obtain⟨y18,i,h⟩:=zac h
   refine gq (zai (m_procterm_pairUp_fz _ _ i) func61 (by kernel_rfl) (lc lf ln) (gq (zaw (by kernel_rfl) rfl (qm (.xi 0) rfl (gc (zas (zei (zgc k3 y18) (zhw k3 y18) (λ _ _=>rfl) (λ m _ _=>rfl) h (λ(e:List (List UInt8)) (b:Int) (v5_l2:Value)=>(pt (pt (pt (pt AF0 5 (.exact v5_l2)) 19 (.row 2 zam y18)) 20 (.xi (List.length y18:Int))) 21 (.xi b))) (λ(e:List (List UInt8)) (b:Int) (v5_l2:Value)=>[vecT Tryz.prog 26 1 zaa v5_l2 e]) (.slice none 0 0) ?_ (λ k e b v5_l2 h=> ?_))))))))
   .refine Sub.trans (SubU.to (SubU.nilT (P:=Tryz.prog) (t:=26) (n:=1) (enc:=zaa))) (s4 rfl rfl rfl rfl)
   .unfold zhw at h
    refine sr (gq (zby rfl rfl (gc (zau (kd (p:=b<(List.length y18:Int)) rfl h (λ hc h=> ?_) (λ hc h=> ?_))))))
    .refine zaq (zad (zau (zas (sr ?_))))
     obtain⟨n27,h⟩:=zag h
     refine gq (zaj (by kernel_rfl) rfl rfl n27.1 n27.2 (gq (zke (m:=2) (c':=zam (gi y18 b)) (by kernel_rfl) rfl rfl rfl (G_l rfl (op_alloc (c:=[.xi (((0,[]):Int×(List UInt8)).1), .xs (((0,[]):Int×(List UInt8)).2)]) rfl (lc lf (lc lf ln)) (λ b28=>G_l rfl (op_store_box (c':=[.xi ((gi y18 b).1), .xs ((gi y18 b).2)]) (c3:=[.xi ((gi y18 b).1), .xs ((gi y18 b).2)]) rfl rfl CellsOf.agg (lc lf (lc lf ln)) (zfm _) (by kernel_rfl) (Nat.le_of_ble_eq_true rfl) rfl (gc (kr (qm (.exact v5_l2) rfl (gq (zeq (o:=1) (by kernel_rfl) rfl (G_r rfl (zer (a:= .xs ((gi y18 b).2)) (by kernel_rfl) rfl rfl (gq (zcf (n:=1) (enc:=zaa) [(gi y18 b).2] (CellsAll.cons rfl CellsOf.str CellsAll.nil) rfl (by kernel_rfl) (LEss.cons (lc lf ln) LEss.nil) ?_))))))))))))))))
     obtain⟨n29,h⟩:=zag h
     refine G_l rfl (opB_f1 (zeb (by kernel_rfl) rfl rfl zcr n29 (λ v30=>qa (.exact v30) rfl (zay (zar (zad (kr (gq (zbx rfl rfl rfl (qm (.xi (i64 (b+1))) rfl (zay (zab ⟨_,_,v30,h, ?_⟩))))))))))))
     refine Sub.trans (SubU.to SubU.f1) (Sub.trans (SubU.to SubU.drop) (s4 rfl rfl rfl rfl))
    .refine zcl (zbo (zbu (zbn (zab ⟨_,v5_l2,h,s1 rfl⟩))))
  .refine sr (qm (.exact v5_j3) rfl (G_sub rfl (SubU.freezeT2 (s1:=5) (s2:=31) rfl rfl zbd) ?_))
   obtain⟨y31,j,h⟩:=zac h
   refine gq (zai (zeh _ _ j) func109 (by kernel_rfl) (lc lf ln) (qa (.row 1 zaa y31) rfl (gc (zax ?_))))
   obtain rfl:=oi h
   refine ke (pt AF0 2 (.row 1 zaa y31)) [] rfl (s1 rfl) ⟨rfl,rfl⟩
end
noncomputable section
open Go.RowKit
attribute [local irreducible] AV.exact AV.top AV.row AV.ptr AV.agg AV.tup AV.eptr AV.fn AV.nilq AV.nilqn opA opB opM opR Quiet Loud Reads wpG awp den Sub SubU Pure Fun vecI vecT boxI CellsAll CellsOf OneC LEs LEss
set_option maxRecDepth 100000
set_option maxHeartbeats 4000000
theorem m_slices_Compact_L_int_int_ok {w0:Value} (a0:List Int) (r:(List Int)) (h:zea a0=some r):Fun Tryz.prog 70 [(.exact w0)] [vecT Tryz.prog 23 1 zbf w0 a0] (λ a s=>a= .row 1 zbf r/\s=[]):=by
 unfold zea at h
 refine zan func70 rfl ntmps70 (by simp) rfl (res1 rfl) λ E hE=>zca (sr (qa (.exact (.slice none 0 0)) rfl (gc (zau (sr (qm (.exact w0) rfl (G_r rfl (zeg (by kernel_rfl) rfl (gq (zby rfl rfl (gc (kd (p:=(List.length a0:Int)<2) rfl h (λ hc h=> ?_) (λ hc h=> ?_)))))))))))))
 .refine sr (qm (.exact w0) rfl (qa (.exact w0) rfl (gc (zax (zaz ?_)))))
  obtain rfl:=oi h
  refine ke (pt AF0 2 (.row 1 zbf a0)) [] rfl (Sub.trans (SubU.to (SubU.freezeT (s:=2) rfl zgy)) (s1 rfl)) ⟨rfl,rfl⟩
 .refine zaq (zad (zdq h ((pt AF0 0 (.exact w0))) ([vecT Tryz.prog 23 1 zbf w0 a0]) (λ k1 h=> ?_) (λ  h=> ?_)))
  .refine sr (qa (.xi 1) rfl (gc (zas (zen (zjn a0 k1) (zjj a0 k1) (λ _=>rfl) (λ m _=>rfl) h (λ(b:Int)=>(pt (pt AF0 0 (.exact w0)) 3 (.xi b))) (λ(b:Int)=>[vecT Tryz.prog 23 1 zbf w0 a0]) ?_ (λ n b h=> ?_)))))
   .exact s2 rfl rfl
   .unfold zjj at h
    refine zau (sr (qm (.xi b) rfl (qm (.exact w0) rfl (G_r rfl (zeg (by kernel_rfl) rfl (gq (zby rfl rfl (gc (kd (p:=b<(List.length a0:Int)) rfl h (λ hc h=> ?_) (λ hc h=> ?_))))))))))
    .refine zaq (zad (zdq h ((pt (pt AF0 0 (.exact w0)) 3 (.xi b))) ([vecT Tryz.prog 23 1 zbf w0 a0]) (λ k628 h=> ?_) (λ  h=> ?_)))
     .refine zas (zau (zdy [] [(0,0),(0,1),(0,4),(0,5),(0,6),(1,2),(1,3),(1,7),(1,8),(0,9)] hmixP (by kernel_rfl) (pq rfl (zae (av:= .exact w0) rfl (pq rfl (zae (av:= .xi b) rfl (pq rfl (zae (av:= .exact w0) rfl (pq rfl (zae (av:= .xi b) rfl (pq rfl (zfo rfl rfl rfl ?_))))))))))))
      obtain⟨n691,h⟩:=zag h
      refine P_r rfl (zce (by kernel_rfl) rfl rfl n691.1 n691.2 (P_r rfl (zdv (i:=b) (o:=0) (a:= .xi (gi a0 b)) (by kernel_rfl) zgy rfl n691.1 n691.2 rfl ?_)))
      obtain⟨n692,h⟩:=zag h
      refine P_r rfl (zce (by kernel_rfl) rfl rfl n692.1 n692.2 (P_r rfl (zdv (i:=i64 (b - 1)) (o:=0) (a:= .xi (gi a0 (i64 (b - 1)))) (by kernel_rfl) zgy rfl n692.1 n692.2 rfl (pq rfl (zbi rfl rfl (zdu (zad (kd (p:=(gi a0 b)=(gi a0 (i64 (b - 1)))) rfl h (λ hc h=> ?_) (λ hc h=> ?_)))))))))
      .refine sr (qm (.exact w0) rfl (qm (.xi b) rfl ?_))
       obtain⟨n693,h⟩:=zag h
       refine G_r rfl (zhr (by kernel_rfl) rfl (zef rfl) zel n693.1 n693.2.1 n693.2.2 (qa (.vsub w0 1 (Int.toNat b) (Int.toNat (List.length a0:Int) - Int.toNat b)) rfl (gc (k_join2_0 h (λ(e:List Int) (d:Int)=>(pt (pt AF0 0 (.exact w0)) 3 (.xi d))) (λ(e:List Int) (d:Int)=>[vecT Tryz.prog 23 1 zbf w0 e]) (λ k694 h=> ?_) (λ e d h=> ?_)))))
       .refine sr (qa (.xi 1) rfl (gc (zas (k_loop3_0 (ziz a0 b k694) (zis a0 b k694) (λ _ _ _=>rfl) (λ m _ _ _=>rfl) h (λ(f:List Int) (g:Int) (c:Int)=>(pt (pt (pt (pt AF0 0 (.exact w0)) 3 (.xi g)) 4 (.vsub w0 1 (Int.toNat b) (Int.toNat (List.length a0:Int) - Int.toNat b))) 5 (.xi c))) (λ(f:List Int) (g:Int) (c:Int)=>[vecT Tryz.prog 23 1 zbf w0 f]) ?_ (λ q f g c h=> ?_)))))
        .exact s4 rfl rfl rfl rfl
        .unfold zis at h
         refine zau (sr (qm (.xi c) rfl (qm (.vsub w0 1 (Int.toNat b) (Int.toNat (List.length a0:Int) - Int.toNat b)) rfl (gq (op_len_vsub (by kernel_rfl) rfl (gq (zby rfl rfl (gc (kd (p:=c<((Int.toNat (List.length a0:Int) - Int.toNat b:Nat):Int)) rfl h (λ hc h=> ?_) (λ hc h=> ?_))))))))))
         .refine zaq (zad (k_join2_0 h (λ(k:List Int) (l:Int)=>(pt (pt (pt (pt AF0 0 (.exact w0)) 3 (.xi l)) 4 (.vsub w0 1 (Int.toNat b) (Int.toNat (List.length a0:Int) - Int.toNat b))) 5 (.xi c))) (λ(k:List Int) (l:Int)=>[vecT Tryz.prog 23 1 zbf w0 k]) (λ k741 h=> ?_) (λ k l h=> ?_)))
          .refine zas (zau (zdy [] [(0,0),(0,1),(0,4),(0,5),(0,6),(1,2),(1,3),(1,7),(1,8),(0,9)] hmixP (by kernel_rfl) (pq rfl (zae (av:= .vsub w0 1 (Int.toNat b) (Int.toNat (List.length a0:Int) - Int.toNat b)) rfl (pq rfl (zae (av:= .xi c) rfl (pq rfl (zae (av:= .vsub w0 1 (Int.toNat b) (Int.toNat (List.length a0:Int) - Int.toNat b)) rfl (pq rfl (zae (av:= .xi c) rfl (pq rfl (zfo rfl rfl rfl ?_))))))))))))
           obtain⟨n746,h⟩:=zag h
           refine P_r rfl (zko (j:=(b+c)) (by kernel_rfl) rfl rfl n746.2.1 (by have hh:=n746;try simp only[i64]at *;omega) (by have hh:=n746;try simp only[i64]at *;omega) (by have hh:=n746;try simp only[i64]at *;omega) (P_r rfl (zdv (i:=(b+c)) (o:=0) (a:= .xi (gi f (b+c))) (by kernel_rfl) zgy rfl n746.2.2.2.1 n746.2.2.2.2 rfl ?_)))
           obtain⟨n747,h⟩:=zag h
           refine P_r rfl (zko (j:=(b+(i64 (c - 1)))) (by kernel_rfl) rfl rfl n747.2.1 (by have hh:=n747;try simp only[i64]at *;omega) (by have hh:=n747;try simp only[i64]at *;omega) (by have hh:=n747;try simp only[i64]at *;omega) (P_r rfl (zdv (i:=(b+(i64 (c - 1)))) (o:=0) (a:= .xi (gi f (b+(i64 (c - 1))))) (by kernel_rfl) zgy rfl n747.2.2.2.1 n747.2.2.2.2 rfl (pq rfl (zlq rfl rfl (zdu (zad (kd (p:= ¬(gi f (b+c))=(gi f (b+(i64 (c - 1))))) rfl h (λ hc h=> ?_) (λ hc h=> ?_)))))))))
           .refine sr (qm (.exact w0) rfl (qm (.xi g) rfl (qm (.vsub w0 1 (Int.toNat b) (Int.toNat (List.length a0:Int) - Int.toNat b)) rfl (qm (.xi c) rfl ?_))))
            obtain⟨n748,h⟩:=zag h
            refine G_r rfl (zko (j:=(b+c)) (by kernel_rfl) rfl rfl n748.2.1 (by have hh:=n748;try simp only[i64]at *;omega) (by have hh:=n748;try simp only[i64]at *;omega) (by have hh:=n748;try simp only[i64]at *;omega) (G_r rfl (zdv (i:=(b+c)) (o:=0) (a:= .xi (gi f (b+c))) (by kernel_rfl) zgy rfl n748.2.2.2.1 n748.2.2.2.2 rfl ?_)))
            obtain⟨n749,h⟩:=zag h
            refine G_r rfl (zce (by kernel_rfl) rfl rfl n749.1 n749.2 (G_l rfl (zjl (i:=g) (o:=0) (z:=gi f (b+c)) (c':=[.xi (gi f (b+c))]) (by kernel_rfl) zgy rfl n749.1 n749.2 rfl CellsOf.int (lc lf ln) (OneC.int OneC.nil) (by kernel_rfl) (Nat.le_of_ble_eq_true rfl) rfl (gc (kr (qm (.xi g) rfl (gq (zbx rfl rfl rfl (qa (.xi (i64 (g+1))) rfl (zay (zar (zab ⟨_,_,h,s4 rfl rfl rfl rfl⟩))))))))))))
           .refine zaq (zar (zab ⟨_,_,h,s4 rfl rfl rfl rfl⟩))
          .refine kr (qm (.xi c) rfl (gq (zbx rfl rfl rfl (qa (.xi (i64 (c+1))) rfl (zay (zab ⟨_,_,_,h,s4 rfl rfl rfl rfl⟩))))))
         .refine zcl (zbo (zbu (zbn (zab ⟨_,_,h,s2 rfl rfl⟩))))
       .refine sr (qm (.exact w0) rfl (qm (.xi d) rfl ?_))
        obtain⟨n750,h⟩:=zag h
        refine G_r rfl (zhr (by kernel_rfl) rfl (zef rfl) zel n750.1 n750.2.1 n750.2.2 (G_l rfl (op_clear (zr:=0) (by kernel_rfl) zgy oc_c_int rfl (by have:=n750;omega) zeroValue3 (λ _ _=>(Fit.ex Fit.nil0)) (gd (qm (.exact w0) rfl (qm (.xi d) rfl (G_sub rfl (SubU.freezeT3 (s1:=0) (s2:=54) (s3:=57) rfl rfl rfl zgy) ?_)))))))
        obtain⟨n751,h⟩:=zag h
        refine gq (op_slice_rowt (by kernel_rfl) rfl zel (zef rfl) (Int.le_refl 0) n751.1 n751.2 (qa (.row 1 zbf (List.take (Int.toNat d) (List.take (Int.toNat d) e++List.replicate (Int.toNat (List.length e:Int) - Int.toNat d) (0:Int)++List.drop (Int.toNat d+(Int.toNat (List.length e:Int) - Int.toNat d)) e))) rfl (gc (zax (zbe (zbr (zbr (zbe (zbr ?_)))))))))
        obtain rfl:=oi h
        refine ke (pt AF0 2 (.row 1 zbf (List.take (Int.toNat d) (List.take (Int.toNat d) e++List.replicate (Int.toNat (List.length e:Int) - Int.toNat d) (0:Int)++List.drop (Int.toNat d+(Int.toNat (List.length e:Int) - Int.toNat d)) e)))) [] rfl (s1 rfl) ⟨rfl,rfl⟩
      .refine zaq (zar (zab ⟨h,s2 rfl rfl⟩))
     .refine kr (qm (.xi b) rfl (gq (zbx rfl rfl rfl (qa (.xi (i64 (b+1))) rfl (zay (zab ⟨_,h,s2 rfl rfl⟩))))))
    .refine zcl (zbo (zbu (zbn (zab ⟨h,s1 rfl⟩))))
  .refine sr (qm (.exact w0) rfl (qa (.exact w0) rfl (gc (zax ?_))))
   obtain rfl:=oi h
   refine ke (pt AF0 2 (.row 1 zbf a0)) [] rfl (Sub.trans (SubU.to (SubU.freezeT (s:=2) rfl zgy)) (s1 rfl)) ⟨rfl,rfl⟩
theorem m_procterm_Holes_F_ok (c:(List UInt8)->Option (List Int)) (hself_procterm_Holes: ∀(a0:List UInt8) (r:(List Int)),c a0=some r->Pure Tryz.prog 25 [(.exact (.string (bs a0)))] (.row 1 zbf r)) (a0:List UInt8) (r:(List Int)) (h:zlz c a0=some r):Pure Tryz.prog 25 [(.exact (.string (bs a0)))] (.row 1 zbf r):=by
 unfold zlz at h
 refine Pure.ofFun (zan func25 rfl ntmps25 (by simp) rfl (res1 rfl) λ E hE=>zca (sr (qa (.exact (.slice none 0 0)) rfl (gd (qa (.exact (.slice none 0 0)) rfl (gd (qm (.xs a0) rfl ?_)))))))
 obtain⟨y1,f,h⟩:=zac h
 refine gq (zai (m_procterm_open_ok _ _ f) func58 (by kernel_rfl) (lc lf ln) (qm (.tup [.xi y1.1, .row 1 zaa y1.2]) rfl (gq (zbh (av:= .xi y1.1) rfl rfl (gq (zbh (av:= .row 1 zaa y1.2) rfl rfl (qa (.xi y1.1) rfl (qa (.row 1 zaa y1.2) rfl (gc (zau (sr (qm (.xi y1.1) rfl (gq (zbi rfl rfl (gc (kd (p:=y1.1=21) rfl h (λ hc h=> ?_) (λ hc h=> ?_)))))))))))))))))
 .refine sr (qm (.row 1 zaa y1.2) rfl ?_)
  obtain⟨n2,h⟩:=zag h
  refine gq (zaj (by kernel_rfl) rfl rfl n2.1 n2.2 (gq (zap (a:= .xs (gi y1.2 0)) (by kernel_rfl) rfl rfl ?_)))
  obtain⟨y3,g,h⟩:=zac h
  refine gq (zai (zku _ _ g) func59 (by kernel_rfl) (lc lf ln) (gq (zcf (n:=1) (enc:=zbf) [y3] (CellsAll.cons rfl CellsOf.int CellsAll.nil) rfl (by kernel_rfl) (LEss.cons (lc lf ln) LEss.nil) (qa (.row 1 zbf [y3]) rfl (gc (zax (zaz ?_)))))))
  obtain rfl:=oi h
  refine ke (pt AF0 2 (.row 1 zbf [y3])) [] rfl (s1 rfl) ⟨rfl,rfl⟩
 .refine zaq (zad (zdl h (λ(d:List Int) (v3_j4:Value)=>(pt AF0 3 (.exact v3_j4))) (λ(d:List Int) (v3_j4:Value)=>[vecT Tryz.prog 23 1 zbf v3_j4 d]) (λ k4 h=> ?_) (λ d v3_j4 h=> ?_)))
  .refine sr (qm (.xs a0) rfl ?_)
   obtain⟨y19,i,h⟩:=zac h
   refine gq (zai (m_procterm_Operands_ok _ _ i) func67 (by kernel_rfl) (lc lf ln) (gq (zaw (by kernel_rfl) rfl (qm (.xi 0) rfl (gc (zas (zei (zgi c k4 y19) (zij c k4 y19) (λ _ _=>rfl) (λ m _ _=>rfl) h (λ(e:List Int) (b:Int) (v3_l2:Value)=>(pt (pt (pt (pt AF0 3 (.exact v3_l2)) 21 (.row 1 zaa y19)) 22 (.xi (List.length y19:Int))) 23 (.xi b))) (λ(e:List Int) (b:Int) (v3_l2:Value)=>[vecT Tryz.prog 23 1 zbf v3_l2 e]) (.slice none 0 0) ?_ (λ q e b v3_l2 h=> ?_))))))))
   .refine Sub.trans (SubU.to (SubU.nilT (P:=Tryz.prog) (t:=23) (n:=1) (enc:=zbf))) (s4 rfl rfl rfl rfl)
   .unfold zij at h
    refine sr (gq (zby rfl rfl (gc (zau (kd (p:=b<(List.length y19:Int)) rfl h (λ hc h=> ?_) (λ hc h=> ?_))))))
    .refine zaq (zad (zau (zas (sr ?_))))
     obtain⟨n28,h⟩:=zag h
     refine gq (zaj (by kernel_rfl) rfl rfl n28.1 n28.2 (gq (zap (a:= .xs (gi y19 b)) (by kernel_rfl) rfl rfl (qa (.xs (gi y19 b)) rfl (gc (kr (qm (.exact v3_l2) rfl (qm (.xs (gi y19 b)) rfl ?_))))))))
     obtain⟨y29,j,h⟩:=zac h
     refine gq (zai (hself_procterm_Holes _ _ j) func25 (by kernel_rfl) (lc lf ln) ?_)
     obtain⟨n30,h⟩:=zag h
     refine G_l rfl (zeb (by kernel_rfl) rfl rfl oc_c_int n30 (λ v31=>qa (.exact v31) rfl (zay (zar (zad (kr (gq (zbx rfl rfl rfl (qm (.xi (i64 (b+1))) rfl (zay (zab ⟨_,_,v31,h,s4 rfl rfl rfl rfl⟩)))))))))))
    .refine zcl (zbo (zbu (zbn (zab ⟨_,v3_l2,h,s1 rfl⟩))))
  .refine sr (qm (.exact v3_j4) rfl ?_)
   obtain⟨y32,k,h⟩:=zac h
   refine G_l rfl (zbc (m_sort_int_ok _ _ k) func68 (by kernel_rfl) (lc lf ln) (gd (qm (.exact v3_j4) rfl ?_)))
   obtain⟨y33,l,h⟩:=zac h
   refine G_l rfl (op_fun_1_0_0 (m_slices_Compact_L_int_int_ok _ _ l) func70 (by kernel_rfl) (lc lf ln) ?_)
   obtain⟨y34,o,h⟩:=zac h
   refine gq (zai (m_slices_Clip_L_int_int_ok _ _ o) func69 (by kernel_rfl) (lc lf ln) (qa (.row 1 zbf y34) rfl (gc (zax ?_))))
   obtain rfl:=oi h
   refine ke (pt AF0 2 (.row 1 zbf y34)) [] rfl (s1 rfl) ⟨rfl,rfl⟩
theorem m_procterm_Holes_S_ok: ∀n:Nat,(∀(a0:List UInt8) (r:(List Int)),zfa n a0=some r->Pure Tryz.prog 25 [(.exact (.string (bs a0)))] (.row 1 zbf r))
  |0=>(λ _ _ h=>by have h':(none:Option _)=some _:=h;cases h')
  |n+1=>by
    have ih:=m_procterm_Holes_S_ok n
    exact λ a0 r h=>m_procterm_Holes_F_ok (zfa n) ih a0 r h
theorem m_procterm_Holes_ok (a0:List UInt8) (r:(List Int)) (h:m_procterm_Holes a0=some r):Pure Tryz.prog 25 [(.exact (.string (bs a0)))] (.row 1 zbf r):=(m_procterm_Holes_S_ok FU) a0 r h
theorem m_law16_ProctermReplaces_ok (a0:List UInt8) (a1:List (List UInt8)) (a2:List Int) (r:Bool) (h:zjp a0 a1 a2=some r):Pure Tryz.prog 4 [(.exact (.string (bs a0))),(.row 1 zaa a1),(.row 1 zbf a2)] (.exact (.bool r)):=by
 unfold zjp at h
 refine Pure.ofFun (zan func4 rfl ntmps4 (by simp) rfl (res1 rfl) λ E hE=>zca (sr (qa (.xb false) rfl (gd (qm (.row 1 zbf a2) rfl ?_)))))
 obtain⟨y1,d,h⟩:=zac h
 refine G_l rfl (zms (m_gen_New_ok _ _ d) func5 (by kernel_rfl) (lc lf ln) (λ b2=>qa (pA b2 0) rfl (gd (qm (pA b2 0) rfl ?_))))
 obtain⟨y3,e,h⟩:=zac h
 refine G_l rfl (zbc (m_law16_holed_ok _ _ _ e) func21 (by kernel_rfl) (lc lf (lc lf ln)) (qa (.xs y3.1) rfl (gd (qm (pA b2 0) rfl ?_))))
 obtain⟨y4,f,h⟩:=zac h
 refine G_l rfl (zbc (zjc _ _ _ _ f) func6 (by kernel_rfl) (lc lf (lc lf (lc lf ln))) (qm (pA b2 0) rfl ?_))
 obtain⟨y5,g,h⟩:=zac h
 refine G_l rfl (zbc (zjc _ _ _ _ g) func6 (by kernel_rfl) (lc lf (lc lf (lc lf ln))) (qm (pA b2 0) rfl ?_))
 obtain⟨y6,i,h⟩:=zac h
 refine G_l rfl (zbc (zjc _ _ _ _ i) func6 (by kernel_rfl) (lc lf (lc lf (lc lf ln))) (qm (pA b2 0) rfl ?_))
 obtain⟨y7,j,h⟩:=zac h
 refine G_l rfl (zbc (zjc _ _ _ _ j) func6 (by kernel_rfl) (lc lf (lc lf (lc lf ln))) (gq (zcf (n:=1) (enc:=zaa) [y4.1,y5.1,y6.1,y7.1] (CellsAll.cons rfl CellsOf.str (CellsAll.cons rfl CellsOf.str (CellsAll.cons rfl CellsOf.str (CellsAll.cons rfl CellsOf.str CellsAll.nil)))) rfl (by kernel_rfl) (LEss.cons (lc lf ln) (LEss.cons (lc lf ln) (LEss.cons (lc lf ln) (LEss.cons (lc lf ln) LEss.nil)))) (qa (.row 1 zaa [y4.1,y5.1,y6.1,y7.1]) rfl (gd (qm (pA b2 0) rfl ?_))))))
 obtain⟨y8,k,h⟩:=zac h
 refine G_l rfl (zbc (zcp _ _ _ k) func7 (by kernel_rfl) (lc lf (lc lf ln)) (qa (.xi y8.1) rfl (gd ?_)))
 obtain⟨y9,l,h⟩:=zac h
 refine gq (zai (zhb _ _ l) func22 (by kernel_rfl) (lc lf ln) (gq (zcf (n:=1) (enc:=zaa) [y9] (CellsAll.cons rfl CellsOf.str CellsAll.nil) rfl (by kernel_rfl) (LEss.cons (lc lf ln) LEss.nil) ?_)))
 obtain⟨y10,m,h⟩:=zac h
 refine gq (zai (zcb _ _ _ m) func11 (by kernel_rfl) (lc lf (lc lf ln)) ?_)
 obtain⟨y11,o,h⟩:=zac h
 refine gq (zai (zhb _ _ o) func22 (by kernel_rfl) (lc lf ln) (gq (zcf (n:=1) (enc:=zaa) [y11] (CellsAll.cons rfl CellsOf.str CellsAll.nil) rfl (by kernel_rfl) (LEss.cons (lc lf ln) LEss.nil) ?_)))
 obtain⟨y12,q,h⟩:=zac h
 refine gq (zai (zcb _ _ _ q) func11 (by kernel_rfl) (lc lf (lc lf ln)) ?_)
 obtain⟨y13,s,h⟩:=zac h
 refine gq (zai (zhb _ _ s) func22 (by kernel_rfl) (lc lf ln) (gq (zcf (n:=1) (enc:=zaa) [y13] (CellsAll.cons rfl CellsOf.str CellsAll.nil) rfl (by kernel_rfl) (LEss.cons (lc lf ln) LEss.nil) ?_)))
 obtain⟨y14,t,h⟩:=zac h
 refine gq (zai (zcb _ _ _ t) func11 (by kernel_rfl) (lc lf (lc lf ln)) ?_)
 obtain⟨y15,u,h⟩:=zac h
 refine gq (zai (zhb _ _ u) func22 (by kernel_rfl) (lc lf ln) (gq (zcf (n:=1) (enc:=zaa) [y15] (CellsAll.cons rfl CellsOf.str CellsAll.nil) rfl (by kernel_rfl) (LEss.cons (lc lf ln) LEss.nil) ?_)))
 obtain⟨y16,v,h⟩:=zac h
 refine gq (zai (zcb _ _ _ v) func11 (by kernel_rfl) (lc lf (lc lf ln)) (gq (zcf (n:=1) (enc:=zaa) [y10,y12,y14,y16] (CellsAll.cons rfl CellsOf.str (CellsAll.cons rfl CellsOf.str (CellsAll.cons rfl CellsOf.str (CellsAll.cons rfl CellsOf.str CellsAll.nil)))) rfl (by kernel_rfl) (LEss.cons (lc lf ln) (LEss.cons (lc lf ln) (LEss.cons (lc lf ln) (LEss.cons (lc lf ln) LEss.nil)))) (qa (.row 1 zaa [y10,y12,y14,y16]) rfl (gd (qm (.xs y3.1) rfl (qm (.row 1 zaa [y4.1,y5.1,y6.1,y7.1]) rfl ?_)))))))
 obtain⟨y17,w,h⟩:=zac h
 refine gq (zai (zfe _ _ _ w) func23 (by kernel_rfl) (lc lf (lc lf ln)) (qa (.xs y17) rfl (gc (zau (zdy [] [(0,0),(0,1),(0,2),(0,3),(0,4),(0,5),(0,6),(0,7),(0,8),(0,9),(0,10),(0,11),(0,12),(0,13),(0,14),(0,15),(0,16),(0,17)] hmixP (by kernel_rfl) (pq rfl (zae (av:= .xs y3.1) rfl (pq rfl (zae (av:= .row 1 zaa [y10,y12,y14,y16]) rfl ?_)))))))))
 obtain⟨y18,x,h⟩:=zac h
 refine pq rfl (zai (zfe _ _ _ x) func23 (by kernel_rfl) (lc lf (lc lf ln)) (pq rfl (zae (av:= .row 1 zaa [y4.1,y5.1,y6.1,y7.1]) rfl ?_)))
 obtain⟨n19,h⟩:=zag h
 refine pq rfl (zaj (by kernel_rfl) rfl rfl n19.1 n19.2 (pq rfl (zap (a:= .xs (gi [y4.1,y5.1,y6.1,y7.1] 3)) (by kernel_rfl) rfl rfl (pq rfl (zae (av:= .row 1 zaa [y4.1,y5.1,y6.1,y7.1]) rfl ?_)))))
 obtain⟨n20,h⟩:=zag h
 refine pq rfl (zaj (by kernel_rfl) rfl rfl n20.1 n20.2 (pq rfl (zap (a:= .xs (gi [y4.1,y5.1,y6.1,y7.1] 2)) (by kernel_rfl) rfl rfl (pq rfl (zae (av:= .row 1 zaa [y4.1,y5.1,y6.1,y7.1]) rfl ?_)))))
 obtain⟨n21,h⟩:=zag h
 refine pq rfl (zaj (by kernel_rfl) rfl rfl n21.1 n21.2 (pq rfl (zap (a:= .xs (gi [y4.1,y5.1,y6.1,y7.1] 1)) (by kernel_rfl) rfl rfl (pq rfl (zae (av:= .row 1 zaa [y4.1,y5.1,y6.1,y7.1]) rfl ?_)))))
 obtain⟨n22,h⟩:=zag h
 refine pq rfl (zaj (by kernel_rfl) rfl rfl n22.1 n22.2 (pq rfl (zap (a:= .xs (gi [y4.1,y5.1,y6.1,y7.1] 0)) (by kernel_rfl) rfl rfl (pq rfl (zcf (n:=1) (enc:=zaa) [gi [y4.1,y5.1,y6.1,y7.1] 3,gi [y4.1,y5.1,y6.1,y7.1] 2,gi [y4.1,y5.1,y6.1,y7.1] 1,gi [y4.1,y5.1,y6.1,y7.1] 0] (CellsAll.cons rfl CellsOf.str (CellsAll.cons rfl CellsOf.str (CellsAll.cons rfl CellsOf.str (CellsAll.cons rfl CellsOf.str CellsAll.nil)))) rfl (by kernel_rfl) (LEss.cons (lc lf ln) (LEss.cons (lc lf ln) (LEss.cons (lc lf ln) (LEss.cons (lc lf ln) LEss.nil)))) ?_)))))
 obtain⟨y23,y,h⟩:=zac h
 refine pq rfl (zai (zfe _ _ _ y) func23 (by kernel_rfl) (lc lf (lc lf ln)) (pq rfl (zba (av:= .xs y23) rfl (zdu (zad (zbb h (λ(b:Bool)=>(pt AF0 6 (.xb b))) (λ(b:Bool)=>[]) (λ k24 h=> ?_) (λ b h=> ?_)))))))
 .refine zdy [] [(0,0),(0,1),(0,2),(0,3),(0,4),(0,5),(0,6),(0,7),(0,8),(0,9),(0,10),(0,11),(0,12),(0,13),(0,14),(0,15),(0,16),(0,17),(0,18),(0,19),(0,20),(0,21),(0,22),(0,23),(0,24),(0,25),(0,26),(0,27),(0,28),(0,29),(0,30),(0,31),(0,32),(0,33),(0,34),(0,35),(0,36),(0,37),(0,38),(0,39),(0,40),(0,41),(0,42),(0,43),(0,44),(0,45),(0,46),(0,47),(0,48),(0,49),(0,50),(0,51),(0,52),(0,53),(0,54),(0,55),(0,56),(0,57),(0,58)] hmixP (by kernel_rfl) ?_
  obtain⟨y37,z,h⟩:=zac h
  refine pq rfl (zai (m_law16_awake_ok _ z) func9 (by kernel_rfl) ln (pq rfl (zae (av:= .xb y37) rfl (P_splitB (c:=y37) 63 rfl (λ hc=> ?_) (λ hc=> ?_)))))
  .replace h:=zdb h hc
   refine py rfl (zae (av:= .xs a0) rfl (py rfl (zae (av:= .row 1 zaa a1) rfl ?_)))
   obtain⟨y38,A,h⟩:=zac h
   refine py rfl (zai (zfe _ _ _ A) func23 (by kernel_rfl) (lc lf (lc lf ln)) (py rfl (zae (av:= .xs a0) rfl (py rfl (zae (av:= .row 1 zaa a1) rfl ?_)))))
   obtain⟨y39,B,h⟩:=zac h
   refine py rfl (zai (m_ref16_Replace_ok _ _ _ B) func24 (by kernel_rfl) (lc lf (lc lf ln)) (py rfl (op_eqlS rfl rfl (pq rfl (zat rfl (av:= .xb (decide (y38=y39))) rfl (pq rfl (zae (av:= .xb (decide (y38=y39))) rfl (zix (p:=y38=y39) 72 rfl (λ hc=> ?_) (λ hc=> ?_)))))))))
   .replace h:=zdb h hc
    refine py rfl (zae (av:= .xs y3.1) rfl (py rfl (zae (av:= .row 1 zaa a1) rfl ?_)))
    obtain⟨y40,C,h⟩:=zac h
    refine py rfl (zai (zfe _ _ _ C) func23 (by kernel_rfl) (lc lf (lc lf ln)) (py rfl (zae (av:= .xs y3.1) rfl (py rfl (zae (av:= .row 1 zaa a1) rfl ?_)))))
    obtain⟨y41,D,h⟩:=zac h
    refine py rfl (zai (m_ref16_Replace_ok _ _ _ D) func24 (by kernel_rfl) (lc lf (lc lf ln)) (py rfl (op_eqlS rfl rfl (pq rfl (zat rfl (av:= .xb (decide (y40=y41))) rfl (pq rfl (zae (av:= .xb (decide (y40=y41))) rfl (zix (p:=y40=y41) 81 rfl (λ hc=> ?_) (λ hc=> ?_)))))))))
    .replace h:=zdb h hc
     refine py rfl (zae (av:= .xs y3.1) rfl (py rfl (zae (av:= .row 1 zaa [y4.1,y5.1,y6.1,y7.1]) rfl (py rfl (zae (av:= .xi y8.1) rfl (py rfl (op_rem rfl rfl (by decide) rfl ?_)))))))
     obtain⟨n42,h⟩:=zag h
     refine py rfl (op_slice_rowt (by kernel_rfl) rfl zel (zef rfl) (Int.le_refl 0) n42.1 n42.2 ?_)
     obtain⟨y43,F,h⟩:=zac h
     refine py rfl (zai (zfe _ _ _ F) func23 (by kernel_rfl) (lc lf (lc lf ln)) (py rfl (zae (av:= .xs y3.1) rfl (py rfl (zae (av:= .row 1 zaa [y4.1,y5.1,y6.1,y7.1]) rfl (py rfl (zae (av:= .xi y8.1) rfl (py rfl (op_rem rfl rfl (by decide) rfl ?_)))))))))
     obtain⟨n44,h⟩:=zag h
     refine py rfl (op_slice_rowt (by kernel_rfl) rfl zel (zef rfl) (Int.le_refl 0) n44.1 n44.2 ?_)
     obtain⟨y45,G,h⟩:=zac h
     refine py rfl (zai (m_ref16_Replace_ok _ _ _ G) func24 (by kernel_rfl) (lc lf (lc lf ln)) (py rfl (op_eqlS rfl rfl (pq rfl (zat rfl (av:= .xb (decide (y43=y45))) rfl (pq rfl (zae (av:= .xb (decide (y43=y45))) rfl (zix (p:=y43=y45) 96 rfl (λ hc=> ?_) (λ hc=> ?_)))))))))
     .replace h:=zdb h hc
      refine py rfl (zae (av:= .xs y17) rfl (py rfl (zae (av:= .xs y3.1) rfl (py rfl (zae (av:= .row 1 zaa [y4.1,y5.1,y6.1,y7.1]) rfl ?_)))))
      obtain⟨y46,H,h⟩:=zac h
      refine py rfl (zai (m_ref16_Replace_ok _ _ _ H) func24 (by kernel_rfl) (lc lf (lc lf ln)) (py rfl (op_eqlS rfl rfl (pq rfl (zat rfl (av:= .xb (decide (y17=y46))) rfl (pq rfl (zae (av:= .xb (decide (y17=y46))) rfl (zix (p:=y17=y46) 103 rfl (λ hc=> ?_) (λ hc=> ?_)))))))))
      .replace h:=zdb h hc
       refine py rfl (zae (av:= .xs y23) rfl (py rfl (zae (av:= .xs y17) rfl (py rfl (op_eqlS rfl rfl (pq rfl (zat rfl (av:= .xb (decide (y23=y17))) rfl (pq rfl (zae (av:= .xb (decide (y23=y17))) rfl (zix (p:=y23=y17) 108 rfl (λ hc=> ?_) (λ hc=> ?_)))))))))))
       .replace h:=zdb h hc
        refine py rfl (zae (av:= .xs y17) rfl ?_)
        obtain⟨y47,I,h⟩:=zac h
        refine py rfl (zai (m_procterm_Holes_ok _ _ I) func25 (by kernel_rfl) (lc lf ln) (py rfl (zaw (by kernel_rfl) rfl (py rfl (zbi rfl rfl (pq rfl (zat rfl (av:= .xb (decide ((List.length y47:Int)=0))) rfl (pq rfl (zae (av:= .xb (decide ((List.length y47:Int)=0))) rfl (zix (p:=(List.length y47:Int)=0) 114 rfl (λ hc=> ?_) (λ hc=> ?_)))))))))))
        .replace h:=zdb h hc
         refine py rfl (zae (av:= .xs y17) rfl ?_)
         obtain⟨y48,J,h⟩:=zac h
         refine py rfl (zai (zfe _ _ _ J) func23 (by kernel_rfl) (lc lf (lc (zep (by decide)) ln)) (py rfl (zae (av:= .xs y17) rfl (py rfl (op_eqlS rfl rfl (pq rfl (zat rfl (av:= .xb (decide (y48=y17))) rfl (pq rfl (zba (av:= .xb (decide (y48=y17))) rfl (zdu (zab ⟨_,h, ?_⟩)))))))))))
         refine Sub.trans (SubU.to SubU.drop) (s1 rfl)
        .replace h:=zdc h hc
         refine pn rfl (pn rfl (pn rfl (pn rfl (pq rfl (zao rfl (av:= .xb false) rfl (pq rfl (zba (av:= .xb false) rfl (zdu (zab ⟨_,h, ?_⟩)))))))))
         refine Sub.trans (SubU.to SubU.drop) (s1 rfl)
       .replace h:=zdc h hc
        refine pn rfl (pn rfl (pn rfl (pn rfl (pq rfl (zao rfl (av:= .xb false) rfl (pq rfl (zae (av:= .xb false) rfl (pn rfl (pn rfl (pn rfl (pn rfl (pq rfl (zao rfl (av:= .xb false) rfl (pq rfl (zba (av:= .xb false) rfl (zdu (zab ⟨_,h, ?_⟩)))))))))))))))))
        refine Sub.trans (SubU.to SubU.drop) (s1 rfl)
      .replace h:=zdc h hc
       refine pn rfl (pn rfl (pn rfl (pq rfl (zao rfl (av:= .xb false) rfl (pq rfl (zae (av:= .xb false) rfl (pn rfl (pn rfl (pn rfl (pn rfl (pq rfl (zao rfl (av:= .xb false) rfl (pq rfl (zae (av:= .xb false) rfl (pn rfl (pn rfl (pn rfl (pn rfl (pq rfl (zao rfl (av:= .xb false) rfl (pq rfl (zba (av:= .xb false) rfl (zdu (zab ⟨_,h, ?_⟩))))))))))))))))))))))))
       refine Sub.trans (SubU.to SubU.drop) (s1 rfl)
     .replace h:=zdc h hc
      refine pn rfl (pn rfl (pn rfl (pn rfl (pn rfl (pq rfl (zao rfl (av:= .xb false) rfl (pq rfl (zae (av:= .xb false) rfl (pn rfl (pn rfl (pn rfl (pq rfl (zao rfl (av:= .xb false) rfl (pq rfl (zae (av:= .xb false) rfl (pn rfl (pn rfl (pn rfl (pn rfl (pq rfl (zao rfl (av:= .xb false) rfl (pq rfl (zae (av:= .xb false) rfl (pn rfl (pn rfl (pn rfl (pn rfl (pq rfl (zao rfl (av:= .xb false) rfl (pq rfl (zba (av:= .xb false) rfl (zdu ?_))))))))))))))))))))))))))))))))
      refine zab ⟨_,h, ?_⟩
      refine Sub.trans (SubU.to SubU.drop) (s1 rfl)
    .replace h:=zdc h hc
     refine pn rfl (pn rfl (pn rfl (pn rfl (pn rfl (pn rfl (pn rfl (pn rfl (pn rfl (pn rfl (pn rfl (pn rfl (pn rfl (pq rfl (zao rfl (av:= .xb false) rfl (pq rfl (zae (av:= .xb false) rfl (pn rfl (pn rfl (pn rfl (pn rfl (pn rfl (pq rfl (zao rfl (av:= .xb false) rfl (pq rfl (zae (av:= .xb false) rfl (pn rfl (pn rfl (pn rfl ?_))))))))))))))))))))))))))))
     refine pq rfl (zao rfl (av:= .xb false) rfl (pq rfl (zae (av:= .xb false) rfl (pn rfl (pn rfl (pn rfl (pn rfl (pq rfl (zao rfl (av:= .xb false) rfl (pq rfl (zae (av:= .xb false) rfl (pn rfl (pn rfl (pn rfl (pn rfl (pq rfl (zao rfl (av:= .xb false) rfl (pq rfl (zba (av:= .xb false) rfl (zdu (zab ⟨_,h, ?_⟩)))))))))))))))))))))
     refine Sub.trans (SubU.to SubU.drop) (s1 rfl)
   .replace h:=zdc h hc
    refine pn rfl (pn rfl (pn rfl (pn rfl (pn rfl (pn rfl (pn rfl (pq rfl (zao rfl (av:= .xb false) rfl (pq rfl (zae (av:= .xb false) rfl (pn rfl (pn rfl (pn rfl (pn rfl (pn rfl (pn rfl (pn rfl (pn rfl (pn rfl (pn rfl (pn rfl (pn rfl (pn rfl (pq rfl (zao rfl (av:= .xb false) rfl (pq rfl (zae (av:= .xb false) rfl (pn rfl ?_))))))))))))))))))))))))))))
    refine pn rfl (pn rfl (pn rfl (pn rfl (pq rfl (zao rfl (av:= .xb false) rfl (pq rfl (zae (av:= .xb false) rfl (pn rfl (pn rfl (pn rfl (pq rfl (zao rfl (av:= .xb false) rfl (pq rfl (zae (av:= .xb false) rfl (pn rfl (pn rfl (pn rfl (pn rfl (pq rfl (zao rfl (av:= .xb false) rfl (pq rfl (zae (av:= .xb false) rfl (pn rfl (pn rfl (pn rfl (pn rfl (pq rfl (zao rfl (av:= .xb false) rfl (pq rfl (zba (av:= .xb false) rfl (zdu (zab ⟨_,h, ?_⟩))))))))))))))))))))))))))))))))
    refine Sub.trans (SubU.to SubU.drop) (s1 rfl)
  .replace h:=zdc h hc
   refine pn rfl (pn rfl (pn rfl (pn rfl (pn rfl (pn rfl (pn rfl (pq rfl (zao rfl (av:= .xb false) rfl (pq rfl (zae (av:= .xb false) rfl (pn rfl (pn rfl (pn rfl (pn rfl (pn rfl (pn rfl (pn rfl (pq rfl (zao rfl (av:= .xb false) rfl (pq rfl (zae (av:= .xb false) rfl (pn rfl (pn rfl (pn rfl (pn rfl (pn rfl (pn rfl (pn rfl ?_))))))))))))))))))))))))))))
   refine pn rfl (pn rfl (pn rfl (pn rfl (pn rfl (pn rfl (pq rfl (zao rfl (av:= .xb false) rfl (pq rfl (zae (av:= .xb false) rfl (pn rfl (pn rfl (pn rfl (pn rfl (pn rfl (pq rfl (zao rfl (av:= .xb false) rfl (pq rfl (zae (av:= .xb false) rfl (pn rfl (pn rfl (pn rfl (pq rfl (zao rfl (av:= .xb false) rfl (pq rfl (zae (av:= .xb false) rfl (pn rfl (pn rfl (pn rfl (pn rfl (pq rfl (zao rfl (av:= .xb false) rfl ?_)))))))))))))))))))))))))))))))
   refine pq rfl (zae (av:= .xb false) rfl (pn rfl (pn rfl (pn rfl (pn rfl (pq rfl (zao rfl (av:= .xb false) rfl (pq rfl (zba (av:= .xb false) rfl (zdu (zab ⟨_,h, ?_⟩)))))))))))
   refine Sub.trans (SubU.to SubU.drop) (s1 rfl)
 .refine zax ?_
  obtain rfl:=oi h
  refine ke (pt AF0 6 (.xb b)) [] rfl (s1 rfl) ⟨rfl,rfl⟩
end
end Go.Proofs.YtloigebekdkijaaGreat
