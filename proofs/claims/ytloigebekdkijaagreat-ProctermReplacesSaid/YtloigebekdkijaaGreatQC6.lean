/- Parts, merged. -/
import Derived.Test.YtloigebekdkijaaGreatQC5
import Derived.Test.YtloigebekdkijaaGreatQC4
import Derived.Test.YtloigebekdkijaaGreatQC1
namespace Go.Proofs.YtloigebekdkijaaGreat
open _root_.Go.Proofs.Tryz
noncomputable section
open Go.RowKit
theorem rFrom_take (R:List (Int×Int)) (p:Int×Int) {k:Nat} {q:Int×Int} (h:R[k]?=some q):((R.take (k+1)).filter (λ q=>decide (p.2=q.1))).map (λ q=>(p.1,q.2))=((R.take k).filter (λ q=>decide (p.2=q.1))).map (λ q=>(p.1,q.2))++(if p.2=q.1 then[(p.1,q.2)]else[]):=by
  rw[List.take_add_one,h,List.filter_append,List.map_append]
  congr 1
  by_cases e:p.2=q.1 <;>simp[e]
theorem rStep_take (R:List (Int×Int)) {i:Nat} {p:Int×Int} (h:R[i]?=some p):(R.take (i+1)).flatMap (rFrom R)=(R.take i).flatMap (rFrom R)++rFrom R p:=by
  rw[List.take_add_one,h,List.flatMap_append];simp
theorem rStep_le (R:List (Int×Int)) (i:Nat):((R.take i).flatMap (rFrom R)).length≤(rStep R).length:=by
  unfold rStep
  have:R.flatMap (rFrom R)=(R.take i).flatMap (rFrom R)++(R.drop i).flatMap (rFrom R):=by rw[←List.flatMap_append,List.take_append_drop]
  rw[this,List.length_append];omega
theorem rFrom_le (R:List (Int×Int)) (p:Int×Int) (k:Nat):(((R.take k).filter (λ q=>decide (p.2=q.1))).map (λ q=>(p.1,q.2))).length≤(rFrom R p).length:=by
  unfold rFrom
  have:(R.filter (λ q=>decide (p.2=q.1))).map (λ q=>(p.1,q.2))=((R.take k).filter (λ q=>decide (p.2=q.1))).map (λ q=>(p.1,q.2))++((R.drop k).filter (λ q=>decide (p.2=q.1))).map (λ q=>(p.1,q.2)):=by
    rw[←List.map_append, ←List.filter_append,List.take_append_drop]
  rw[this,List.length_append];omega
attribute [local irreducible] AV.exact AV.top AV.row AV.ptr AV.agg AV.tup AV.eptr AV.fn AV.nilq AV.nilqn AV.eptrO opA opB opM opR Quiet Loud Reads wpG awp den Sub SubU Pure Fun vecI vecT vecO vecA boxI CellsAll CellsOf OneC LEs LEss FU
set_option maxRecDepth 100000
set_option maxHeartbeats 4000000 in
theorem m_rclose_ok (l:List (Int×Int)) (r:List (Int×Int)×Int) (h:m_rclose zcu l=some r):Pure Tryz.prog 53 [.row 2 zal l] (.tup [.row 2 zal r.1, .exact (.int .i64 r.2)]):=by
  unfold m_rclose at h
  obtain⟨hl,h⟩:=zag h
  have hbad:(∃p∈l, ¬(cVis p.1/\cVis p.2))->r=([],1):=λ hb=>by
    rw[if_pos hb]at h;cases h;rfl
  have hrest:(∀p∈l,cVis p.1/\cVis p.2)-> ∃R N,zcu l=some R/\rIter zcu FU R=some N/\N.length≤137438953472/\((∃p∈N,p.1=p.2)->r=([],14))/\((¬ ∃p∈N,p.1=p.2)->r=(N,0)):=λ hv=>by
    rw[if_neg (by rintro ⟨p,hp,hn⟩;exact hn (hv p hp))]at h
    obtain⟨R,h1,h⟩:=zac h
    obtain⟨N,h2,h⟩:=zac h
    obtain⟨h3,h⟩:=zag h
    refine⟨R,N,h1,h2,h3,λ hk=> ?_,λ hk=> ?_⟩
    . rw[if_pos hk]at h;cases h;rfl
    . rw[if_neg hk]at h;cases h;rfl
  clear h
  refine Pure.ofFun (zan func53 rfl ntmps53 (by simp) rfl (res2 rfl) λ E hE=>zca ?_)
  refine zau ?_
  refine zfy .free hmixP (by kernel_rfl) ?_
  refine G_q rfl (zba (av:= .exact (.slice none 0 0)) rfl ?_)
  refine G_q rfl (zba (av:= .exact (.int .i64 0)) rfl ?_)
  refine zay ?_
  refine zad ?_
  refine zau ?_
  refine zfy .free hmixP (by kernel_rfl) ?_
  refine G_q rfl (zba (av:= .exact (.slice none 0 0)) rfl ?_)
  refine zay ?_
  refine zad ?_
  repeat (refine zau ?_)
  refine zfy .free hmixP (by kernel_rfl) ?_
  refine G_q rfl (zba (av:= .exact (.int .i64 0)) rfl ?_)
  refine zay ?_
  refine zad ?_
  repeat (first|refine zau ?_|refine zas ?_)
  refine k_loop (α:=Nat×Value) (λ x=>AF.put (AF.put (AF.put AF0 (some 0) (.row 2 zal l)) (some 4) (.exact x.2)) (some 5) (.exact (.int .i64 (x.1:Int)))) (λ x=>[vecT Tryz.prog 24 2 zak x.2 (l.take x.1)]) (λ x=>x.1≤l.length/\ ∀p∈l.take x.1,cVis p.1/\cVis p.2) (λ x=>l.length - x.1) (0, .slice none 0 0) ⟨Nat.zero_le _,λ p hp=>by(rw[List.take_zero]at hp;cases hp)⟩ ?_ (λ x hx=> ?_)
  . refine Sub.trans (SubU.to (SubU.nilT (P:=Tryz.prog) (t:=24) (n:=2) (enc:=zak))) ?_
    exact Sub.of_le (AF.le_put (AV.le_eq rfl) (AF.le_put (AV.le_eq rfl) (AF.le_put (AV.le_eq rfl) (AF.le_top _))))
  obtain⟨i,v4⟩:=x
  obtain⟨hi,hv⟩:=hx
  dsimp only at hi hv⊢
  repeat (refine zau ?_)
  refine zfy .free hmixP (by kernel_rfl) ?_
  refine G_q rfl (zae (av:= .exact (.int .i64 (i:Int))) rfl ?_)
  refine G_q rfl (zae (av:= .row 2 zal l) rfl ?_)
  refine G_q rfl (zaw (by kernel_rfl) rfl ?_)
  refine G_q rfl (zby rfl rfl ?_)
  refine zay ?_
  refine zad ?_
  repeat (refine zau ?_)
  refine k_cond_d (p:=(i:Int)<(l.length:Int)) rfl (λ hc=> ?_) (λ hc=> ?_)
  . have hp:=gi_get (xs:=l) (i:=(i:Int)) (by omega) (by omega)
    simp only[Int.toNat_natCast]at hp
    have hpm:gi l (i:Int)∈l:=List.mem_of_getElem? hp
    have htk:l.take (i+1)=l.take i++[gi l (i:Int)]:=by rw[List.take_add_one,hp];rfl
    refine zaq ?_
    refine zad ?_
    repeat (first|refine zau ?_|refine zas ?_)
    refine zfy .free hmixP (by kernel_rfl) ?_
    refine G_q rfl (zae (av:= .row 2 zal l) rfl ?_)
    refine G_q rfl (zae (av:= .exact (.int .i64 (i:Int))) rfl ?_)
    refine G_q rfl (zaj (by kernel_rfl) rfl rfl (by omega) (by omega) ?_)
    refine G_q rfl (zav (o:=0) (c':=(List.drop 0 (zal (gi l (i:Int))))) (by kernel_rfl) rfl rfl ?_)
    refine G_q rfl (zap (a:= .exact (.int .i64 (gi l (i:Int)).1)) (by kernel_rfl) rfl rfl ?_)
    refine G_q rfl (zai (zda _ _ (rvisZ (gi l (i:Int)).1)) func71 (by kernel_rfl) (LEs.cons (AV.le_eq rfl) LEs.nil) ?_)
    refine G_q rfl (op_not_d (p:=cVis (gi l (i:Int)).1) rfl ?_)
    refine G_q rfl (zae (av:= .exact (.bool (decide (¬cVis (gi l (i:Int)).1)))) rfl ?_)
    refine zcm (p:= ¬cVis (gi l (i:Int)).1) 25 rfl (λ hv1=> ?_) (λ hv1=> ?_)
    . have hrr:=hbad ⟨_,hpm,λ h=>hv1 h.1⟩
      subst hrr
      refine G_n rfl rfl ?_
      refine G_n rfl rfl ?_
      refine G_n rfl rfl ?_
      refine G_n rfl rfl ?_
      refine G_n rfl rfl ?_
      refine G_n rfl rfl ?_
      refine G_n rfl rfl ?_
      refine G_q rfl (zat rfl (av:= .exact (.bool true)) rfl ?_)
      refine zay ?_
      refine zad ?_
      repeat (refine zau ?_)
      refine k_cond_t rfl ?_
      repeat (refine zau ?_)
      refine zfy .free hmixP (by kernel_rfl) ?_
      refine G_q rfl (zba (av:= .exact (.slice none 0 0)) rfl ?_)
      refine G_q rfl (zba (av:= .exact (.int .i64 1)) rfl ?_)
      refine zay ?_
      refine zad ?_
      refine zax ?_
      repeat (first|refine zaz ?_|refine zbe ?_|refine zbr ?_)
      refine kP_any (endN (af':=AF.put (AF.put AF0 (some 2) (.row 2 zal [])) (some 3) (.exact (.int .i64 1))) (σ':=[]) _ rfl ?_ ⟨rfl,rfl⟩)
      refine Sub.trans (SubU.to SubU.dropAll) ?_
      exact Sub.of_le (AF.le_put (AV.le_eq rfl) (AF.le_put (zep (by omega)) (AF.le_top _)))
    . have hv1':cVis (gi l (i:Int)).1:=Classical.not_not.1 hv1
      refine Gy_q rfl rfl rfl (zae (av:= .row 2 zal l) rfl ?_)
      refine Gy_q rfl rfl rfl (zae (av:= .exact (.int .i64 (i:Int))) rfl ?_)
      refine Gy_q rfl rfl rfl (zaj (by kernel_rfl) rfl rfl (by omega) (by omega) ?_)
      refine Gy_q rfl rfl rfl (zav (o:=1) (c':=(List.drop 1 (zal (gi l (i:Int))))) (by kernel_rfl) rfl rfl ?_)
      refine Gy_q rfl rfl rfl (zap (a:= .exact (.int .i64 (gi l (i:Int)).2)) (by kernel_rfl) rfl rfl ?_)
      refine Gy_q rfl rfl rfl (zai (zda _ _ (rvisZ (gi l (i:Int)).2)) func71 (by kernel_rfl) (LEs.cons (AV.le_eq rfl) LEs.nil) ?_)
      refine Gy_q rfl rfl rfl (op_not_d (p:=cVis (gi l (i:Int)).2) rfl ?_)
      refine G_q rfl (zao rfl (av:= .exact (.bool (decide (¬cVis (gi l (i:Int)).2)))) rfl ?_)
      refine zay ?_
      refine zad ?_
      repeat (refine zau ?_)
      refine k_cond_d (p:= ¬cVis (gi l (i:Int)).2) rfl (λ hv2=> ?_) (λ hv2=> ?_)
      . have hrr:=hbad ⟨_,hpm,λ h=>hv2 h.2⟩
        subst hrr
        repeat (refine zau ?_)
        refine zfy .free hmixP (by kernel_rfl) ?_
        refine G_q rfl (zba (av:= .exact (.slice none 0 0)) rfl ?_)
        refine G_q rfl (zba (av:= .exact (.int .i64 1)) rfl ?_)
        refine zay ?_
        refine zad ?_
        refine zax ?_
        repeat (first|refine zaz ?_|refine zbe ?_|refine zbr ?_)
        refine kP_any (endN (af':=AF.put (AF.put AF0 (some 2) (.row 2 zal [])) (some 3) (.exact (.int .i64 1))) (σ':=[]) _ rfl ?_ ⟨rfl,rfl⟩)
        refine Sub.trans (SubU.to SubU.dropAll) ?_
        exact Sub.of_le (AF.le_put (AV.le_eq rfl) (AF.le_put (zep (by omega)) (AF.le_top _)))
      . have hv2':cVis (gi l (i:Int)).2:=Classical.not_not.1 hv2
        refine zaq ?_
        refine zad ?_
        repeat (refine zau ?_)
        refine zdy [] [(0,0),(0,1),(0,2),(0,3),(0,4),(0,5),(0,6),(0,7),(0,8),(0,9),(0,10),(0,11),(0,12),(2,13),(0,14)] hmixP (by kernel_rfl) ?_
        refine P_q zdf rfl (zae (av:= .exact v4) rfl ?_)
        refine P_q zdf rfl (zae (av:= .row 2 zal l) rfl ?_)
        refine P_q zdf rfl (zae (av:= .exact (.int .i64 (i:Int))) rfl ?_)
        refine P_q zdf rfl (zaj (by kernel_rfl) rfl rfl (by omega) (by omega) ?_)
        refine P_q zdf rfl (zav (o:=0) (c':=(List.drop 0 (zal (gi l (i:Int))))) (by kernel_rfl) rfl rfl ?_)
        refine P_q zdf rfl (zap (a:= .exact (.int .i64 (gi l (i:Int)).1)) (by kernel_rfl) rfl rfl ?_)
        refine P_q zdf rfl (zae (av:= .row 2 zal l) rfl ?_)
        refine P_q zdf rfl (zae (av:= .exact (.int .i64 (i:Int))) rfl ?_)
        refine P_q zdf rfl (zaj (by kernel_rfl) rfl rfl (by omega) (by omega) ?_)
        refine P_q zdf rfl (zav (o:=1) (c':=(List.drop 1 (zal (gi l (i:Int))))) (by kernel_rfl) rfl rfl ?_)
        refine P_q zdf rfl (zap (a:= .exact (.int .i64 (gi l (i:Int)).2)) (by kernel_rfl) rfl rfl ?_)
        refine P_q zdf rfl (op_bld (c':=zak (gi l (i:Int))) (CellsAll.cons rfl CellsOf.int (CellsAll.cons rfl CellsOf.int CellsAll.nil)) rfl (LEs.cons (AV.le_eq rfl) (LEs.cons (AV.le_eq rfl) LEs.nil)) ?_)
        refine P_q zdf rfl (zcf (n:=2) (enc:=zak) [gi l (i:Int)] (CellsAll.cons rfl CellsOf.agg CellsAll.nil) rfl (by kernel_rfl) (LEss.cons (LEs.cons (AV.le_eq rfl) (LEs.cons (AV.le_eq rfl) LEs.nil)) LEss.nil) ?_)
        have hln:(l.take i).length+[gi l (i:Int)].length≤137438953472:=by
          simp only[List.length_take,List.length_cons,List.length_nil];omega
        refine P_l rfl (zeb (by kernel_rfl) rfl rfl ziq hln (λ v4'=> ?_))
        refine P_q zdf rfl (zba (av:= .exact v4') rfl ?_)
        refine zdu ?_
        repeat (first|refine zar ?_|refine zad ?_)
        refine zfy .free hmixP (by kernel_rfl) ?_
        refine G_q rfl (zae (av:= .exact (.int .i64 (i:Int))) rfl ?_)
        refine G_q rfl (zbx (r:=((i+1:Nat):Int)) rfl rfl (by rw[wrap_i64 _ (by omega)];omega) ?_)
        refine G_q rfl (zba (av:= .exact (.int .i64 ((i+1:Nat):Int))) rfl ?_)
        refine zay ?_
        refine zab ⟨(i+1,v4'),⟨by dsimp only;omega,λ q hq=> ?_⟩,by dsimp only;omega, ?_⟩
        . dsimp only at hq
          rw[htk]at hq
          rcases List.mem_append.1 hq with hq|hq
          . exact hv q hq
          . simp only[List.mem_singleton]at hq
            subst hq;exact⟨hv1',hv2'⟩
        . dsimp only
          rw[htk]
          exact Sub.of_le (AF.le_put (AV.le_eq rfl) (AF.le_put (AV.le_eq rfl) (AF.le_put (AV.le_eq rfl) (AF.le_top _))))
  . obtain rfl:i=l.length:=by omega
    rw[List.take_length]at hv⊢
    obtain⟨R0,N,hR0,hN,hNl,hcyc,hnc⟩:=hrest hv
    refine zcl ?_
    repeat (first|refine zbo ?_|refine zbu ?_)
    refine zbn ?_
    refine zad ?_
    refine awp_sub (SubU.to (SubU.freezeT (s:=4) rfl zco)) ?_
    repeat (refine zau ?_)
    refine zfy .free hmixP (by kernel_rfl) ?_
    refine G_q rfl (zae (av:= .row 2 zak l) rfl ?_)
    refine G_l rfl (zms (m_ref16_Relation_ok _ _ hR0) func52 (by kernel_rfl) (LEs.cons (AV.le_eq rfl) LEs.nil) (λ z0=> ?_))
    refine G_q rfl (zba (av:= .exact z0) rfl ?_)
    refine zay ?_
    refine zad ?_
    repeat (refine zau ?_)
    refine zfy .free hmixP (by kernel_rfl) ?_
    refine G_q rfl (zba (av:= .exact (.bool true)) rfl ?_)
    refine zay ?_
    refine zad ?_
    repeat (first|refine zau ?_|refine zas ?_)
    refine k_loop (α:=Nat×List (Int×Int)×Value×Bool) (λ x=>AF.put (AF.put AF0 (some 4) (.exact x.2.2.1)) (some 6) (.exact (.bool x.2.2.2))) (λ x=>[vecT Tryz.prog 24 2 zak x.2.2.1 x.2.1]) (λ x=>(x.2.2.2=true->rIter zcu x.1 x.2.1=some N)/\(x.2.2.2=false->x.2.1=N)) (λ x=>x.1) (FU,R0,z0,true) ⟨λ _=>hN,λ h=>by cases h⟩ ?_ (λ x hx=> ?_)
    . exact Sub.of_le (AF.le_put (AV.le_eq rfl) (AF.le_put (AV.le_eq rfl) (AF.le_top _)))
    obtain⟨n,R,v4,bb⟩:=x
    obtain⟨hx1,hx2⟩:=hx
    dsimp only at hx1 hx2⊢
    cases bb with
    |true=>
      have hx:=hx1 rfl
      clear hx1 hx2
      cases n with
      |zero=>cases hx
      |succ n=>
      obtain⟨hRl,hx⟩:=zag hx
      obtain⟨N1,hN1,hxr⟩:=zac hx
      have hlR:R.length+(rStep R).length≤137438953472:=by rw[List.length_append]at hRl;exact hRl
      repeat (refine zau ?_)
      refine zfy .free hmixP (by kernel_rfl) ?_
      refine G_q rfl (zae (av:= .exact (.bool true)) rfl ?_)
      refine zay ?_
      refine zad ?_
      repeat (refine zau ?_)
      refine k_cond_t rfl ?_
      refine zaq ?_
      refine zad ?_
      repeat (first|refine zau ?_|refine zas ?_)
      refine zfy .free hmixP (by kernel_rfl) ?_
      refine G_q rfl (zba (av:= .exact (.bool false)) rfl ?_)
      refine zay ?_
      refine zad ?_
      repeat (refine zau ?_)
      refine zfy .free hmixP (by kernel_rfl) ?_
      refine G_q rfl (zae (av:= .exact v4) rfl ?_)
      refine G_q rfl (zba (av:= .exact v4) rfl ?_)
      refine zay ?_
      refine zad ?_
      refine awp_sub (SubU.to SubU.toA) ?_
      repeat (refine zau ?_)
      refine zfy .free hmixP (by kernel_rfl) ?_
      refine G_q rfl (zba (av:= .exact (.int .i64 0)) rfl ?_)
      refine zay ?_
      refine zad ?_
      repeat (first|refine zau ?_|refine zas ?_)
      refine k_loop (α:=Nat×Value) (λ x=>AF.put (AF.put (AF.put AF0 (some 4) (.exact v4)) (some 7) (.exact x.2)) (some 8) (.exact (.int .i64 (x.1:Int)))) (λ x=>[vecA Tryz.prog 24 2 zak v4 R x.2 (R++(R.take x.1).flatMap (rFrom R))]) (λ x=>x.1≤R.length) (λ x=>R.length - x.1) (0,v4) (Nat.zero_le _) ?_ (λ x hx=> ?_)
      . dsimp only
        rw[List.take_zero,List.flatMap_nil,List.append_nil]
        exact Sub.of_le (AF.le_put (AV.le_eq rfl) (AF.le_put (AV.le_eq rfl) (AF.le_put (AV.le_eq rfl) (AF.le_top _))))
      obtain⟨i,vn⟩:=x
      dsimp only at hx⊢
      repeat (refine zau ?_)
      refine zfy .free hmixP (by kernel_rfl) ?_
      refine G_q rfl (zae (av:= .exact (.int .i64 (i:Int))) rfl ?_)
      refine G_q rfl (zae (av:= .exact v4) rfl ?_)
      refine G_r rfl (op_len_borL (by kernel_rfl) (BorL.a1 List.mem_cons_self zco) ?_)
      refine G_q rfl (zby rfl rfl ?_)
      refine zay ?_
      refine zad ?_
      repeat (refine zau ?_)
      refine k_cond_d (p:=(i:Int)<(R.length:Int)) rfl (λ hc=> ?_) (λ hc=> ?_)
      . have hp:=gi_get (xs:=R) (i:=(i:Int)) (by omega) (by omega)
        simp only[Int.toNat_natCast]at hp
        have hst:=rStep_take R hp
        have hle1:=rStep_le R (i+1)
        rw[hst,List.length_append]at hle1
        refine zaq ?_
        refine zad ?_
        repeat (first|refine zau ?_|refine zas ?_)
        refine zfy .free hmixP (by kernel_rfl) ?_
        refine G_q rfl (zba (av:= .exact (.int .i64 0)) rfl ?_)
        refine zay ?_
        refine zad ?_
        repeat (first|refine zau ?_|refine zas ?_)
        refine k_loop (α:=Nat×Value) (λ x=>AF.put (AF.put (AF.put (AF.put AF0 (some 4) (.exact v4)) (some 7) (.exact x.2)) (some 8) (.exact (.int .i64 (i:Int)))) (some 9) (.exact (.int .i64 (x.1:Int)))) (λ x=>[vecA Tryz.prog 24 2 zak v4 R x.2 ((R++(R.take i).flatMap (rFrom R))++((R.take x.1).filter (λ q=>decide ((gi R (i:Int)).2=q.1))).map (λ q=>((gi R (i:Int)).1,q.2)))]) (λ x=>x.1≤R.length) (λ x=>R.length - x.1) (0,vn) (Nat.zero_le _) ?_ (λ x hx2=> ?_)
        . dsimp only
          rw[List.take_zero,List.filter_nil,List.map_nil,List.append_nil]
          exact Sub.of_le (AF.le_put (AV.le_eq rfl) (AF.le_put (AV.le_eq rfl) (AF.le_put (AV.le_eq rfl) (AF.le_put (AV.le_eq rfl) (AF.le_top _)))))
        obtain⟨k,vk⟩:=x
        dsimp only at hx2⊢
        repeat (refine zau ?_)
        refine zfy .free hmixP (by kernel_rfl) ?_
        refine G_q rfl (zae (av:= .exact (.int .i64 (k:Int))) rfl ?_)
        refine G_q rfl (zae (av:= .exact v4) rfl ?_)
        refine G_r rfl (op_len_borL (by kernel_rfl) (BorL.a1 List.mem_cons_self zco) ?_)
        refine G_q rfl (zby rfl rfl ?_)
        refine zay ?_
        refine zad ?_
        repeat (refine zau ?_)
        refine k_cond_d (p:=(k:Int)<(R.length:Int)) rfl (λ hc2=> ?_) (λ hc2=> ?_)
        . have hq:=gi_get (xs:=R) (i:=(k:Int)) (by omega) (by omega)
          simp only[Int.toNat_natCast]at hq
          have hsk:=rFrom_take R (gi R (i:Int)) hq
          have hle2:=rFrom_le R (gi R (i:Int)) (k+1)
          rw[hsk,List.length_append]at hle2
          refine zaq ?_
          refine zad ?_
          repeat (first|refine zau ?_|refine zas ?_)
          refine zdy [] [(0,0),(0,1),(1,2),(0,3),(1,4),(0,5),(0,6),(1,7),(0,8),(1,9),(0,10)] hmixP (by kernel_rfl) ?_
          refine P_q zdf rfl (zae (av:= .exact v4) rfl ?_)
          refine P_q zdf rfl (zae (av:= .exact (.int .i64 (i:Int))) rfl ?_)
          refine P_r rfl (op_index_bor (by kernel_rfl) rfl (BorL.a1 List.mem_cons_self zco) rfl (by omega) (by omega) ?_)
          refine P_q zdf rfl (op_fieldAddr_O (o:=1) (by kernel_rfl) rfl ?_)
          refine P_r rfl (op_load_bor (i:=(i:Int)) (o:=1) (a:= .exact (.int .i64 (gi R (i:Int)).2)) (by kernel_rfl) (BorL.a1 List.mem_cons_self zco) rfl (by omega) (by omega) rfl ?_)
          refine P_q zdf rfl (zae (av:= .exact v4) rfl ?_)
          refine P_q zdf rfl (zae (av:= .exact (.int .i64 (k:Int))) rfl ?_)
          refine P_r rfl (op_index_bor (by kernel_rfl) rfl (BorL.a1 List.mem_cons_self zco) rfl (by omega) (by omega) ?_)
          refine P_q zdf rfl (op_fieldAddr_O (o:=0) (by kernel_rfl) rfl ?_)
          refine P_r rfl (op_load_bor (i:=(k:Int)) (o:=0) (a:= .exact (.int .i64 (gi R (k:Int)).1)) (by kernel_rfl) (BorL.a1 List.mem_cons_self zco) rfl (by omega) (by omega) rfl ?_)
          refine P_q zdf rfl (zbi rfl rfl ?_)
          refine zdu ?_
          refine zad ?_
          repeat (refine zau ?_)
          refine k_cond_d (p:=(gi R (i:Int)).2=(gi R (k:Int)).1) rfl (λ he=> ?_) (λ he=> ?_)
          . rw[if_pos he]at hsk hle2
            refine zdy [] [(0,0),(0,1),(0,2),(1,3),(0,4),(1,5),(0,6),(0,7),(1,8),(0,9),(1,10),(0,11),(0,12),(2,13),(0,14)] hmixP (by kernel_rfl) ?_
            refine P_q zdf rfl (zae (av:= .exact vk) rfl ?_)
            refine P_q zdf rfl (zae (av:= .exact v4) rfl ?_)
            refine P_q zdf rfl (zae (av:= .exact (.int .i64 (i:Int))) rfl ?_)
            refine P_r rfl (op_index_bor (by kernel_rfl) rfl (BorL.a1 List.mem_cons_self zco) rfl (by omega) (by omega) ?_)
            refine P_q zdf rfl (op_fieldAddr_O (o:=0) (by kernel_rfl) rfl ?_)
            refine P_r rfl (op_load_bor (i:=(i:Int)) (o:=0) (a:= .exact (.int .i64 (gi R (i:Int)).1)) (by kernel_rfl) (BorL.a1 List.mem_cons_self zco) rfl (by omega) (by omega) rfl ?_)
            refine P_q zdf rfl (zae (av:= .exact v4) rfl ?_)
            refine P_q zdf rfl (zae (av:= .exact (.int .i64 (k:Int))) rfl ?_)
            refine P_r rfl (op_index_bor (by kernel_rfl) rfl (BorL.a1 List.mem_cons_self zco) rfl (by omega) (by omega) ?_)
            refine P_q zdf rfl (op_fieldAddr_O (o:=1) (by kernel_rfl) rfl ?_)
            refine P_r rfl (op_load_bor (i:=(k:Int)) (o:=1) (a:= .exact (.int .i64 (gi R (k:Int)).2)) (by kernel_rfl) (BorL.a1 List.mem_cons_self zco) rfl (by omega) (by omega) rfl ?_)
            refine P_q zdf rfl (op_bld (c':=zak ((gi R (i:Int)).1,(gi R (k:Int)).2)) (CellsAll.cons rfl CellsOf.int (CellsAll.cons rfl CellsOf.int CellsAll.nil)) rfl (LEs.cons (AV.le_eq rfl) (LEs.cons (AV.le_eq rfl) LEs.nil)) ?_)
            refine P_q zdf rfl (zcf (n:=2) (enc:=zak) [((gi R (i:Int)).1,(gi R (k:Int)).2)] (CellsAll.cons rfl CellsOf.agg CellsAll.nil) rfl (by kernel_rfl) (LEss.cons (LEs.cons (AV.le_eq rfl) (LEs.cons (AV.le_eq rfl) LEs.nil)) LEss.nil) ?_)
            have hlen:((R++(R.take i).flatMap (rFrom R))++((R.take k).filter (λ q=>decide ((gi R (i:Int)).2=q.1))).map (λ q=>((gi R (i:Int)).1,q.2))).length+[((gi R (i:Int)).1,(gi R (k:Int)).2)].length≤LIM:=by
              rw[List.length_append,List.length_append]
              simp only[List.length_cons,List.length_nil]at hle2⊢
              simp only[LIM]
              omega
            refine P_l rfl (op_appA (by kernel_rfl) rfl rfl (by simp) ziq hlen (λ vk'=> ?_))
            refine P_q zdf rfl (zba (av:= .exact vk') rfl ?_)
            refine zdu ?_
            repeat (first|refine zar ?_|refine zad ?_)
            refine zfy .free hmixP (by kernel_rfl) ?_
            refine G_q rfl (zae (av:= .exact (.int .i64 (k:Int))) rfl ?_)
            refine G_q rfl (zbx (r:=((k+1:Nat):Int)) rfl rfl (by rw[wrap_i64 _ (by omega)];omega) ?_)
            refine G_q rfl (zba (av:= .exact (.int .i64 ((k+1:Nat):Int))) rfl ?_)
            refine zay ?_
            refine zab ⟨(k+1,vk'),by dsimp only;omega,by dsimp only;omega, ?_⟩
            dsimp only
            rw[hsk, ←List.append_assoc]
            exact Sub.of_le (AF.le_put (AV.le_eq rfl) (AF.le_put (AV.le_eq rfl) (AF.le_put (AV.le_eq rfl) (AF.le_put (AV.le_eq rfl) (AF.le_top _)))))
          . rw[if_neg he,List.append_nil]at hsk
            refine zaq ?_
            repeat (first|refine zar ?_|refine zad ?_)
            refine zfy .free hmixP (by kernel_rfl) ?_
            refine G_q rfl (zae (av:= .exact (.int .i64 (k:Int))) rfl ?_)
            refine G_q rfl (zbx (r:=((k+1:Nat):Int)) rfl rfl (by rw[wrap_i64 _ (by omega)];omega) ?_)
            refine G_q rfl (zba (av:= .exact (.int .i64 ((k+1:Nat):Int))) rfl ?_)
            refine zay ?_
            refine zab ⟨(k+1,vk),by dsimp only;omega,by dsimp only;omega, ?_⟩
            dsimp only
            rw[hsk]
            exact Sub.of_le (AF.le_put (AV.le_eq rfl) (AF.le_put (AV.le_eq rfl) (AF.le_put (AV.le_eq rfl) (AF.le_put (AV.le_eq rfl) (AF.le_top _)))))
        . obtain rfl:k=R.length:=by omega
          refine zcl ?_
          repeat (first|refine zbo ?_|refine zbu ?_)
          refine zbn ?_
          repeat (first|refine zar ?_|refine zad ?_)
          refine zfy .free hmixP (by kernel_rfl) ?_
          refine G_q rfl (zae (av:= .exact (.int .i64 (i:Int))) rfl ?_)
          refine G_q rfl (zbx (r:=((i+1:Nat):Int)) rfl rfl (by rw[wrap_i64 _ (by omega)];omega) ?_)
          refine G_q rfl (zba (av:= .exact (.int .i64 ((i+1:Nat):Int))) rfl ?_)
          refine zay ?_
          refine zab ⟨(i+1,vk),by dsimp only;omega,by dsimp only;omega, ?_⟩
          dsimp only
          rw[hst,List.take_length, ←List.append_assoc]
          exact Sub.of_le (AF.le_put (AV.le_eq rfl) (AF.le_put (AV.le_eq rfl) (AF.le_put (AV.le_eq rfl) (AF.le_top _))))
      . obtain rfl:i=R.length:=by omega
        rw[List.take_length]
        refine zcl ?_
        repeat (first|refine zbo ?_|refine zbu ?_)
        refine zbn ?_
        refine zad ?_
        refine awp_sub (SubU.to (SubU.freezeA (s1:=4) (s2:=7) rfl rfl rfl zco)) ?_
        repeat (refine zau ?_)
        refine zfy .free hmixP (by kernel_rfl) ?_
        refine G_q rfl (zae (av:= .row 2 zak (R++R.flatMap (rFrom R))) rfl ?_)
        refine G_l rfl (zms (m_ref16_Relation_ok _ _ hN1) func52 (by kernel_rfl) (LEs.cons (AV.le_eq rfl) LEs.nil) (λ z1=> ?_))
        refine G_q rfl (zba (av:= .exact z1) rfl ?_)
        refine zay ?_
        refine zad ?_
        repeat (refine zau ?_)
        refine zfy .free hmixP (by kernel_rfl) ?_
        refine G_q rfl (zae (av:= .exact z1) rfl ?_)
        refine G_r rfl (zeg (by kernel_rfl) rfl ?_)
        refine G_q rfl (zae (av:= .row 2 zak R) rfl ?_)
        refine G_q rfl (zaw (by kernel_rfl) rfl ?_)
        refine G_q rfl (zlh rfl rfl ?_)
        refine G_q rfl (zba (av:= .exact (.bool (decide ((R.length:Int)<(N1.length:Int))))) rfl ?_)
        refine zay ?_
        refine zad ?_
        refine zfy .free hmixP (by kernel_rfl) ?_
        refine G_q rfl (zae (av:= .exact z1) rfl ?_)
        refine G_q rfl (zba (av:= .exact z1) rfl ?_)
        refine zay ?_
        repeat (first|refine zar ?_|refine zad ?_)
        refine zab ⟨(n,N1,z1,decide ((R.length:Int)<(N1.length:Int))),⟨λ hb=> ?_,λ hb=> ?_⟩,Nat.lt_succ_self n, ?_⟩
        . have hb:=of_decide_eq_true hb
          rw[if_pos (by omega)]at hxr;exact hxr
        . have hb:=of_decide_eq_false hb
          rw[if_neg (by omega)]at hxr;exact Option.some.inj hxr
        . exact Sub.of_le (AF.le_put (AV.le_eq rfl) (AF.le_put (AV.le_eq rfl) (AF.le_top _)))
    |false=>
      obtain rfl:R=N:=hx2 rfl
      clear hx1 hx2
      repeat (refine zau ?_)
      refine zfy .free hmixP (by kernel_rfl) ?_
      refine G_q rfl (zae (av:= .exact (.bool false)) rfl ?_)
      refine zay ?_
      refine zad ?_
      repeat (refine zau ?_)
      refine k_cond_f rfl ?_
      refine zcl ?_
      repeat (first|refine zbo ?_|refine zbu ?_)
      refine zbn ?_
      refine zad ?_
      refine awp_sub (SubU.to (SubU.freezeT (s:=4) rfl zco)) ?_
      repeat (refine zau ?_)
      refine zfy .free hmixP (by kernel_rfl) ?_
      refine G_q rfl (zba (av:= .exact (.slice none 0 0)) rfl ?_)
      refine zay ?_
      refine zad ?_
      repeat (refine zau ?_)
      refine zfy .free hmixP (by kernel_rfl) ?_
      refine G_q rfl (zba (av:= .exact (.int .i64 0)) rfl ?_)
      refine zay ?_
      refine zad ?_
      repeat (first|refine zau ?_|refine zas ?_)
      refine k_loop (α:=Nat×Value) (λ x=>AF.put (AF.put (AF.put AF0 (some 4) (.row 2 zak R)) (some 10) (.exact x.2)) (some 11) (.exact (.int .i64 (x.1:Int)))) (λ x=>[vecT Tryz.prog 25 2 zal x.2 (R.take x.1)]) (λ x=>x.1≤R.length/\ ∀p∈R.take x.1,p.1≠p.2) (λ x=>R.length - x.1) (0, .slice none 0 0) ⟨Nat.zero_le _,λ p hp=>by(rw[List.take_zero]at hp;cases hp)⟩ ?_ (λ x hx=> ?_)
      . refine Sub.trans (SubU.to (SubU.nilT (P:=Tryz.prog) (t:=25) (n:=2) (enc:=zal))) ?_
        exact Sub.of_le (AF.le_put (AV.le_eq rfl) (AF.le_put (AV.le_eq rfl) (AF.le_put (AV.le_eq rfl) (AF.le_top _))))
      obtain⟨i,v10⟩:=x
      obtain⟨hi,hne⟩:=hx
      dsimp only at hi hne⊢
      repeat (refine zau ?_)
      refine zfy .free hmixP (by kernel_rfl) ?_
      refine G_q rfl (zae (av:= .exact (.int .i64 (i:Int))) rfl ?_)
      refine G_q rfl (zae (av:= .row 2 zak R) rfl ?_)
      refine G_q rfl (zaw (by kernel_rfl) rfl ?_)
      refine G_q rfl (zby rfl rfl ?_)
      refine zay ?_
      refine zad ?_
      repeat (refine zau ?_)
      refine k_cond_d (p:=(i:Int)<(R.length:Int)) rfl (λ hc=> ?_) (λ hc=> ?_)
      . have hp:=gi_get (xs:=R) (i:=(i:Int)) (by omega) (by omega)
        simp only[Int.toNat_natCast]at hp
        have hpm:gi R (i:Int)∈R:=List.mem_of_getElem? hp
        have htk:R.take (i+1)=R.take i++[gi R (i:Int)]:=by rw[List.take_add_one,hp];rfl
        refine zaq ?_
        refine zad ?_
        repeat (first|refine zau ?_|refine zas ?_)
        refine zdy [] [(0,0),(0,1),(0,2),(0,3),(0,4),(0,5),(0,6),(0,7),(0,8),(0,9),(0,10)] hmixP (by kernel_rfl) ?_
        refine P_q zdf rfl (zae (av:= .row 2 zak R) rfl ?_)
        refine P_q zdf rfl (zae (av:= .exact (.int .i64 (i:Int))) rfl ?_)
        refine P_q zdf rfl (zaj (by kernel_rfl) rfl rfl (by omega) (by omega) ?_)
        refine P_q zdf rfl (zav (o:=0) (c':=(List.drop 0 (zak (gi R (i:Int))))) (by kernel_rfl) rfl rfl ?_)
        refine P_q zdf rfl (zap (a:= .exact (.int .i64 (gi R (i:Int)).1)) (by kernel_rfl) rfl rfl ?_)
        refine P_q zdf rfl (zae (av:= .row 2 zak R) rfl ?_)
        refine P_q zdf rfl (zae (av:= .exact (.int .i64 (i:Int))) rfl ?_)
        refine P_q zdf rfl (zaj (by kernel_rfl) rfl rfl (by omega) (by omega) ?_)
        refine P_q zdf rfl (zav (o:=1) (c':=(List.drop 1 (zak (gi R (i:Int))))) (by kernel_rfl) rfl rfl ?_)
        refine P_q zdf rfl (zap (a:= .exact (.int .i64 (gi R (i:Int)).2)) (by kernel_rfl) rfl rfl ?_)
        refine P_q zdf rfl (zbi rfl rfl ?_)
        refine zdu ?_
        refine zad ?_
        repeat (refine zau ?_)
        refine k_cond_d (p:=(gi R (i:Int)).1=(gi R (i:Int)).2) rfl (λ he=> ?_) (λ he=> ?_)
        . have hrr:=hcyc ⟨_,hpm,he⟩
          subst hrr
          repeat (refine zau ?_)
          refine zfy .free hmixP (by kernel_rfl) ?_
          refine G_q rfl (zba (av:= .exact (.slice none 0 0)) rfl ?_)
          refine G_q rfl (zba (av:= .exact (.int .i64 14)) rfl ?_)
          refine zay ?_
          refine zad ?_
          refine zax ?_
          repeat (first|refine zaz ?_|refine zbe ?_|refine zbr ?_)
          refine kP_any (endN (af':=AF.put (AF.put AF0 (some 2) (.row 2 zal [])) (some 3) (.exact (.int .i64 14))) (σ':=[]) _ rfl ?_ ⟨rfl,rfl⟩)
          refine Sub.trans (SubU.to SubU.dropAll) ?_
          exact Sub.of_le (AF.le_put (AV.le_eq rfl) (AF.le_put (zep (by omega)) (AF.le_top _)))
        . refine zaq ?_
          refine zad ?_
          repeat (refine zau ?_)
          refine zdy [] [(0,0),(0,1),(0,2),(0,3),(0,4),(0,5),(0,6),(0,7),(0,8),(0,9),(0,10),(0,11),(0,12),(2,13),(0,14)] hmixP (by kernel_rfl) ?_
          refine P_q zdf rfl (zae (av:= .exact v10) rfl ?_)
          refine P_q zdf rfl (zae (av:= .row 2 zak R) rfl ?_)
          refine P_q zdf rfl (zae (av:= .exact (.int .i64 (i:Int))) rfl ?_)
          refine P_q zdf rfl (zaj (by kernel_rfl) rfl rfl (by omega) (by omega) ?_)
          refine P_q zdf rfl (zav (o:=0) (c':=(List.drop 0 (zak (gi R (i:Int))))) (by kernel_rfl) rfl rfl ?_)
          refine P_q zdf rfl (zap (a:= .exact (.int .i64 (gi R (i:Int)).1)) (by kernel_rfl) rfl rfl ?_)
          refine P_q zdf rfl (zae (av:= .row 2 zak R) rfl ?_)
          refine P_q zdf rfl (zae (av:= .exact (.int .i64 (i:Int))) rfl ?_)
          refine P_q zdf rfl (zaj (by kernel_rfl) rfl rfl (by omega) (by omega) ?_)
          refine P_q zdf rfl (zav (o:=1) (c':=(List.drop 1 (zak (gi R (i:Int))))) (by kernel_rfl) rfl rfl ?_)
          refine P_q zdf rfl (zap (a:= .exact (.int .i64 (gi R (i:Int)).2)) (by kernel_rfl) rfl rfl ?_)
          refine P_q zdf rfl (op_bld (c':=zal (gi R (i:Int))) (CellsAll.cons rfl CellsOf.int (CellsAll.cons rfl CellsOf.int CellsAll.nil)) rfl (LEs.cons (AV.le_eq rfl) (LEs.cons (AV.le_eq rfl) LEs.nil)) ?_)
          refine P_q zdf rfl (zcf (n:=2) (enc:=zal) [gi R (i:Int)] (CellsAll.cons rfl CellsOf.agg CellsAll.nil) rfl (by kernel_rfl) (LEss.cons (LEs.cons (AV.le_eq rfl) (LEs.cons (AV.le_eq rfl) LEs.nil)) LEss.nil) ?_)
          have hln:(R.take i).length+[gi R (i:Int)].length≤137438953472:=by
            simp only[List.length_take,List.length_cons,List.length_nil];omega
          refine P_l rfl (zeb (by kernel_rfl) rfl rfl zmz hln (λ v10'=> ?_))
          refine P_q zdf rfl (zba (av:= .exact v10') rfl ?_)
          refine zdu ?_
          repeat (first|refine zar ?_|refine zad ?_)
          refine zfy .free hmixP (by kernel_rfl) ?_
          refine G_q rfl (zae (av:= .exact (.int .i64 (i:Int))) rfl ?_)
          refine G_q rfl (zbx (r:=((i+1:Nat):Int)) rfl rfl (by rw[wrap_i64 _ (by omega)];omega) ?_)
          refine G_q rfl (zba (av:= .exact (.int .i64 ((i+1:Nat):Int))) rfl ?_)
          refine zay ?_
          refine zab ⟨(i+1,v10'),⟨by dsimp only;omega,λ q hq=> ?_⟩,by dsimp only;omega, ?_⟩
          . dsimp only at hq
            rw[htk]at hq
            rcases List.mem_append.1 hq with hq|hq
            . exact hne q hq
            . simp only[List.mem_singleton]at hq
              subst hq;exact he
          . dsimp only
            rw[htk]
            exact Sub.of_le (AF.le_put (AV.le_eq rfl) (AF.le_put (AV.le_eq rfl) (AF.le_put (AV.le_eq rfl) (AF.le_top _))))
      . obtain rfl:i=R.length:=by omega
        rw[List.take_length]at hne⊢
        have hrr:=hnc (by rintro ⟨p,hp,e⟩;exact hne p hp e)
        subst hrr
        refine zcl ?_
        repeat (first|refine zbo ?_|refine zbu ?_)
        refine zbn ?_
        refine zad ?_
        repeat (refine zau ?_)
        refine zfy .free hmixP (by kernel_rfl) ?_
        refine G_q rfl (zae (av:= .exact v10) rfl ?_)
        refine G_q rfl (zba (av:= .exact v10) rfl ?_)
        refine G_q rfl (zba (av:= .exact (.int .i64 0)) rfl ?_)
        refine zay ?_
        refine zad ?_
        refine zax ?_
        refine kP_any (endN (af':=AF.put (AF.put AF0 (some 2) (.row 2 zal R)) (some 3) (.exact (.int .i64 0))) (σ':=[]) _ rfl ?_ ⟨rfl,rfl⟩)
        refine Sub.trans (SubU.to (SubU.freezeT (s:=2) rfl len_c_api_Above)) ?_
        exact Sub.of_le (AF.le_put (AV.le_eq rfl) (AF.le_put (AV.le_eq rfl) (AF.le_top _)))
end
noncomputable section
open Go.RowKit
attribute [local irreducible] AV.exact AV.top AV.row AV.ptr AV.agg AV.tup AV.eptr AV.fn AV.nilq AV.nilqn opA opB opM opR Quiet Loud Reads wpG awp den Sub SubU Pure Fun vecI vecT boxI CellsAll CellsOf OneC LEs LEss
set_option maxRecDepth 100000
set_option maxHeartbeats 4000000
theorem m_gen_Choices_Order_ok {w0:Nat} (a0:(List Int)×Int) (r:(List (Int×Int))×((List Int)×Int)) (h:zlj a0=some r):Fun Tryz.prog 19 [(pA w0 0)] [boxI 50 w0 [.row 1 zbf a0.1, .exact (.int .i64 a0.2)]] (λ a s=>a= .row 2 zal r.1/\s=[boxI 50 w0 [.row 1 zbf r.2.1, .exact (.int .i64 r.2.2)]]):=by
 unfold zlj at h
 refine zan func19 rfl ntmps19 (by simp) rfl (res1 rfl) λ E hE=>zca (sr (qa (.exact (.slice none 0 0)) rfl (gd (qa (.exact (.slice none 0 0)) rfl (gc (k_join3_1 h (λ(c:List Int) (d:Int) (e:List (Int×Int)) (v3_j1:Value)=>(pt (pt AF0 0 (pA w0 0)) 3 (.exact v3_j1))) (λ(c:List Int) (d:Int) (e:List (Int×Int)) (v3_j1:Value)=>[boxI 50 w0 [.row 1 zbf c, .xi d],vecT Tryz.prog 25 2 zal v3_j1 e]) (λ k1 h=> ?_) (λ c d e v3_j1 h=> ?_)))))))
 .refine sr (qm (pA w0 0) rfl ?_)
  obtain⟨y31,o,h⟩:=zac h
  refine G_l rfl (zbc (zcp _ _ _ o) func7 (by kernel_rfl) (lc lf (lc lf ln)) (qa (.xi y31.1) rfl (gc (zas (k_loop4_1 (zfz k1) (zhz k1) (λ _ _ _ _=>rfl) (λ m _ _ _ _=>rfl) h (λ(f:List Int) (g:Int) (i:List (Int×Int)) (b:Int) (v3_l2:Value)=>(pt (pt (pt AF0 0 (pA w0 0)) 3 (.exact v3_l2)) 4 (.xi b))) (λ(f:List Int) (g:Int) (i:List (Int×Int)) (b:Int) (v3_l2:Value)=>[boxI 50 w0 [.row 1 zbf f, .xi g],vecT Tryz.prog 25 2 zal v3_l2 i]) (.slice none 0 0) ?_ (λ w f g i b v3_l2 h=> ?_))))))
  .refine Sub.trans (SubU.to (SubU.nilT (P:=Tryz.prog) (t:=25) (n:=2) (enc:=zal))) (Sub.trans (SubU.to SubU.f1) (s3 rfl rfl rfl))
  .unfold zhz at h
   refine zau (sr (qm (.xi b) rfl (gq (zlh rfl rfl (gc (kd (p:=0<b) rfl h (λ hc h=> ?_) (λ hc h=> ?_)))))))
   .refine zaq (zad (k_join3_1 h (λ(j:List Int) (k:Int) (l:List (Int×Int)) (v3_j50:Value)=>(pt (pt (pt AF0 0 (pA w0 0)) 3 (.exact v3_j50)) 4 (.xi b))) (λ(j:List Int) (k:Int) (l:List (Int×Int)) (v3_j50:Value)=>[boxI 50 w0 [.row 1 zbf j, .xi k],vecT Tryz.prog 25 2 zal v3_j50 l]) (λ k50 h=> ?_) (λ j k l v3_j50 h=> ?_)))
    .refine zas (sr (qm (pA w0 0) rfl ?_))
     obtain⟨y55,q,h⟩:=zac h
     refine G_l rfl (zbc (zey _ _ q) func8 (by kernel_rfl) (lc lf ln) (qm (pA w0 0) rfl ?_))
     obtain⟨y56,u,h⟩:=zac h
     refine G_l rfl (zbc (zey _ _ u) func8 (by kernel_rfl) (lc lf ln) (qa (.xi y55.1) rfl (qa (.xi y56.1) rfl (gd (qm (.xi y55.1) rfl (qm (.xi y56.1) rfl (gq (zlq rfl rfl (gc (kd (p:= ¬y55.1=y56.1) rfl h (λ hc h=> ?_) (λ hc h=> ?_)))))))))))
     .refine kr (qm (.exact v3_l2) rfl (qm (.xi y55.1) rfl (qm (.xi y56.1) rfl (gq (op_min rfl rfl (qm (.xi y55.1) rfl (qm (.xi y56.1) rfl (gq (op_max rfl rfl (gq (op_bld (c':=zal (min y55.1 y56.1,max y55.1 y56.1)) (CellsAll.cons rfl CellsOf.int (CellsAll.cons rfl CellsOf.int CellsAll.nil)) rfl (lc lf (lc lf ln)) (gq (zcf (n:=2) (enc:=zal) [(min y55.1 y56.1,max y55.1 y56.1)] (CellsAll.cons rfl CellsOf.agg CellsAll.nil) rfl (by kernel_rfl) (LEss.cons (lc lf (lc lf ln)) LEss.nil) ?_)))))))))))))
      obtain⟨n57,h⟩:=zag h
      refine G_l rfl (opB_f1 (zeb (by kernel_rfl) rfl rfl zmz n57 (λ v58=>qa (.exact v58) rfl (zay (zar (zab ⟨_,_,_,v58,h, ?_⟩))))))
      refine Sub.trans (SubU.to SubU.f1) (s3 rfl rfl rfl)
     .refine zaq (zar (zab ⟨_,_,_,v3_l2,h,s3 rfl rfl rfl⟩))
    .refine kr (qm (.xi b) rfl (gq (zfo rfl rfl rfl (qa (.xi (i64 (b - 1))) rfl (zay (zab ⟨_,_,_,_,v3_j50,h,s3 rfl rfl rfl⟩))))))
   .refine zcl (zbo (zbu (zbn (zab ⟨_,_,_,v3_l2,h,s2 rfl rfl⟩))))
 .refine sr (qm (.exact v3_j1) rfl (G_sub rfl (SubU.trans SubU.f1 (SubU.freezeT2 (s1:=3) (s2:=33) rfl rfl len_c_api_Above)) ?_))
  obtain⟨y59,v,h⟩:=zac h
  refine gq (zai (m_rclose_ok _ _ v) func53 (by kernel_rfl) (lc lf ln) (qm (.tup [.row 2 zal y59.1, .xi y59.2]) rfl (gq (zbh (av:= .row 2 zal y59.1) rfl rfl (gq (zbh (av:= .xi y59.2) rfl rfl (qa (.row 2 zal y59.1) rfl (qa (.xi y59.2) rfl (gd (qm (.row 2 zal y59.1) rfl (qa (.row 2 zal y59.1) rfl (gc (zax ?_)))))))))))))
  obtain rfl:=oi h
  refine ke (pt AF0 2 (.row 2 zal y59.1)) [boxI 50 w0 [.row 1 zbf c, .xi d]] rfl (s1 rfl) ⟨rfl,rfl⟩
theorem m_gen_Choices_Term_F_ok {w0:Nat} (e:((List Int)×Int)->Int->Int->Option ((List UInt8)×((List Int)×Int))) (hself_gen_Choices_Term: ∀ ⦃w0:Nat⦄ (a0:(List Int)×Int) (a1:Int) (a2:Int) (r:(List UInt8)×((List Int)×Int)),e a0 a1 a2=some r->Fun Tryz.prog 6 [(pA w0 0),(.exact (.int .i64 a1)),(.exact (.int .i64 a2))] [boxI 50 w0 [.row 1 zbf a0.1, .exact (.int .i64 a0.2)]] (λ a s=>a= .exact (.string (bs r.1))/\s=[boxI 50 w0 [.row 1 zbf r.2.1, .exact (.int .i64 r.2.2)]])) (a0:(List Int)×Int) (a1:Int) (a2:Int) (r:(List UInt8)×((List Int)×Int)) (h:zfs e a0 a1 a2=some r):Fun Tryz.prog 6 [(pA w0 0),(.exact (.int .i64 a1)),(.exact (.int .i64 a2))] [boxI 50 w0 [.row 1 zbf a0.1, .exact (.int .i64 a0.2)]] (λ a s=>a= .exact (.string (bs r.1))/\s=[boxI 50 w0 [.row 1 zbf r.2.1, .exact (.int .i64 r.2.2)]]):=by
 unfold zfs at h
 refine zan func6 rfl ntmps6 (by simp) rfl (res1 rfl) λ E hE=>zca (sr (qa (.xs ([]:List UInt8)) rfl (gd (qm (pA w0 0) rfl ?_))))
 obtain⟨y1,y,h⟩:=zac h
 refine G_l rfl (zbc (zcp _ _ _ y) func7 (by kernel_rfl) (lc lf (lc lf ln)) (qa (.xi y1.1) rfl (gc (zbb h (λ(b:Int)=>(pt (pt (pt (pt AF0 0 (pA w0 0)) 1 (.xi a1)) 2 (.xi a2)) 7 (.xi b))) (λ(b:Int)=>[boxI 50 w0 [.row 1 zbf y1.2.1, .xi y1.2.2]]) (λ k2 h=> ?_) (λ b h=> ?_)))))
 .refine sr (qm (.xi a1) rfl (gq (op_leq rfl rfl (gc (kd (p:=a1≤1) rfl h (λ hc h=> ?_) (λ hc h=> ?_))))))
  .refine kr (qm (.xi y1.1) rfl (gq (op_rem rfl rfl (by decide) rfl (qa (.xi (Int.tmod y1.1 5)) rfl (zay (zab ⟨_,h,s4 rfl rfl rfl rfl⟩))))))
  .refine zaq (zab ⟨_,h,s4 rfl rfl rfl rfl⟩)
 .refine zdq h ((pt (pt (pt AF0 0 (pA w0 0)) 1 (.xi a1)) 2 (.xi a2))) ([boxI 50 w0 [.row 1 zbf y1.2.1, .xi y1.2.2]]) (λ k3 h=> ?_) (λ  h=> ?_)
  .refine sr (qm (.xi b) rfl (gc (zas (sr (gq (zbi rfl rfl (qa (.xb (decide (b=0))) rfl (gc (kd (p:=b=0) rfl h (λ hc h=> ?_) (λ hc h=> ?_))))))))))
   .refine zau (sr (qm (.xi a2) rfl (gq (zlh rfl rfl (gc (kd (p:=0<a2) rfl h (λ hc h=> ?_) (λ hc h=> ?_)))))))
    .refine sr (qm (pA w0 0) rfl (qm (.xi a2) rfl ?_))
     obtain⟨y115,z,h⟩:=zac h
     refine G_l rfl (zbc (zcp _ _ _ z) func7 (by kernel_rfl) (lc lf (lc lf ln)) ?_)
     obtain⟨y116,A,h⟩:=zac h
     refine gq (zai (m_ref16_Call_ok _ _ _ A) func26 (by kernel_rfl) (lc lf (lc (zep (by decide)) ln)) (qa (.xs y116) rfl (gc (zax (zaz (zbe (zbr ?_)))))))
     obtain rfl:=oi h
     refine ke (pt AF0 6 (.xs y116)) [boxI 50 w0 [.row 1 zbf y115.2.1, .xi y115.2.2]] rfl (s1 rfl) ⟨rfl,rfl⟩
    .refine zaq (zad (sr ?_))
     obtain⟨y117,B,h⟩:=zac h
     refine gq (zai (zcb _ _ _ B) func11 (by kernel_rfl) (lc lf (lc (zep (by decide)) ln)) (qa (.xs y117) rfl (gc (zax (zbe (zbr ?_))))))
     obtain rfl:=oi h
     refine ke (pt AF0 6 (.xs y117)) [boxI 50 w0 [.row 1 zbf y1.2.1, .xi y1.2.2]] rfl (s1 rfl) ⟨rfl,rfl⟩
   .refine sr (gq (zbi rfl rfl (qa (.xb (decide (b=1))) rfl (gc (kd (p:=b=1) rfl h (λ hc h=> ?_) (λ hc h=> ?_))))))
    .refine sr ?_
     obtain⟨y118,C,h⟩:=zac h
     refine gq (zai (zcb _ _ _ C) func11 (by kernel_rfl) (lc lf (lc (zep (by decide)) ln)) (qa (.xs y118) rfl (gc (zax (zbe (zbr ?_))))))
     obtain rfl:=oi h
     refine ke (pt AF0 6 (.xs y118)) [boxI 50 w0 [.row 1 zbf y1.2.1, .xi y1.2.2]] rfl (s1 rfl) ⟨rfl,rfl⟩
    .refine sr (gq (zbi rfl rfl (qa (.xb (decide (b=2))) rfl (gc (kd (p:=b=2) rfl h (λ hc h=> ?_) (λ hc h=> ?_))))))
     .refine sr ?_
      obtain⟨y119,D,h⟩:=zac h
      refine gq (zai (zcb _ _ _ D) func11 (by kernel_rfl) (lc lf (lc (zep (by decide)) ln)) (qa (.xs y119) rfl (gc (zax (zbe (zbr ?_))))))
      obtain rfl:=oi h
      refine ke (pt AF0 6 (.xs y119)) [boxI 50 w0 [.row 1 zbf y1.2.1, .xi y1.2.2]] rfl (s1 rfl) ⟨rfl,rfl⟩
     .refine sr (gq (zbi rfl rfl (qa (.xb (decide (b=3))) rfl (gc (kd (p:=b=3) rfl h (λ hc h=> ?_) (λ hc h=> ?_))))))
      .refine zau (sr (qm (pA w0 0) rfl ?_))
       obtain⟨y120,F,h⟩:=zac h
       refine G_l rfl (zbc (zcp _ _ _ F) func7 (by kernel_rfl) (lc lf (lc lf ln)) (gq (zbi rfl rfl (gc (kd (p:=y120.1=3) rfl h (λ hc h=> ?_) (λ hc h=> ?_))))))
       .refine sr ?_
        obtain⟨y121,G,h⟩:=zac h
        refine gq (zai (zcb _ _ _ G) func11 (by kernel_rfl) (lc lf (lc (zep (by decide)) ln)) (qa (.xs y121) rfl (gc (zax (zaz (zbe (zbr ?_)))))))
        obtain rfl:=oi h
        refine ke (pt AF0 6 (.xs y121)) [boxI 50 w0 [.row 1 zbf y120.2.1, .xi y120.2.2]] rfl (s1 rfl) ⟨rfl,rfl⟩
       .refine zaq (zad (sr (qm (pA w0 0) rfl ?_)))
        obtain⟨y122,H,h⟩:=zac h
        refine G_l rfl (zbc (zey _ _ H) func8 (by kernel_rfl) (lc lf ln) ?_)
        obtain⟨y123,I,h⟩:=zac h
        refine gq (zai (zcb _ _ _ I) func11 (by kernel_rfl) (lc lf (lc (zep (by decide)) ln)) (gq (op_bld (c':=zam (y122.1,y123)) (CellsAll.cons rfl CellsOf.int (CellsAll.cons rfl CellsOf.str CellsAll.nil)) rfl (lc lf (lc lf ln)) (gq (zcf (n:=2) (enc:=zam) [(y122.1,y123)] (CellsAll.cons rfl CellsOf.agg CellsAll.nil) rfl (by kernel_rfl) (LEss.cons (lc lf (lc lf ln)) LEss.nil) ?_)))))
        obtain⟨y124,J,h⟩:=zac h
        refine gq (zai (m_ref16_Prefix_ok _ _ J) func27 (by kernel_rfl) (lc lf ln) (qa (.xs y124) rfl (gc (zax (zbe (zbr ?_))))))
        obtain rfl:=oi h
        refine ke (pt AF0 6 (.xs y124)) [boxI 50 w0 [.row 1 zbf y122.2.1, .xi y122.2.2]] rfl (s1 rfl) ⟨rfl,rfl⟩
      .refine zbb h (λ(f:Bool)=>(pt (pt (pt (pt (pt AF0 0 (pA w0 0)) 1 (.xi a1)) 2 (.xi a2)) 19 (.xi b)) 47 (.xb f))) (λ(f:Bool)=>[boxI 50 w0 [.row 1 zbf y1.2.1, .xi y1.2.2]]) (λ k125 h=> ?_) (λ f h=> ?_)
       .refine sr (gq (zbi rfl rfl (qa (.xb (decide (b=4))) rfl (gc (kd (p:=b=4) rfl h (λ hc h=> ?_) (λ hc h=> ?_))))))
        .refine zaq (zab ⟨_,h,so (l4 rfl rfl rfl rfl (lq rfl lt0))⟩)
        .refine sr (gq (zbi rfl rfl (qa (.xb (decide (b=5))) rfl (gc (kd (p:=b=5) rfl h (λ hc h=> ?_) (λ hc h=> ?_))))))
         .refine zaq (zab ⟨_,h,so (l4 rfl rfl rfl rfl (lq rfl lt0))⟩)
         .refine sr (gq (zbi rfl rfl (qa (.xb (decide (b=6))) rfl (gc (kd (p:=b=6) rfl h (λ hc h=> ?_) (λ hc h=> ?_))))))
          .refine zaq (zab ⟨_,h,so (l4 rfl rfl rfl rfl (lq rfl lt0))⟩)
          .refine sr (gq (zbi rfl rfl (qa (.xb (decide (b=7))) rfl (gc (kd (p:=b=7) rfl h (λ hc h=> ?_) (λ hc h=> ?_))))))
           .refine zaq (zab ⟨_,h,so (l4 rfl rfl rfl rfl (lq rfl lt0))⟩)
           .refine kr (gq (zbi rfl rfl (qa (.xb (decide (b=8))) rfl (zay (zab ⟨_,h,so (l4 rfl rfl rfl rfl (lq rfl lt0))⟩)))))
       .refine kb (p:=f) rfl h (λ hc h=> ?_) (λ hc h=> ?_)
        .refine sr (qa (.exact (.slice none 0 0)) rfl (gc (k_join3_1 h (λ(g:List Int) (i:Int) (l:List (Int×(List UInt8))) (v8_j126:Value)=>(pt (pt AF0 0 (pA w0 0)) 8 (.exact v8_j126))) (λ(g:List Int) (i:Int) (l:List (Int×(List UInt8))) (v8_j126:Value)=>[boxI 50 w0 [.row 1 zbf g, .xi i],vecT Tryz.prog 27 2 zam v8_j126 l]) (λ k126 h=> ?_) (λ g i l v8_j126 h=> ?_))))
         .refine sr (qm (pA w0 0) rfl ?_)
          obtain⟨y141,K,h⟩:=zac h
          refine G_l rfl (zbc (zcp _ _ _ K) func7 (by kernel_rfl) (lc lf (lc lf ln)) (gq (zbx rfl rfl rfl (qa (.xi (i64 (1+y141.1))) rfl (gc (zas (k_loop4_1 (zee e a1 a2 k126) (zfh e a1 a2 k126) (λ _ _ _ _=>rfl) (λ m _ _ _ _=>rfl) h (λ(q:List Int) (u:Int) (v:List (Int×(List UInt8))) (d:Int) (v8_l6:Value)=>(pt (pt (pt (pt (pt AF0 0 (pA w0 0)) 1 (.xi a1)) 2 (.xi a2)) 8 (.exact v8_l6)) 9 (.xi d))) (λ(q:List Int) (u:Int) (v:List (Int×(List UInt8))) (d:Int) (v8_l6:Value)=>[boxI 50 w0 [.row 1 zbf q, .xi u],vecT Tryz.prog 27 2 zam v8_l6 v]) (.slice none 0 0) ?_ (λ ba q u v d v8_l6 h=> ?_))))))))
          .refine Sub.trans (SubU.to (SubU.nilT (P:=Tryz.prog) (t:=27) (n:=2) (enc:=zam))) (Sub.trans (SubU.to SubU.f1) (so (l4 rfl rfl rfl rfl (lq rfl lt0))))
          .unfold zfh at h
           refine zau (sr (qm (.xi d) rfl (gq (zlh rfl rfl (gc (kd (p:=0<d) rfl h (λ hc h=> ?_) (λ hc h=> ?_)))))))
           .refine zaq (zad (zau (zas (kr (qm (.exact v8_l6) rfl (qm (pA w0 0) rfl ?_))))))
            obtain⟨y150,L,h⟩:=zac h
            refine G_l rfl (zbc (zey _ _ L) func8 (by kernel_rfl) (lc lf ln) (qm (pA w0 0) rfl (qm (.xi a1) rfl (gq (zfo rfl rfl rfl (qm (.xi a2) rfl ?_))))))
            obtain⟨y151,M,h⟩:=zac h
            refine G_l rfl (zbc (hself_gen_Choices_Term _ _ _ _ M) func6 (by kernel_rfl) (lc lf (lc lf (lc lf ln))) (gq (op_bld (c':=zam (y150.1,y151.1)) (CellsAll.cons rfl CellsOf.int (CellsAll.cons rfl CellsOf.str CellsAll.nil)) rfl (lc lf (lc lf ln)) (gq (zcf (n:=2) (enc:=zam) [(y150.1,y151.1)] (CellsAll.cons rfl CellsOf.agg CellsAll.nil) rfl (by kernel_rfl) (LEss.cons (lc lf (lc lf ln)) LEss.nil) ?_)))))
            obtain⟨n152,h⟩:=zag h
            refine G_l rfl (opB_f1 (zeb (by kernel_rfl) rfl rfl zfm n152 (λ v153=>qa (.exact v153) rfl (zay (zar (zad (kr (qm (.xi d) rfl (gq (zfo rfl rfl rfl (qa (.xi (i64 (d - 1))) rfl (zay (zab ⟨_,_,_,_,v153,h, ?_⟩)))))))))))))
            refine Sub.trans (SubU.to SubU.f1) (so (l4 rfl rfl rfl rfl (lq rfl lt0)))
           .refine zcl (zbo (zbu (zbn (zab ⟨_,_,_,v8_l6,h,s2 rfl rfl⟩))))
         .refine sr (qm (.exact v8_j126) rfl (G_sub rfl (SubU.trans SubU.f1 (SubU.freezeT2 (s1:=8) (s2:=71) rfl rfl zbw)) ?_))
          obtain⟨y154,N,h⟩:=zac h
          refine gq (zai (m_ref16_Prefix_ok _ _ N) func27 (by kernel_rfl) (lc lf ln) (qa (.xs y154) rfl (gc (zax (zbe (zbr ?_))))))
          obtain rfl:=oi h
          refine ke (pt AF0 6 (.xs y154)) [boxI 50 w0 [.row 1 zbf g, .xi i]] rfl (s1 rfl) ⟨rfl,rfl⟩
        .refine zbb h (λ(j:Bool)=>(pt (pt (pt (pt (pt AF0 0 (pA w0 0)) 1 (.xi a1)) 2 (.xi a2)) 19 (.xi b)) 73 (.xb j))) (λ(j:Bool)=>[boxI 50 w0 [.row 1 zbf y1.2.1, .xi y1.2.2]]) (λ k155 h=> ?_) (λ j h=> ?_)
         .refine sr (gq (zbi rfl rfl (qa (.xb (decide (b=9))) rfl (gc (kd (p:=b=9) rfl h (λ hc h=> ?_) (λ hc h=> ?_))))))
          .refine zaq (zab ⟨_,h,so (l4 rfl rfl rfl rfl (lq rfl lt0))⟩)
          .refine kr (gq (zbi rfl rfl (qa (.xb (decide (b=10))) rfl (zay (zab ⟨_,h,so (l4 rfl rfl rfl rfl (lq rfl lt0))⟩)))))
         .refine kb (p:=j) rfl h (λ hc h=> ?_) (λ hc h=> ?_)
          .refine zau (zdy [] [(0,0),(0,1),(0,5),(0,6),(0,7),(0,8),(0,10),(0,11),(0,12),(0,13),(2,2),(0,3),(0,4),(2,9),(2,14),(0,15),(0,16)] hmixP (by kernel_rfl) (pq rfl (zcf (n:=1) (enc:=zbf) [7,8,9,10,11] (CellsAll.cons rfl CellsOf.int (CellsAll.cons rfl CellsOf.int (CellsAll.cons rfl CellsOf.int (CellsAll.cons rfl CellsOf.int (CellsAll.cons rfl CellsOf.int CellsAll.nil))))) rfl (by kernel_rfl) (LEss.cons (lc lf ln) (LEss.cons (lc lf ln) (LEss.cons (lc lf ln) (LEss.cons (lc lf ln) (LEss.cons (lc lf ln) LEss.nil))))) (pq rfl (zae (av:=pA w0 0) rfl (pq rfl (zae (av:=pA w0 0) rfl (pq rfl (zae (av:= .xi a1) rfl (pq rfl (zfo rfl rfl rfl (pq rfl (zae (av:= .xi a2) rfl (pq rfl (zae (av:=pA w0 0) rfl (pq rfl (zae (av:= .xi a1) rfl (pq rfl (zfo rfl rfl rfl (pq rfl (zae (av:= .xi a2) rfl ?_)))))))))))))))))))))
           obtain⟨y156,O,h⟩:=zac h
           refine P_l rfl (zbc (zcp _ _ _ O) func7 (by kernel_rfl) (lc lf (lc lf ln)) ?_)
           obtain⟨n157,h⟩:=zag h
           refine pq rfl (zaj (by kernel_rfl) rfl rfl n157.1 n157.2 (pq rfl (zap (a:= .xi (gi [7,8,9,10,11] y156.1)) (by kernel_rfl) rfl rfl ?_)))
           obtain⟨y158,Q,h⟩:=zac h
           refine P_l rfl (zbc (hself_gen_Choices_Term _ _ _ _ Q) func6 (by kernel_rfl) (lc lf (lc lf (lc lf ln))) ?_)
           obtain⟨y159,R,h⟩:=zac h
           refine P_l rfl (zbc (hself_gen_Choices_Term _ _ _ _ R) func6 (by kernel_rfl) (lc lf (lc lf (lc lf ln))) ?_)
           obtain⟨y160,S,h⟩:=zac h
           refine pq rfl (zai (m_ref16_Binary_ok _ _ _ _ S) func28 (by kernel_rfl) (lc lf (lc lf (lc lf ln))) (pq rfl (zba (av:= .xs y160) rfl (zdu (zad (zax (zbe (zbr ?_))))))))
           obtain rfl:=oi h
           refine ke (pt AF0 6 (.xs y160)) [boxI 50 w0 [.row 1 zbf y159.2.1, .xi y159.2.2]] rfl (s1 rfl) ⟨rfl,rfl⟩
          .refine sr (gq (zbi rfl rfl (qa (.xb (decide (b=11))) rfl (gc (kd (p:=b=11) rfl h (λ hc h=> ?_) (λ hc h=> ?_))))))
           .refine sr (qm (pA w0 0) rfl (qm (.xi a1) rfl (gq (zfo rfl rfl rfl (qm (.xi a2) rfl ?_)))))
            obtain⟨y161,T,h⟩:=zac h
            refine G_l rfl (zbc (hself_gen_Choices_Term _ _ _ _ T) func6 (by kernel_rfl) (lc lf (lc lf (lc lf ln))) (qm (pA w0 0) rfl (qm (.xi a1) rfl (gq (zfo rfl rfl rfl (qm (.xi a2) rfl ?_))))))
            obtain⟨y162,U,h⟩:=zac h
            refine G_l rfl (zbc (hself_gen_Choices_Term _ _ _ _ U) func6 (by kernel_rfl) (lc lf (lc lf (lc lf ln))) ?_)
            obtain⟨y163,V,h⟩:=zac h
            refine gq (zai (m_ref16_Binary_ok _ _ _ _ V) func28 (by kernel_rfl) (lc lf (lc lf (lc lf ln))) (qa (.xs y163) rfl (gc (zax (zbe (zbr ?_))))))
            obtain rfl:=oi h
            refine ke (pt AF0 6 (.xs y163)) [boxI 50 w0 [.row 1 zbf y162.2.1, .xi y162.2.2]] rfl (s1 rfl) ⟨rfl,rfl⟩
           .refine sr (gq (zbi rfl rfl (qa (.xb (decide (b=12))) rfl (gc (kd (p:=b=12) rfl h (λ hc h=> ?_) (λ hc h=> ?_))))))
            .refine sr (qm (pA w0 0) rfl (qm (.xi a1) rfl (gq (zfo rfl rfl rfl (qm (.xi a2) rfl ?_)))))
             obtain⟨y164,W,h⟩:=zac h
             refine G_l rfl (zbc (hself_gen_Choices_Term _ _ _ _ W) func6 (by kernel_rfl) (lc lf (lc lf (lc lf ln))) (qm (pA w0 0) rfl (qm (.xi a1) rfl (gq (zfo rfl rfl rfl (qm (.xi a2) rfl ?_))))))
             obtain⟨y165,X,h⟩:=zac h
             refine G_l rfl (zbc (hself_gen_Choices_Term _ _ _ _ X) func6 (by kernel_rfl) (lc lf (lc lf (lc lf ln))) ?_)
             obtain⟨y166,Y,h⟩:=zac h
             refine gq (zai (m_ref16_Binary_ok _ _ _ _ Y) func28 (by kernel_rfl) (lc lf (lc lf (lc lf ln))) (qa (.xs y166) rfl (gc (zax (zbe (zbr ?_))))))
             obtain rfl:=oi h
             refine ke (pt AF0 6 (.xs y166)) [boxI 50 w0 [.row 1 zbf y165.2.1, .xi y165.2.2]] rfl (s1 rfl) ⟨rfl,rfl⟩
            .refine zbb h (λ(k:Bool)=>(pt (pt (pt (pt (pt AF0 0 (pA w0 0)) 1 (.xi a1)) 2 (.xi a2)) 19 (.xi b)) 118 (.xb k))) (λ(k:Bool)=>[boxI 50 w0 [.row 1 zbf y1.2.1, .xi y1.2.2]]) (λ k167 h=> ?_) (λ k h=> ?_)
             .refine sr (gq (zbi rfl rfl (qa (.xb (decide (b=13))) rfl (gc (kd (p:=b=13) rfl h (λ hc h=> ?_) (λ hc h=> ?_))))))
              .refine zaq (zab ⟨_,h,so (l4 rfl rfl rfl rfl (lq rfl lt0))⟩)
              .refine sr (gq (zbi rfl rfl (qa (.xb (decide (b=14))) rfl (gc (kd (p:=b=14) rfl h (λ hc h=> ?_) (λ hc h=> ?_))))))
               .refine zaq (zab ⟨_,h,so (l4 rfl rfl rfl rfl (lq rfl lt0))⟩)
               .refine kr (gq (zbi rfl rfl (qa (.xb (decide (b=15))) rfl (zay (zab ⟨_,h,so (l4 rfl rfl rfl rfl (lq rfl lt0))⟩)))))
             .refine kb (p:=k) rfl h (λ hc h=> ?_) (λ hc h=> ?_)
              .refine zau (zdy [] [(0,0),(0,1),(0,5),(0,6),(0,7),(0,8),(0,10),(0,12),(0,13),(0,14),(0,15),(2,2),(0,3),(0,4),(2,9),(2,11),(2,16),(0,17),(0,18)] hmixP (by kernel_rfl) (pq rfl (zcf (n:=1) (enc:=zbf) [12,13,16] (CellsAll.cons rfl CellsOf.int (CellsAll.cons rfl CellsOf.int (CellsAll.cons rfl CellsOf.int CellsAll.nil))) rfl (by kernel_rfl) (LEss.cons (lc lf ln) (LEss.cons (lc lf ln) (LEss.cons (lc lf ln) LEss.nil))) (pq rfl (zae (av:=pA w0 0) rfl (pq rfl (zae (av:=pA w0 0) rfl (pq rfl (zae (av:= .xi a1) rfl (pq rfl (zfo rfl rfl rfl (pq rfl (zae (av:= .xi a2) rfl (pq rfl (zae (av:=pA w0 0) rfl (pq rfl (zae (av:=pA w0 0) rfl (pq rfl (zae (av:= .xi a1) rfl (pq rfl (zfo rfl rfl rfl (pq rfl (zae (av:= .xi a2) rfl ?_)))))))))))))))))))))))
               obtain⟨y168,Z,h⟩:=zac h
               refine P_l rfl (zbc (zcp _ _ _ Z) func7 (by kernel_rfl) (lc lf (lc lf ln)) ?_)
               obtain⟨n169,h⟩:=zag h
               refine pq rfl (zaj (by kernel_rfl) rfl rfl n169.1 n169.2 (pq rfl (zap (a:= .xi (gi [12,13,16] y168.1)) (by kernel_rfl) rfl rfl ?_)))
               obtain⟨y170,aa,h⟩:=zac h
               refine P_l rfl (zbc (hself_gen_Choices_Term _ _ _ _ aa) func6 (by kernel_rfl) (lc lf (lc lf (lc lf ln))) ?_)
               obtain⟨y171,ab,h⟩:=zac h
               refine P_l rfl (zbc (zio _ _ ab) func17 (by kernel_rfl) (lc lf ln) ?_)
               obtain⟨y172,ac,h⟩:=zac h
               refine P_l rfl (zbc (hself_gen_Choices_Term _ _ _ _ ac) func6 (by kernel_rfl) (lc lf (lc lf (lc lf ln))) ?_)
               obtain⟨y173,ad,h⟩:=zac h
               refine pq rfl (zai (m_ref16_Guarded_ok _ _ _ _ _ ad) func29 (by kernel_rfl) (lc lf (lc lf (lc lf (lc lf ln)))) (pq rfl (zba (av:= .xs y173) rfl (zdu (zad (zax (zbe (zbr ?_))))))))
               obtain rfl:=oi h
               refine ke (pt AF0 6 (.xs y173)) [boxI 50 w0 [.row 1 zbf y172.2.1, .xi y172.2.2]] rfl (s1 rfl) ⟨rfl,rfl⟩
              .refine sr (gq (zbi rfl rfl (qa (.xb (decide (b=16))) rfl (gc (kd (p:=b=16) rfl h (λ hc h=> ?_) (λ hc h=> ?_))))))
               .refine sr (qm (pA w0 0) rfl (qm (.xi a1) rfl (gq (zfo rfl rfl rfl (qm (.xi a2) rfl ?_)))))
                obtain⟨y174,ae,h⟩:=zac h
                refine G_l rfl (zbc (hself_gen_Choices_Term _ _ _ _ ae) func6 (by kernel_rfl) (lc lf (lc lf (lc lf ln))) (qm (pA w0 0) rfl ?_))
                obtain⟨y175,af,h⟩:=zac h
                refine G_l rfl (zbc (zio _ _ af) func17 (by kernel_rfl) (lc lf ln) ?_)
                obtain⟨y176,ag,h⟩:=zac h
                refine gq (zai (m_ref16_SetValue_ok _ _ ag) func30 (by kernel_rfl) (lc lf ln) (qm (pA w0 0) rfl ?_))
                obtain⟨y177,ah,h⟩:=zac h
                refine G_l rfl (zbc (zio _ _ ah) func17 (by kernel_rfl) (lc lf ln) ?_)
                obtain⟨y178,ai,h⟩:=zac h
                refine gq (zai (m_ref16_SetValue_ok _ _ ai) func30 (by kernel_rfl) (lc lf ln) (qm (pA w0 0) rfl (qm (.xi a1) rfl (gq (zfo rfl rfl rfl (qm (.xi a2) rfl ?_))))))
                obtain⟨y179,aj,h⟩:=zac h
                refine G_l rfl (zbc (hself_gen_Choices_Term _ _ _ _ aj) func6 (by kernel_rfl) (lc lf (lc lf (lc lf ln))) (gq (zcf (n:=1) (enc:=zaa) [y174.1,y176,y178,y179.1] (CellsAll.cons rfl CellsOf.str (CellsAll.cons rfl CellsOf.str (CellsAll.cons rfl CellsOf.str (CellsAll.cons rfl CellsOf.str CellsAll.nil)))) rfl (by kernel_rfl) (LEss.cons (lc lf ln) (LEss.cons (lc lf ln) (LEss.cons (lc lf ln) (LEss.cons (lc lf ln) LEss.nil)))) ?_)))
                obtain⟨y180,ak,h⟩:=zac h
                refine gq (zai (zcb _ _ _ ak) func11 (by kernel_rfl) (lc lf (lc lf ln)) (qa (.xs y180) rfl (gc (zax (zbe (zbr ?_))))))
                obtain rfl:=oi h
                refine ke (pt AF0 6 (.xs y180)) [boxI 50 w0 [.row 1 zbf y179.2.1, .xi y179.2.2]] rfl (s1 rfl) ⟨rfl,rfl⟩
               .refine sr (gq (zbi rfl rfl (qa (.xb (decide (b=17))) rfl (gc (kd (p:=b=17) rfl h (λ hc h=> ?_) (λ hc h=> ?_))))))
                .refine sr (qm (pA w0 0) rfl (qm (.xi a1) rfl (gq (zfo rfl rfl rfl (qm (.xi a2) rfl ?_)))))
                 obtain⟨y181,al,h⟩:=zac h
                 refine G_l rfl (zbc (hself_gen_Choices_Term _ _ _ _ al) func6 (by kernel_rfl) (lc lf (lc lf (lc lf ln))) (qm (pA w0 0) rfl ?_))
                 obtain⟨y182,am,h⟩:=zac h
                 refine G_l rfl (zbc (m_gen_Choices_Pairs_ok _ _ am) func18 (by kernel_rfl) (lc lf ln) ?_)
                 obtain⟨y183,an,h⟩:=zac h
                 refine gq (zai (m_ref16_PairsValue_ok _ _ an) func31 (by kernel_rfl) (lc lf ln) (qm (pA w0 0) rfl (qm (.xi a1) rfl (gq (zfo rfl rfl rfl (qm (.xi a2) rfl ?_))))))
                 obtain⟨y184,ao,h⟩:=zac h
                 refine G_l rfl (zbc (hself_gen_Choices_Term _ _ _ _ ao) func6 (by kernel_rfl) (lc lf (lc lf (lc lf ln))) (gq (zcf (n:=1) (enc:=zaa) [y181.1,y183,y184.1] (CellsAll.cons rfl CellsOf.str (CellsAll.cons rfl CellsOf.str (CellsAll.cons rfl CellsOf.str CellsAll.nil))) rfl (by kernel_rfl) (LEss.cons (lc lf ln) (LEss.cons (lc lf ln) (LEss.cons (lc lf ln) LEss.nil))) ?_)))
                 obtain⟨y185,ap,h⟩:=zac h
                 refine gq (zai (zcb _ _ _ ap) func11 (by kernel_rfl) (lc lf (lc lf ln)) (qa (.xs y185) rfl (gc (zax (zbe (zbr ?_))))))
                 obtain rfl:=oi h
                 refine ke (pt AF0 6 (.xs y185)) [boxI 50 w0 [.row 1 zbf y184.2.1, .xi y184.2.2]] rfl (s1 rfl) ⟨rfl,rfl⟩
                .refine sr (gq (zbi rfl rfl (qa (.xb (decide (b=18))) rfl (gc (kd (p:=b=18) rfl h (λ hc h=> ?_) (λ hc h=> ?_))))))
                 .refine sr (qm (pA w0 0) rfl (qm (.xi a1) rfl (gq (zfo rfl rfl rfl (qm (.xi a2) rfl ?_)))))
                  obtain⟨y186,aq,h⟩:=zac h
                  refine G_l rfl (zbc (hself_gen_Choices_Term _ _ _ _ aq) func6 (by kernel_rfl) (lc lf (lc lf (lc lf ln))) (qm (pA w0 0) rfl ?_))
                  obtain⟨y187,ar,h⟩:=zac h
                  refine G_l rfl (zbc (zio _ _ ar) func17 (by kernel_rfl) (lc lf ln) ?_)
                  obtain⟨y188,au,h⟩:=zac h
                  refine gq (zai (m_ref16_SetValue_ok _ _ au) func30 (by kernel_rfl) (lc lf ln) (gq (zcf (n:=1) (enc:=zaa) [y186.1,y188] (CellsAll.cons rfl CellsOf.str (CellsAll.cons rfl CellsOf.str CellsAll.nil)) rfl (by kernel_rfl) (LEss.cons (lc lf ln) (LEss.cons (lc lf ln) LEss.nil)) ?_)))
                  obtain⟨y189,aw,h⟩:=zac h
                  refine gq (zai (zcb _ _ _ aw) func11 (by kernel_rfl) (lc lf (lc lf ln)) (qa (.xs y189) rfl (gc (zax (zbe (zbr ?_))))))
                  obtain rfl:=oi h
                  refine ke (pt AF0 6 (.xs y189)) [boxI 50 w0 [.row 1 zbf y187.2.1, .xi y187.2.2]] rfl (s1 rfl) ⟨rfl,rfl⟩
                 .refine sr (gq (zbi rfl rfl (qa (.xb (decide (b=19))) rfl (gc (kd (p:=b=19) rfl h (λ hc h=> ?_) (λ hc h=> ?_))))))
                  .refine sr (qm (pA w0 0) rfl (qm (.xi a1) rfl (gq (zfo rfl rfl rfl (qm (.xi a2) rfl ?_)))))
                   obtain⟨y190,ax,h⟩:=zac h
                   refine G_l rfl (zbc (hself_gen_Choices_Term _ _ _ _ ax) func6 (by kernel_rfl) (lc lf (lc lf (lc lf ln))) (qm (pA w0 0) rfl ?_))
                   obtain⟨y191,ay,h⟩:=zac h
                   refine G_l rfl (zbc (m_gen_Choices_Pairs_ok _ _ ay) func18 (by kernel_rfl) (lc lf ln) ?_)
                   obtain⟨y192,az,h⟩:=zac h
                   refine gq (zai (m_ref16_PairsValue_ok _ _ az) func31 (by kernel_rfl) (lc lf ln) (gq (zcf (n:=1) (enc:=zaa) [y190.1,y192] (CellsAll.cons rfl CellsOf.str (CellsAll.cons rfl CellsOf.str CellsAll.nil)) rfl (by kernel_rfl) (LEss.cons (lc lf ln) (LEss.cons (lc lf ln) LEss.nil)) ?_)))
                   obtain⟨y193,a3,h⟩:=zac h
                   refine gq (zai (zcb _ _ _ a3) func11 (by kernel_rfl) (lc lf (lc lf ln)) (qa (.xs y193) rfl (gc (zax (zbe (zbr ?_))))))
                   obtain rfl:=oi h
                   refine ke (pt AF0 6 (.xs y193)) [boxI 50 w0 [.row 1 zbf y191.2.1, .xi y191.2.2]] rfl (s1 rfl) ⟨rfl,rfl⟩
                  .refine sr (gq (zbi rfl rfl (qa (.xb (decide (b=20))) rfl (gc (kd (p:=b=20) rfl h (λ hc h=> ?_) (λ hc h=> ?_))))))
                   .refine sr (qa (.exact (.slice none 0 0)) rfl (gd (qm (pA w0 0) rfl ?_)))
                    obtain⟨y194,a4,h⟩:=zac h
                    refine G_l rfl (zbc (m_gen_Choices_Order_ok _ _ a4) func19 (by kernel_rfl) (lc lf ln) (qa (.row 2 zal y194.1) rfl (gc (zdl h (λ(w:List (Int×Int)) (v10_j195:Value)=>(pt (pt (pt (pt AF0 0 (pA w0 0)) 1 (.xi a1)) 2 (.xi a2)) 10 (.exact v10_j195))) (λ(w:List (Int×Int)) (v10_j195:Value)=>[boxI 50 w0 [.row 1 zbf y194.2.1, .xi y194.2.2],vecT Tryz.prog 24 2 zak v10_j195 w]) (λ k195 h=> ?_) (λ w v10_j195 h=> ?_)))))
                    .refine sr (qa (.xi 0) rfl (gc (zas (zei (zed y194 k195) (zfg y194 k195) (λ _ _=>rfl) (λ m _ _=>rfl) h (λ(x:List (Int×Int)) (c:Int) (v10_l8:Value)=>(pt (pt (pt (pt (pt (pt AF0 0 (pA w0 0)) 1 (.xi a1)) 2 (.xi a2)) 10 (.exact v10_l8)) 11 (.row 2 zal y194.1)) 12 (.xi c))) (λ(x:List (Int×Int)) (c:Int) (v10_l8:Value)=>[boxI 50 w0 [.row 1 zbf y194.2.1, .xi y194.2.2],vecT Tryz.prog 24 2 zak v10_l8 x]) (.slice none 0 0) ?_ (λ bb x c v10_l8 h=> ?_)))))
                     .refine Sub.trans (SubU.to (SubU.nilT (P:=Tryz.prog) (t:=24) (n:=2) (enc:=zak))) (Sub.trans (SubU.to SubU.f1) (so (l4 rfl rfl rfl rfl (lq rfl (lq rfl lt0)))))
                     .unfold zfg at h
                      refine zau (sr (qm (.xi c) rfl (qm (.row 2 zal y194.1) rfl (gq (zaw (by kernel_rfl) rfl (gq (zby rfl rfl (gc (kd (p:=c<(List.length y194.1:Int)) rfl h (λ hc h=> ?_) (λ hc h=> ?_))))))))))
                      .refine zaq (zad (zau (zas (zdy [] [(0,0),(0,1),(0,2),(0,3),(0,4),(0,5),(0,6),(0,7),(0,8),(0,9),(0,10),(0,11),(0,12),(2,13),(0,14)] hmixP (by kernel_rfl) (pq rfl (zae (av:= .exact v10_l8) rfl (pq rfl (zae (av:= .row 2 zal y194.1) rfl (pq rfl (zae (av:= .xi c) rfl ?_))))))))))
                       obtain⟨n217,h⟩:=zag h
                       refine pq rfl (zaj (by kernel_rfl) rfl rfl n217.1 n217.2 (pq rfl (zav (o:=0) (c':=(List.drop 0 (zal (gi y194.1 c)))) (by kernel_rfl) rfl rfl (pq rfl (zap (a:= .xi ((gi y194.1 c).1)) (by kernel_rfl) rfl rfl (pq rfl (zae (av:= .row 2 zal y194.1) rfl (pq rfl (zae (av:= .xi c) rfl ?_)))))))))
                       obtain⟨n218,h⟩:=zag h
                       refine pq rfl (zaj (by kernel_rfl) rfl rfl n218.1 n218.2 (pq rfl (zav (o:=1) (c':=(List.drop 1 (zal (gi y194.1 c)))) (by kernel_rfl) rfl rfl (pq rfl (zap (a:= .xi ((gi y194.1 c).2)) (by kernel_rfl) rfl rfl (pq rfl (op_bld (c':=zak ((gi y194.1 c).1,(gi y194.1 c).2)) (CellsAll.cons rfl CellsOf.int (CellsAll.cons rfl CellsOf.int CellsAll.nil)) rfl (lc lf (lc lf ln)) (pq rfl (zcf (n:=2) (enc:=zak) [((gi y194.1 c).1,(gi y194.1 c).2)] (CellsAll.cons rfl CellsOf.agg CellsAll.nil) rfl (by kernel_rfl) (LEss.cons (lc lf (lc lf ln)) LEss.nil) ?_)))))))))
                       obtain⟨n219,h⟩:=zag h
                       refine P_l rfl (opB_f1 (zeb (by kernel_rfl) rfl rfl ziq n219 (λ v220=>pq rfl (zba (av:= .exact v220) rfl (zdu (zar (zad (kr (qm (.xi c) rfl (gq (zbx rfl rfl rfl (qa (.xi (i64 (c+1))) rfl (zay (zab ⟨_,_,v220,h, ?_⟩))))))))))))))
                       refine Sub.trans (SubU.to SubU.f1) (so (l4 rfl rfl rfl rfl (lq rfl (lq rfl lt0))))
                      .refine zcl (zbo (zbu (zbn (zab ⟨_,v10_l8,h,s4 rfl rfl rfl rfl⟩))))
                    .refine sr (qm (pA w0 0) rfl (qm (.xi a1) rfl (gq (zfo rfl rfl rfl (qm (.xi a2) rfl ?_)))))
                     obtain⟨y221,a5,h⟩:=zac h
                     refine G_l rfl (zbc (hself_gen_Choices_Term _ _ _ _ a5) func6 (by kernel_rfl) (lc lf (lc lf (lc lf ln))) (qm (.exact v10_j195) rfl (G_sub rfl (SubU.trans SubU.f1 (SubU.freezeT2 (s1:=10) (s2:=230) rfl rfl zco)) ?_)))
                     obtain⟨y222,a6,h⟩:=zac h
                     refine gq (zai (m_ref16_PairsValue_ok _ _ a6) func31 (by kernel_rfl) (lc lf ln) (gq (zcf (n:=1) (enc:=zaa) [y221.1,y222] (CellsAll.cons rfl CellsOf.str (CellsAll.cons rfl CellsOf.str CellsAll.nil)) rfl (by kernel_rfl) (LEss.cons (lc lf ln) (LEss.cons (lc lf ln) LEss.nil)) ?_)))
                     obtain⟨y223,a7,h⟩:=zac h
                     refine gq (zai (zcb _ _ _ a7) func11 (by kernel_rfl) (lc lf (lc lf ln)) (qa (.xs y223) rfl (gc (zax (zbe (zbr ?_))))))
                     obtain rfl:=oi h
                     refine ke (pt AF0 6 (.xs y223)) [boxI 50 w0 [.row 1 zbf y221.2.1, .xi y221.2.2]] rfl (s1 rfl) ⟨rfl,rfl⟩
                   .refine zaq (zar (zab ⟨h,s3 rfl rfl rfl⟩))
  .refine sr (qm (pA w0 0) rfl (qm (.xi a1) rfl (gq (zfo rfl rfl rfl (qm (.xi a2) rfl ?_)))))
   obtain⟨y224,a8,h⟩:=zac h
   refine G_l rfl (zbc (hself_gen_Choices_Term _ _ _ _ a8) func6 (by kernel_rfl) (lc lf (lc lf (lc lf ln))) (gq (zcf (n:=1) (enc:=zaa) [y224.1] (CellsAll.cons rfl CellsOf.str CellsAll.nil) rfl (by kernel_rfl) (LEss.cons (lc lf ln) LEss.nil) ?_)))
   obtain⟨y225,a9,h⟩:=zac h
   refine gq (zai (zcb _ _ _ a9) func11 (by kernel_rfl) (lc lf (lc lf ln)) (qa (.xs y225) rfl (gc (zax ?_))))
   obtain rfl:=oi h
   refine ke (pt AF0 6 (.xs y225)) [boxI 50 w0 [.row 1 zbf y224.2.1, .xi y224.2.2]] rfl (s1 rfl) ⟨rfl,rfl⟩
theorem m_gen_Choices_Term_S_ok: ∀n:Nat,(∀ ⦃w0:Nat⦄ (a0:(List Int)×Int) (a1:Int) (a2:Int) (r:(List UInt8)×((List Int)×Int)),zdx n a0 a1 a2=some r->Fun Tryz.prog 6 [(pA w0 0),(.exact (.int .i64 a1)),(.exact (.int .i64 a2))] [boxI 50 w0 [.row 1 zbf a0.1, .exact (.int .i64 a0.2)]] (λ a s=>a= .exact (.string (bs r.1))/\s=[boxI 50 w0 [.row 1 zbf r.2.1, .exact (.int .i64 r.2.2)]]))
  |0=>(λ _ _ _ _ _ h=>by have h':(none:Option _)=some _:=h;cases h')
  |n+1=>by
    have ih:=m_gen_Choices_Term_S_ok n
    exact λ w0 a0 a1 a2 r h=>m_gen_Choices_Term_F_ok (zdx n) ih a0 a1 a2 r h
theorem zjc {w0:Nat} (a0:(List Int)×Int) (a1:Int) (a2:Int) (r:(List UInt8)×((List Int)×Int)) (h:zfx a0 a1 a2=some r):Fun Tryz.prog 6 [(pA w0 0),(.exact (.int .i64 a1)),(.exact (.int .i64 a2))] [boxI 50 w0 [.row 1 zbf a0.1, .exact (.int .i64 a0.2)]] (λ a s=>a= .exact (.string (bs r.1))/\s=[boxI 50 w0 [.row 1 zbf r.2.1, .exact (.int .i64 r.2.2)]]):=(m_gen_Choices_Term_S_ok FU) a0 a1 a2 r h
theorem m_ref16_Op_ok (a0:List UInt8) (r:Int) (h:m_ref16_Op a0=some r):Pure Tryz.prog 64 [(.exact (.string (bs a0)))] (.exact (.int .i64 r)):=by
 unfold m_ref16_Op at h
 refine Pure.ofFun (zan func64 rfl ntmps64 (by simp) rfl (res1 rfl) λ E hE=>zca (sr (qa (.xi 0) rfl (gc (zau (sr (qm (.xs a0) rfl ?_)))))))
 obtain⟨y1,b,h⟩:=zac h
 refine gq (zai (m_ref16_Valid_ok _ _ b) func40 (by kernel_rfl) (lc lf ln) (gq (zgf rfl (gc (kb (p:= !y1) rfl h (λ hc h=> ?_) (λ hc h=> ?_))))))
 .refine sr (qa (.xi 0) rfl (gc (zax (zaz ?_))))
  obtain rfl:=oi h
  refine ke (pt AF0 2 (.xi 0)) [] rfl (s1 rfl) ⟨rfl,rfl⟩
 .refine zaq (zad (sr (qm (.xs a0) rfl ?_)))
  obtain⟨y2,c,h⟩:=zac h
  refine gq (zai (zha _ _ c) func66 (by kernel_rfl) (lc lf ln) ?_)
  obtain⟨n3,h⟩:=zag h
  refine gq (zaj (by kernel_rfl) rfl rfl n3.1 n3.2 (gq (zap (a:= .xs (gi y2 0)) (by kernel_rfl) rfl rfl ?_)))
  obtain⟨y4,d,h⟩:=zac h
  refine gq (zai (zgg _ _ d) func65 (by kernel_rfl) (lc lf ln) (qa (.xi y4) rfl (gc (zax ?_))))
  obtain rfl:=oi h
  refine ke (pt AF0 2 (.xi y4)) [] rfl (s1 rfl) ⟨rfl,rfl⟩
theorem m_ref16_Operands_ok (a0:List UInt8) (r:(List (List UInt8))) (h:zlu a0=some r):Fun Tryz.prog 55 [(.exact (.string (bs a0)))] [] (λ a s=> ∃z0,a= .exact z0/\s=[vecT Tryz.prog 26 1 zaa z0 r]):=by
 unfold zlu at h
 refine zan func55 rfl ntmps55 (by simp) rfl (res1 rfl) λ E hE=>zca (sr (qa (.exact (.slice none 0 0)) rfl (gd (qm (.xs a0) rfl ?_))))
 obtain⟨y1,k,h⟩:=zac h
 refine gq (zai (m_ref16_Op_ok _ _ k) func64 (by kernel_rfl) (lc lf ln) (qa (.xi y1) rfl (gd (qm (.xs a0) rfl ?_))))
 obtain⟨y2,l,h⟩:=zac h
 refine gq (zai (zha _ _ l) func66 (by kernel_rfl) (lc lf ln) (qa (.row 1 zaa y2) rfl (gd (qa (.exact (.slice none 0 0)) rfl (gc (zdq h ((pt (pt (pt AF0 3 (.xi y1)) 4 (.row 1 zaa y2)) 5 (.exact (.slice none 0 0)))) ([]) (λ k3 h=> ?_) (λ  h=> ?_)))))))
 .refine sr (qm (.xi y1) rfl (gq (zbi rfl rfl (gc (kd (p:=y1=6) rfl h (λ hc h=> ?_) (λ hc h=> ?_))))))
  .refine zdl h (λ(e:List (List UInt8)) (v5_j25:Value)=>(pt AF0 5 (.exact v5_j25))) (λ(e:List (List UInt8)) (v5_j25:Value)=>[vecT Tryz.prog 26 1 zaa v5_j25 e]) (λ k25 h=> ?_) (λ e v5_j25 h=> ?_)
   .refine sr (qa (.xi 2) rfl (gc (zas (zei (zib y2 k25) (zkz y2 k25) (λ _ _=>rfl) (λ m _ _=>rfl) h (λ(g:List (List UInt8)) (d:Int) (v5_l4:Value)=>(pt (pt (pt AF0 4 (.row 1 zaa y2)) 5 (.exact v5_l4)) 6 (.xi d))) (λ(g:List (List UInt8)) (d:Int) (v5_l4:Value)=>[vecT Tryz.prog 26 1 zaa v5_l4 g]) (.slice none 0 0) ?_ (λ q g d v5_l4 h=> ?_)))))
    .refine Sub.trans (SubU.to (SubU.nilT (P:=Tryz.prog) (t:=26) (n:=1) (enc:=zaa))) (s3 rfl rfl rfl)
    .unfold zkz at h
     refine zau (sr (qm (.xi d) rfl (qm (.row 1 zaa y2) rfl (gq (zaw (by kernel_rfl) rfl (gq (zby rfl rfl (gc (kd (p:=d<(List.length y2:Int)) rfl h (λ hc h=> ?_) (λ hc h=> ?_))))))))))
     .refine zaq (zad (zau (zas (kr (qm (.exact v5_l4) rfl (qm (.row 1 zaa y2) rfl (qm (.xi d) rfl ?_)))))))
      obtain⟨n42,h⟩:=zag h
      refine gq (zaj (by kernel_rfl) rfl rfl n42.1 n42.2 (gq (zap (a:= .xs (gi y2 d)) (by kernel_rfl) rfl rfl (gq (zcf (n:=1) (enc:=zaa) [gi y2 d] (CellsAll.cons rfl CellsOf.str CellsAll.nil) rfl (by kernel_rfl) (LEss.cons (lc lf ln) LEss.nil) ?_)))))
      obtain⟨n43,h⟩:=zag h
      refine G_l rfl (zeb (by kernel_rfl) rfl rfl zcr n43 (λ v44=>qa (.exact v44) rfl (zay (zar (zad (kr (qm (.xi d) rfl (gq (zbx rfl rfl rfl (qa (.xi (i64 (d+2))) rfl (zay (zab ⟨_,_,v44,h,s3 rfl rfl rfl⟩))))))))))))
     .refine zcl (zbo (zbu (zbn (zab ⟨_,v5_l4,h,s1 rfl⟩))))
   .refine sr (qm (.exact v5_j25) rfl (qa (.exact v5_j25) rfl (gc (zax (zbr ?_)))))
    obtain rfl:=oi h
    refine ke (pt AF0 2 (.exact v5_j25)) [vecT Tryz.prog 26 1 zaa v5_j25 e] rfl (s1 rfl) ⟨v5_j25,rfl,rfl⟩
  .refine zaq (zab ⟨h,s3 rfl rfl rfl⟩)
 .refine sr (qm (.xi y1) rfl ?_)
  obtain⟨y45,o,h⟩:=zac h
  refine gq (zai (m_ref16_layout_ok _ _ o) func73 (by kernel_rfl) (lc lf ln) (qa (.xs y45) rfl (gc (zdl h (λ(f:List (List UInt8)) (v5_j46:Value)=>(pt AF0 5 (.exact v5_j46))) (λ(f:List (List UInt8)) (v5_j46:Value)=>[vecT Tryz.prog 26 1 zaa v5_j46 f]) (λ k46 h=> ?_) (λ f v5_j46 h=> ?_)))))
  .refine sr (qa (.xi 0) rfl (gc (zas (zei (zfj y2 y45 k46) (zgj y2 y45 k46) (λ _ _=>rfl) (λ m _ _=>rfl) h (λ(i:List (List UInt8)) (c:Int) (v5_l6:Value)=>(pt (pt (pt (pt AF0 4 (.row 1 zaa y2)) 5 (.exact v5_l6)) 7 (.xs y45)) 8 (.xi c))) (λ(i:List (List UInt8)) (c:Int) (v5_l6:Value)=>[vecT Tryz.prog 26 1 zaa v5_l6 i]) (.slice none 0 0) ?_ (λ u i c v5_l6 h=> ?_)))))
   .refine Sub.trans (SubU.to (SubU.nilT (P:=Tryz.prog) (t:=26) (n:=1) (enc:=zaa))) (s4 rfl rfl rfl rfl)
   .unfold zgj at h
    refine zau (sr (qm (.xi c) rfl (qm (.xs y45) rfl (gq (op_lenS (by kernel_rfl) rfl (gq (zby rfl rfl (gc (kd (p:=c<(List.length y45:Int)) rfl h (λ hc h=> ?_) (λ hc h=> ?_))))))))))
    .refine zaq (zad (zdl h (λ(j:List (List UInt8)) (v5_j93:Value)=>(pt (pt (pt (pt AF0 4 (.row 1 zaa y2)) 5 (.exact v5_j93)) 7 (.xs y45)) 8 (.xi c))) (λ(j:List (List UInt8)) (v5_j93:Value)=>[vecT Tryz.prog 26 1 zaa v5_j93 j]) (λ k93 h=> ?_) (λ j v5_j93 h=> ?_)))
     .refine zas (sr (qm (.xs y45) rfl (qm (.xi c) rfl ?_)))
      obtain⟨n98,h⟩:=zag h
      refine gq (zbj (by kernel_rfl) rfl rfl n98.1 n98.2 (gq (zjy (a:=(gi y45 c)) (b:=80) rfl rfl (gc (kd (p:=(gi y45 c)=80) rfl h (λ hc h=> ?_) (λ hc h=> ?_))))))
      .refine kr (qm (.exact v5_l6) rfl (qm (.row 1 zaa y2) rfl (qm (.xi c) rfl (gq (zbx rfl rfl rfl ?_)))))
       obtain⟨n99,h⟩:=zag h
       refine gq (zaj (by kernel_rfl) rfl rfl n99.1 n99.2 (gq (zap (a:= .xs (gi y2 (i64 (c+1)))) (by kernel_rfl) rfl rfl (gq (zcf (n:=1) (enc:=zaa) [gi y2 (i64 (c+1))] (CellsAll.cons rfl CellsOf.str CellsAll.nil) rfl (by kernel_rfl) (LEss.cons (lc lf ln) LEss.nil) ?_)))))
       obtain⟨n100,h⟩:=zag h
       refine G_l rfl (zeb (by kernel_rfl) rfl rfl zcr n100 (λ v101=>qa (.exact v101) rfl (zay (zar (zab ⟨_,v101,h,s4 rfl rfl rfl rfl⟩)))))
      .refine zaq (zar (zab ⟨_,v5_l6,h,s4 rfl rfl rfl rfl⟩))
     .refine kr (qm (.xi c) rfl (gq (zbx rfl rfl rfl (qa (.xi (i64 (c+1))) rfl (zay (zab ⟨_,_,v5_j93,h,s4 rfl rfl rfl rfl⟩))))))
    .refine zcl (zbo (zbu (zbn (zab ⟨_,v5_l6,h,s1 rfl⟩))))
  .refine sr (qm (.exact v5_j46) rfl (qa (.exact v5_j46) rfl (gc (zax ?_))))
   obtain rfl:=oi h
   refine ke (pt AF0 2 (.exact v5_j46)) [vecT Tryz.prog 26 1 zaa v5_j46 f] rfl (s1 rfl) ⟨v5_j46,rfl,rfl⟩
theorem m_ref16_Offers_ok (a0:List UInt8) (r:(List (Int×(List UInt8)))) (h:m_ref16_Offers a0=some r):Pure Tryz.prog 96 [(.exact (.string (bs a0)))] (.row 2 zam r):=by
 unfold m_ref16_Offers at h
 refine Pure.ofFun (zan func96 rfl ntmps96 (by simp) rfl (res1 rfl) λ E hE=>zca (sr (qa (.exact (.slice none 0 0)) rfl (gc (zau (sr (qm (.xs a0) rfl ?_)))))))
 obtain⟨y1,e,h⟩:=zac h
 refine gq (zai (m_ref16_Op_ok _ _ e) func64 (by kernel_rfl) (lc lf ln) (gq (zlq rfl rfl (gc (kd (p:= ¬y1=6) rfl h (λ hc h=> ?_) (λ hc h=> ?_))))))
 .refine sr (qa (.exact (.slice none 0 0)) rfl (gc (zax (zaz ?_))))
  obtain rfl:=oi h
  refine ke (pt AF0 2 (.row 2 zam [])) [] rfl (so (AF.le_put (zep (by decide)) lt0)) ⟨rfl,rfl⟩
 .refine zaq (zad (sr (qa (.exact (.slice none 0 0)) rfl (gd (qm (.xs a0) rfl ?_)))))
  obtain⟨y2,f,h⟩:=zac h
  refine gq (zai (zha _ _ f) func66 (by kernel_rfl) (lc lf ln) (qa (.row 1 zaa y2) rfl (gc (zdl h (λ(c:List (Int×(List UInt8))) (v3_j3:Value)=>(pt AF0 3 (.exact v3_j3))) (λ(c:List (Int×(List UInt8))) (v3_j3:Value)=>[vecT Tryz.prog 27 2 zam v3_j3 c]) (λ k3 h=> ?_) (λ c v3_j3 h=> ?_)))))
  .refine sr (qa (.xi 1) rfl (gc (zas (zei (zkt y2 k3) (znk y2 k3) (λ _ _=>rfl) (λ m _ _=>rfl) h (λ(d:List (Int×(List UInt8))) (b:Int) (v3_l2:Value)=>(pt (pt (pt AF0 3 (.exact v3_l2)) 4 (.row 1 zaa y2)) 5 (.xi b))) (λ(d:List (Int×(List UInt8))) (b:Int) (v3_l2:Value)=>[vecT Tryz.prog 27 2 zam v3_l2 d]) (.slice none 0 0) ?_ (λ i d b v3_l2 h=> ?_)))))
   .refine Sub.trans (SubU.to (SubU.nilT (P:=Tryz.prog) (t:=27) (n:=2) (enc:=zam))) (s3 rfl rfl rfl)
   .unfold znk at h
    refine zau (sr (qm (.xi b) rfl (qm (.row 1 zaa y2) rfl (gq (zaw (by kernel_rfl) rfl (gq (zby rfl rfl (gc (kd (p:=b<(List.length y2:Int)) rfl h (λ hc h=> ?_) (λ hc h=> ?_))))))))))
    .refine zaq (zad (zau (zas (zdy [] [(0,0),(0,1),(0,2),(0,3),(0,4),(0,5),(0,6),(0,7),(0,8),(0,9),(0,10),(0,11),(0,12),(2,13),(0,14)] hmixP (by kernel_rfl) (pq rfl (zae (av:= .exact v3_l2) rfl (pq rfl (zae (av:= .row 1 zaa y2) rfl (pq rfl (zae (av:= .xi b) rfl ?_))))))))))
     obtain⟨n30,h⟩:=zag h
     refine pq rfl (zaj (by kernel_rfl) rfl rfl n30.1 n30.2 (pq rfl (zap (a:= .xs (gi y2 b)) (by kernel_rfl) rfl rfl ?_)))
     obtain⟨y31,g,h⟩:=zac h
     refine pq rfl (zai (zgg _ _ g) func65 (by kernel_rfl) (lc lf ln) (pq rfl (zae (av:= .row 1 zaa y2) rfl (pq rfl (zae (av:= .xi b) rfl (pq rfl (zbx rfl rfl rfl ?_)))))))
     obtain⟨n32,h⟩:=zag h
     refine pq rfl (zaj (by kernel_rfl) rfl rfl n32.1 n32.2 (pq rfl (zap (a:= .xs (gi y2 (i64 (b+1)))) (by kernel_rfl) rfl rfl (pq rfl (op_bld (c':=zam (y31,gi y2 (i64 (b+1)))) (CellsAll.cons rfl CellsOf.int (CellsAll.cons rfl CellsOf.str CellsAll.nil)) rfl (lc lf (lc lf ln)) (pq rfl (zcf (n:=2) (enc:=zam) [(y31,gi y2 (i64 (b+1)))] (CellsAll.cons rfl CellsOf.agg CellsAll.nil) rfl (by kernel_rfl) (LEss.cons (lc lf (lc lf ln)) LEss.nil) ?_)))))))
     obtain⟨n33,h⟩:=zag h
     refine P_l rfl (zeb (by kernel_rfl) rfl rfl zfm n33 (λ v34=>pq rfl (zba (av:= .exact v34) rfl (zdu (zar (zad (kr (qm (.xi b) rfl (gq (zbx rfl rfl rfl (qa (.xi (i64 (b+2))) rfl (zay (zab ⟨_,_,v34,h,s3 rfl rfl rfl⟩)))))))))))))
    .refine zcl (zbo (zbu (zbn (zab ⟨_,v3_l2,h,s1 rfl⟩))))
  .refine sr (qm (.exact v3_j3) rfl (qa (.exact v3_j3) rfl (gc (zax ?_))))
   obtain rfl:=oi h
   refine ke (pt AF0 2 (.row 2 zam c)) [] rfl (Sub.trans (SubU.to (SubU.freezeT (s:=2) rfl zbw)) (s1 rfl)) ⟨rfl,rfl⟩
theorem m_ref16_With_ok (a0:List UInt8) (a1:List (List UInt8)) (r:(List UInt8)) (h:m_ref16_With a0 a1=some r):Pure Tryz.prog 56 [(.exact (.string (bs a0))),(.row 1 zaa a1)] (.exact (.string (bs r))):=by
 unfold m_ref16_With at h
 refine Pure.ofFun (zan func56 rfl ntmps56 (by simp) rfl (res1 rfl) λ E hE=>zca (sr (qa (.xs ([]:List UInt8)) rfl (gd (qm (.xs a0) rfl ?_)))))
 obtain⟨y1,s,h⟩:=zac h
 refine gq (zai (m_ref16_Op_ok _ _ s) func64 (by kernel_rfl) (lc lf ln) (qa (.xi y1) rfl (gd (qm (.xs a0) rfl ?_))))
 obtain⟨y2,u,h⟩:=zac h
 refine gq (zai (zha _ _ u) func66 (by kernel_rfl) (lc lf ln) ?_)
 obtain⟨n3,h⟩:=zag h
 refine G_l rfl (op_appN (enc:=zaa) (by kernel_rfl) rfl rfl zcr n3 (λ v4=>qa (.exact v4) rfl (gd (qa (.xi 0) rfl (gc (zdq h ((pt (pt (pt (pt AF0 1 (.row 1 zaa a1)) 5 (.xi y1)) 6 (.exact v4)) 7 (.xi 0))) ([vecT Tryz.prog 26 1 zaa v4 y2]) (λ k5 h=> ?_) (λ  h=> ?_)))))))
 .refine sr (qm (.xi y1) rfl (gq (zbi rfl rfl (gc (kd (p:=y1=6) rfl h (λ hc h=> ?_) (λ hc h=> ?_))))))
  .refine sr (qa (.exact (.slice none 0 0)) rfl (gd (qm (.xs a0) rfl ?_)))
   obtain⟨y35,v,h⟩:=zac h
   refine gq (zai (m_ref16_Offers_ok _ _ v) func96 (by kernel_rfl) (lc lf ln) (qa (.row 2 zam y35) rfl (gc (zdl h (λ(f:List (Int×(List UInt8))) (v8_j36:Value)=>(pt AF0 8 (.exact v8_j36))) (λ(f:List (Int×(List UInt8))) (v8_j36:Value)=>[vecT Tryz.prog 27 2 zam v8_j36 f]) (λ k36 h=> ?_) (λ f v8_j36 h=> ?_)))))
   .refine sr (qa (.xi 0) rfl (gc (zas (zei (znr a1 y35 k36) (m_ref16_With_B4 a1 y35 k36) (λ _ _=>rfl) (λ m _ _=>rfl) h (λ(g:List (Int×(List UInt8))) (c:Int) (v8_l4:Value)=>(pt (pt (pt (pt AF0 1 (.row 1 zaa a1)) 8 (.exact v8_l4)) 9 (.row 2 zam y35)) 10 (.xi c))) (λ(g:List (Int×(List UInt8))) (c:Int) (v8_l4:Value)=>[vecT Tryz.prog 27 2 zam v8_l4 g]) (.slice none 0 0) ?_ (λ A g c v8_l4 h=> ?_)))))
    .refine Sub.trans (SubU.to SubU.drop) (Sub.trans (SubU.to (SubU.nilT (P:=Tryz.prog) (t:=27) (n:=2) (enc:=zam))) (s4 rfl rfl rfl rfl))
    .unfold m_ref16_With_B4 at h
     refine zau (sr (qm (.xi c) rfl (qm (.row 2 zam y35) rfl (gq (zaw (by kernel_rfl) rfl (gq (zby rfl rfl (gc (kd (p:=c<(List.length y35:Int)) rfl h (λ hc h=> ?_) (λ hc h=> ?_))))))))))
     .refine zaq (zad (zau (zas (zdy [] [(0,0),(0,1),(0,2),(0,3),(0,4),(0,5),(0,6),(0,7),(0,8),(0,9),(0,10),(0,11),(2,12),(0,13)] hmixP (by kernel_rfl) (pq rfl (zae (av:= .exact v8_l4) rfl (pq rfl (zae (av:= .row 2 zam y35) rfl (pq rfl (zae (av:= .xi c) rfl ?_))))))))))
      obtain⟨n58,h⟩:=zag h
      refine pq rfl (zaj (by kernel_rfl) rfl rfl n58.1 n58.2 (pq rfl (zav (o:=0) (c':=(List.drop 0 (zam (gi y35 c)))) (by kernel_rfl) rfl rfl (pq rfl (zap (a:= .xi ((gi y35 c).1)) (by kernel_rfl) rfl rfl (pq rfl (zae (av:= .row 1 zaa a1) rfl (pq rfl (zae (av:= .xi c) rfl ?_)))))))))
      obtain⟨n59,h⟩:=zag h
      refine pq rfl (zaj (by kernel_rfl) rfl rfl n59.1 n59.2 (pq rfl (zap (a:= .xs (gi a1 c)) (by kernel_rfl) rfl rfl (pq rfl (op_bld (c':=zam ((gi y35 c).1,gi a1 c)) (CellsAll.cons rfl CellsOf.int (CellsAll.cons rfl CellsOf.str CellsAll.nil)) rfl (lc lf (lc lf ln)) (pq rfl (zcf (n:=2) (enc:=zam) [((gi y35 c).1,gi a1 c)] (CellsAll.cons rfl CellsOf.agg CellsAll.nil) rfl (by kernel_rfl) (LEss.cons (lc lf (lc lf ln)) LEss.nil) ?_)))))))
      obtain⟨n60,h⟩:=zag h
      refine P_l rfl (zeb (by kernel_rfl) rfl rfl zfm n60 (λ v61=>pq rfl (zba (av:= .exact v61) rfl (zdu (zar (zad (kr (qm (.xi c) rfl (gq (zbx rfl rfl rfl (qa (.xi (i64 (c+1))) rfl (zay (zab ⟨_,_,v61,h,s4 rfl rfl rfl rfl⟩)))))))))))))
     .refine zcl (zbo (zbu (zbn (zab ⟨_,v8_l4,h,s1 rfl⟩))))
   .refine sr (qm (.exact v8_j36) rfl (G_sub rfl (SubU.freezeT2 (s1:=8) (s2:=41) rfl rfl zbw) ?_))
    obtain⟨y62,w,h⟩:=zac h
    refine gq (zai (m_ref16_Prefix_ok _ _ w) func27 (by kernel_rfl) (lc lf ln) (qa (.xs y62) rfl (gc (zax (zbr ?_)))))
    obtain rfl:=oi h
    refine ke (pt AF0 4 (.xs y62)) [] rfl (s1 rfl) ⟨rfl,rfl⟩
  .refine zaq (zab ⟨h,s4 rfl rfl rfl rfl⟩)
 .refine sr (qm (.xi y1) rfl ?_)
  obtain⟨y63,x,h⟩:=zac h
  refine gq (zai (m_ref16_layout_ok _ _ x) func73 (by kernel_rfl) (lc lf ln) (qa (.xs y63) rfl (gc (zbb h (λ(j:List (List UInt8))=>(pt (pt AF0 5 (.xi y1)) 6 (.exact v4))) (λ(j:List (List UInt8))=>[vecT Tryz.prog 26 1 zaa v4 j]) (λ k64 h=> ?_) (λ j h=> ?_)))))
  .refine sr (qa (.xi 0) rfl (gc (zas (k_loop3_0 (zlc a1 y63 k64) (zni a1 y63 k64) (λ _ _ _=>rfl) (λ m _ _ _=>rfl) h (λ(k:List (List UInt8)) (e:Int) (d:Int)=>(pt (pt (pt (pt (pt (pt AF0 1 (.row 1 zaa a1)) 5 (.xi y1)) 6 (.exact v4)) 7 (.xi e)) 11 (.xs y63)) 12 (.xi d))) (λ(k:List (List UInt8)) (e:Int) (d:Int)=>[vecT Tryz.prog 26 1 zaa v4 k]) ?_ (λ B k e d h=> ?_)))))
   .exact so (l4 rfl rfl rfl rfl (lq rfl (lq rfl lt0)))
   .unfold zni at h
    refine zau (sr (qm (.xi d) rfl (qm (.xs y63) rfl (gq (op_lenS (by kernel_rfl) rfl (gq (zby rfl rfl (gc (kd (p:=d<(List.length y63:Int)) rfl h (λ hc h=> ?_) (λ hc h=> ?_))))))))))
    .refine zaq (zad (k_join2_0 h (λ(l:List (List UInt8)) (q:Int)=>(pt (pt (pt (pt (pt (pt AF0 1 (.row 1 zaa a1)) 5 (.xi y1)) 6 (.exact v4)) 7 (.xi q)) 11 (.xs y63)) 12 (.xi d))) (λ(l:List (List UInt8)) (q:Int)=>[vecT Tryz.prog 26 1 zaa v4 l]) (λ k101 h=> ?_) (λ l q h=> ?_)))
     .refine zas (sr (qm (.xs y63) rfl (qm (.xi d) rfl ?_)))
      obtain⟨n105,h⟩:=zag h
      refine gq (zbj (by kernel_rfl) rfl rfl n105.1 n105.2 (gq (zjy (a:=(gi y63 d)) (b:=80) rfl rfl (gc (kd (p:=(gi y63 d)=80) rfl h (λ hc h=> ?_) (λ hc h=> ?_))))))
      .refine sr (qm (.exact v4) rfl (qm (.xi d) rfl (gq (zbx rfl rfl rfl (qm (.row 1 zaa a1) rfl (qm (.xi e) rfl ?_))))))
       obtain⟨n106,h⟩:=zag h
       refine gq (zaj (by kernel_rfl) rfl rfl n106.1 n106.2 (gq (zap (a:= .xs (gi a1 e)) (by kernel_rfl) rfl rfl ?_)))
       obtain⟨n107,h⟩:=zag h
       refine G_r rfl (zce (by kernel_rfl) rfl rfl n107.1 n107.2 (G_l rfl (zjl (i:=i64 (d+1)) (o:=0) (z:=gi a1 e) (c':=[.xs (gi a1 e)]) (by kernel_rfl) zbd rfl n107.1 n107.2 rfl CellsOf.str (lc lf ln) (OneC.str OneC.nil) (by kernel_rfl) (Nat.le_of_ble_eq_true rfl) rfl (gc (kr (qm (.xi e) rfl (gq (zbx rfl rfl rfl (qa (.xi (i64 (e+1))) rfl (zay (zar (zab ⟨_,_,h,so (l4 rfl rfl rfl rfl (lq rfl (lq rfl lt0)))⟩))))))))))))
      .refine zaq (zar (zab ⟨_,_,h,so (l4 rfl rfl rfl rfl (lq rfl (lq rfl lt0)))⟩))
     .refine kr (qm (.xi d) rfl (gq (zbx rfl rfl rfl (qa (.xi (i64 (d+1))) rfl (zay (zab ⟨_,_,_,h,so (l4 rfl rfl rfl rfl (lq rfl (lq rfl lt0)))⟩))))))
    .refine zcl (zbo (zbu (zbn (zab ⟨_,h,s2 rfl rfl⟩))))
  .refine sr (qm (.xi y1) rfl (qm (.exact v4) rfl (G_sub rfl (SubU.freezeT2 (s1:=6) (s2:=66) rfl rfl zbd) ?_)))
   obtain⟨n108,h⟩:=zag h
   refine gq (op_slice_rowd (by kernel_rfl) rfl (zef rfl) zel (by decide) n108 (Int.le_refl _) ?_)
   obtain⟨y109,y,h⟩:=zac h
   refine gq (zai (zcb _ _ _ y) func11 (by kernel_rfl) (lc lf (lc lf ln)) (qa (.xs y109) rfl (gc (zax ?_))))
   obtain rfl:=oi h
   refine ke (pt AF0 4 (.xs y109)) [] rfl (s1 rfl) ⟨rfl,rfl⟩
theorem m_law16_holed_F_ok {w0:Nat} (c:((List Int)×Int)->Int->Option ((List UInt8)×((List Int)×Int))) (hself_law16_holed: ∀ ⦃w0:Nat⦄ (a0:(List Int)×Int) (a1:Int) (r:(List UInt8)×((List Int)×Int)),c a0 a1=some r->Fun Tryz.prog 21 [(pA w0 0),(.exact (.int .i64 a1))] [boxI 50 w0 [.row 1 zbf a0.1, .exact (.int .i64 a0.2)]] (λ a s=>a= .exact (.string (bs r.1))/\s=[boxI 50 w0 [.row 1 zbf r.2.1, .exact (.int .i64 r.2.2)]])) (a0:(List Int)×Int) (a1:Int) (r:(List UInt8)×((List Int)×Int)) (h:m_law16_holed_F c a0 a1=some r):Fun Tryz.prog 21 [(pA w0 0),(.exact (.int .i64 a1))] [boxI 50 w0 [.row 1 zbf a0.1, .exact (.int .i64 a0.2)]] (λ a s=>a= .exact (.string (bs r.1))/\s=[boxI 50 w0 [.row 1 zbf r.2.1, .exact (.int .i64 r.2.2)]]):=by
 unfold m_law16_holed_F at h
 refine zan func21 rfl ntmps21 (by simp) rfl (res1 rfl) λ E hE=>zca (sr (qa (.xs ([]:List UInt8)) rfl (gc (zau (k_join3_0 h (λ(j:List Int) (k:Int) (d:Bool)=>(pt (pt (pt AF0 0 (pA w0 0)) 1 (.xi a1)) 14 (.xb d))) (λ(j:List Int) (k:Int) (d:Bool)=>[boxI 50 w0 [.row 1 zbf j, .xi k]]) (λ k8 h=> ?_) (λ j k d h=> ?_))))))
 .refine kr (qm (.xi a1) rfl (gq (zbi rfl rfl (qm (.xb (decide (a1=0))) rfl (zcm (p:=a1=0) 10 rfl (λ hc=> ?_) (λ hc=> ?_))))))
  .replace h:=zdb h hc
   refine gn (gn (gn (gq (zat rfl (av:= .xb true) rfl (zay (zab ⟨_,_,_,h,s3 rfl rfl rfl⟩))))))
  .replace h:=zdc h hc
   refine gy (zae (av:=pA w0 0) rfl ?_)
   obtain⟨y10,u,h⟩:=zac h
   refine Gy_l rfl rfl rfl (zbc (zcp _ _ _ u) func7 (by kernel_rfl) (lc lf (lc lf ln)) (gy (zbi rfl rfl (gq (zao rfl (av:= .xb (decide (y10.1=0))) rfl (zay (zab ⟨_,_,_,h,s3 rfl rfl rfl⟩)))))))
 .refine kb (p:=d) rfl h (λ hc h=> ?_) (λ hc h=> ?_)
  .refine sr (qm (pA w0 0) rfl ?_)
   obtain⟨y11,v,h⟩:=zac h
   refine G_l rfl (zbc (zcp _ _ _ v) func7 (by kernel_rfl) (lc lf (lc lf ln)) ?_)
   obtain⟨y12,w,h⟩:=zac h
   refine gq (zai (zhb _ _ w) func22 (by kernel_rfl) (lc lf ln) (gq (zcf (n:=1) (enc:=zaa) [y12] (CellsAll.cons rfl CellsOf.str CellsAll.nil) rfl (by kernel_rfl) (LEss.cons (lc lf ln) LEss.nil) ?_)))
   obtain⟨y13,x,h⟩:=zac h
   refine gq (zai (zcb _ _ _ x) func11 (by kernel_rfl) (lc lf (lc lf ln)) (qa (.xs y13) rfl (gc (zax (zaz ?_)))))
   obtain rfl:=oi h
   refine ke (pt AF0 4 (.xs y13)) [boxI 50 w0 [.row 1 zbf y11.2.1, .xi y11.2.2]] rfl (s1 rfl) ⟨rfl,rfl⟩
  .refine zaq (zad (sr (qm (pA w0 0) rfl ?_)))
   obtain⟨y14,y,h⟩:=zac h
   refine G_l rfl (zbc (zjc _ _ _ _ y) func6 (by kernel_rfl) (lc lf (lc lf (lc lf ln))) (qa (.xs y14.1) rfl (gd (qm (.xs y14.1) rfl ?_))))
   obtain⟨y15,A,h⟩:=zac h
   refine G_l rfl (zms (m_ref16_Operands_ok _ _ A) func55 (by kernel_rfl) (lc lf ln) (λ v16=>qa (.exact v16) rfl (gc (zau (sr (qm (.exact v16) rfl (G_r rfl (zeg (by kernel_rfl) rfl (gq (zbi rfl rfl (gc (kd (p:=(List.length y15:Int)=0) rfl h (λ hc h=> ?_) (λ hc h=> ?_)))))))))))))
   .refine sr (qm (.xs y14.1) rfl (qa (.xs y14.1) rfl (gc (zax (zaz ?_)))))
    obtain rfl:=oi h
    refine ke (pt AF0 4 (.xs y14.1)) [boxI 50 w0 [.row 1 zbf y14.2.1, .xi y14.2.2]] rfl (Sub.trans (SubU.to SubU.drop) (s1 rfl)) ⟨rfl,rfl⟩
   .refine zaq (zad (k_join3_0 h (λ(e:List Int) (f:Int) (l:List (List UInt8))=>(pt (pt (pt AF0 0 (pA w0 0)) 5 (.xs y14.1)) 6 (.exact v16))) (λ(e:List Int) (f:Int) (l:List (List UInt8))=>[boxI 50 w0 [.row 1 zbf e, .xi f],vecT Tryz.prog 26 1 zaa v16 l]) (λ k17 h=> ?_) (λ e f l h=> ?_)))
    .refine sr (qa (.xi 0) rfl (gc (zas (k_loop4_0 (zlv c a1 k17) (m_law16_holed_B2 c a1 k17) (λ _ _ _ _=>rfl) (λ m _ _ _ _=>rfl) h (λ(q:List Int) (t:Int) (g:List (List UInt8)) (b:Int)=>(pt (pt (pt (pt (pt AF0 0 (pA w0 0)) 1 (.xi a1)) 5 (.xs y14.1)) 6 (.exact v16)) 7 (.xi b))) (λ(q:List Int) (t:Int) (g:List (List UInt8)) (b:Int)=>[boxI 50 w0 [.row 1 zbf q, .xi t],vecT Tryz.prog 26 1 zaa v16 g]) ?_ (λ D q t g b h=> ?_)))))
     .refine Sub.trans (SubU.to SubU.f1) (so (l4 rfl rfl rfl rfl (lq rfl lt0)))
     .unfold m_law16_holed_B2 at h
      refine zau (sr (qm (.xi b) rfl (qm (.exact v16) rfl (G_r rfl (opR_f1 (zeg (by kernel_rfl) rfl (gq (zby rfl rfl (gc (kd (p:=b<(List.length g:Int)) rfl h (λ hc h=> ?_) (λ hc h=> ?_)))))))))))
      .refine zaq (zad (zau (zas (kr (qm (.exact v16) rfl (qm (.xi b) rfl (qm (pA w0 0) rfl (qm (.xi a1) rfl (gq (zfo rfl rfl rfl ?_))))))))))
       obtain⟨y29,B,h⟩:=zac h
       refine G_l rfl (zbc (hself_law16_holed _ _ _ B) func21 (by kernel_rfl) (lc lf (lc lf ln)) ?_)
       obtain⟨n30,h⟩:=zag h
       refine G_r rfl (opR_f1 (zce (by kernel_rfl) rfl rfl n30.1 n30.2 (G_l rfl (opB_f1 (zjl (i:=b) (o:=0) (z:=y29.1) (c':=[.xs y29.1]) (by kernel_rfl) zbd rfl n30.1 n30.2 rfl CellsOf.str (lc lf ln) (OneC.str OneC.nil) (by kernel_rfl) (Nat.le_of_ble_eq_true rfl) rfl (zay (zar (zad (kr (qm (.xi b) rfl (gq (zbx rfl rfl rfl (qa (.xi (i64 (b+1))) rfl (zay (zab ⟨_,_,_,_,h, ?_⟩)))))))))))))))
       refine Sub.trans (SubU.to SubU.f1) (so (l4 rfl rfl rfl rfl (lq rfl lt0)))
      .refine zcl (zbo (zbu (zbn (zab ⟨_,_,_,h,s3 rfl rfl rfl⟩))))
    .refine sr (qm (.xs y14.1) rfl (qm (.exact v16) rfl (G_sub rfl (SubU.trans SubU.f1 (SubU.freezeT2 (s1:=6) (s2:=42) rfl rfl zbd)) ?_)))
     obtain⟨y31,C,h⟩:=zac h
     refine gq (zai (m_ref16_With_ok _ _ _ C) func56 (by kernel_rfl) (lc lf (lc lf ln)) (qa (.xs y31) rfl (gc (zax ?_))))
     obtain rfl:=oi h
     refine ke (pt AF0 4 (.xs y31)) [boxI 50 w0 [.row 1 zbf e, .xi f]] rfl (s1 rfl) ⟨rfl,rfl⟩
theorem m_law16_holed_S_ok: ∀n:Nat,(∀ ⦃w0:Nat⦄ (a0:(List Int)×Int) (a1:Int) (r:(List UInt8)×((List Int)×Int)),zje n a0 a1=some r->Fun Tryz.prog 21 [(pA w0 0),(.exact (.int .i64 a1))] [boxI 50 w0 [.row 1 zbf a0.1, .exact (.int .i64 a0.2)]] (λ a s=>a= .exact (.string (bs r.1))/\s=[boxI 50 w0 [.row 1 zbf r.2.1, .exact (.int .i64 r.2.2)]]))
  |0=>(λ _ _ _ _ h=>by have h':(none:Option _)=some _:=h;cases h')
  |n+1=>by
    have ih:=m_law16_holed_S_ok n
    exact λ w0 a0 a1 r h=>m_law16_holed_F_ok (zje n) ih a0 a1 r h
theorem m_law16_holed_ok {w0:Nat} (a0:(List Int)×Int) (a1:Int) (r:(List UInt8)×((List Int)×Int)) (h:m_law16_holed a0 a1=some r):Fun Tryz.prog 21 [(pA w0 0),(.exact (.int .i64 a1))] [boxI 50 w0 [.row 1 zbf a0.1, .exact (.int .i64 a0.2)]] (λ a s=>a= .exact (.string (bs r.1))/\s=[boxI 50 w0 [.row 1 zbf r.2.1, .exact (.int .i64 r.2.2)]]):=(m_law16_holed_S_ok FU) a0 a1 r h
theorem m_cmp_isNaN_byte_ok (a0:UInt8) (r:Bool) (h:m_cmp_isNaN_byte a0=some r):Pure Tryz.prog 201 [(.exact (.int .u8 (UInt8.toNat a0:Int)))] (.exact (.bool r)):=by
 unfold m_cmp_isNaN_byte at h
 refine Pure.ofFun (zan func201 rfl ntmps201 (by simp) rfl (res1 rfl) λ E hE=>zca (sr (qa (.xb false) rfl (gd (qm (.exact (.int .u8 (UInt8.toNat a0:Int))) rfl (qm (.exact (.int .u8 (UInt8.toNat a0:Int))) rfl (gq (op_neqU (a:=a0) (b:=a0) rfl rfl (qa (.xb (decide (¬a0=a0))) rfl (gc (zax ?_)))))))))))
 obtain rfl:=oi h
 refine ke (pt AF0 2 (.xb (decide (¬a0=a0)))) [] rfl (s1 rfl) ⟨rfl,rfl⟩
theorem m_cmp_Compare_byte_ok (a0:UInt8) (a1:UInt8) (r:Int) (h:zma a0 a1=some r):Pure Tryz.prog 188 [(.exact (.int .u8 (UInt8.toNat a0:Int))),(.exact (.int .u8 (UInt8.toNat a1:Int)))] (.exact (.int .i64 r)):=by
 unfold zma at h
 refine Pure.ofFun (zan func188 rfl ntmps188 (by simp) rfl (res1 rfl) λ E hE=>zca (sr (qa (.xi 0) rfl (gd (qm (.exact (.int .u8 (UInt8.toNat a0:Int))) rfl ?_)))))
 obtain⟨y1,c,h⟩:=zac h
 refine gq (zai (m_cmp_isNaN_byte_ok _ _ c) func201 (by kernel_rfl) (lc lf ln) (qa (.xb y1) rfl (gd (qm (.exact (.int .u8 (UInt8.toNat a1:Int))) rfl ?_))))
 obtain⟨y2,d,h⟩:=zac h
 refine gq (zai (m_cmp_isNaN_byte_ok _ _ d) func201 (by kernel_rfl) (lc lf ln) (qa (.xb y2) rfl (gc (zau (sr (qm (.xb y1) rfl (gc (kb (p:=y1) rfl h (λ hc h=> ?_) (λ hc h=> ?_)))))))))
 .refine zau (sr (qm (.xb y2) rfl (gc (kb (p:=y2) rfl h (λ hc h=> ?_) (λ hc h=> ?_)))))
  .refine sr (qa (.xi 0) rfl (gc (zax (zaz (zaz ?_)))))
   obtain rfl:=oi h
   refine ke (pt AF0 4 (.xi 0)) [] rfl (s1 rfl) ⟨rfl,rfl⟩
  .refine zaq (zad (sr (qa (.xi (-1)) rfl (gc (zax (zaz ?_))))))
   obtain rfl:=oi h
   refine ke (pt AF0 4 (.xi (-1))) [] rfl (s1 rfl) ⟨rfl,rfl⟩
 .refine zaq (zad (zau (sr (qm (.xb y2) rfl (gc (kb (p:=y2) rfl h (λ hc h=> ?_) (λ hc h=> ?_)))))))
  .refine sr (qa (.xi 1) rfl (gc (zax (zaz ?_))))
   obtain rfl:=oi h
   refine ke (pt AF0 4 (.xi 1)) [] rfl (s1 rfl) ⟨rfl,rfl⟩
  .refine zaq (zad (zau (sr (qm (.exact (.int .u8 (UInt8.toNat a0:Int))) rfl (qm (.exact (.int .u8 (UInt8.toNat a1:Int))) rfl (gq (op_lssU (a:=a0) (b:=a1) rfl rfl (gc (kd (p:=a0<a1) rfl h (λ hc h=> ?_) (λ hc h=> ?_))))))))))
   .refine sr (qa (.xi (-1)) rfl (gc (zax (zaz ?_))))
    obtain rfl:=oi h
    refine ke (pt AF0 4 (.xi (-1))) [] rfl (s1 rfl) ⟨rfl,rfl⟩
   .refine zaq (zad (zau (sr (qm (.exact (.int .u8 (UInt8.toNat a0:Int))) rfl (qm (.exact (.int .u8 (UInt8.toNat a1:Int))) rfl (gq (op_gtrU (a:=a0) (b:=a1) rfl rfl (gc (kd (p:=a1<a0) rfl h (λ hc h=> ?_) (λ hc h=> ?_))))))))))
    .refine sr (qa (.xi 1) rfl (gc (zax (zaz ?_))))
     obtain rfl:=oi h
     refine ke (pt AF0 4 (.xi 1)) [] rfl (s1 rfl) ⟨rfl,rfl⟩
    .refine zaq (zad (sr (qa (.xi 0) rfl (gc (zax ?_)))))
     obtain rfl:=oi h
     refine ke (pt AF0 4 (.xi 0)) [] rfl (s1 rfl) ⟨rfl,rfl⟩
theorem zmj (a0:List UInt8) (r:Int) (h:zhe a0=some r):Pure Tryz.prog 98 [(.exact (.string (bs a0)))] (.exact (.int .i64 r)):=by
 unfold zhe at h
 refine Pure.ofFun (zan func98 rfl ntmps98 (by simp) rfl (res1 rfl) λ E hE=>zca (sr (qa (.xi 0) rfl (gd (qa (.exact (.int .u64 0)) rfl (gc (zbb h (λ(b:Int)=>(pt AF0 3 (.exact (.int .u64 b)))) (λ(b:Int)=>[]) (λ k1 h=> ?_) (λ b h=> ?_))))))))
 .refine sr (qa (.xi 1) rfl (gc (zas (k_loop2_0 (zjs a0 k1) (zmm a0 k1) (λ _ _=>rfl) (λ m _ _=>rfl) h (λ(c:Int) (a:Int)=>(pt (pt (pt AF0 0 (.xs a0)) 3 (.exact (.int .u64 c))) 4 (.xi a))) (λ(c:Int) (a:Int)=>[]) ?_ (λ d c a h=> ?_)))))
  .exact s3 rfl rfl rfl
  .unfold zmm at h
   refine zau (sr (qm (.xi a) rfl (gq (zby rfl rfl (gc (kd (p:=a<9) rfl h (λ hc h=> ?_) (λ hc h=> ?_)))))))
   .refine zaq (zad (zau (zas (kr (qm (.exact (.int .u64 c)) rfl (gq (op_shl rfl rfl (by decide) rfl (qm (.xs a0) rfl (qm (.xi a) rfl ?_)))))))))
    obtain⟨n8,h⟩:=zag h
    refine gq (zbj (by kernel_rfl) rfl rfl n8.1 n8.2 (gq (zbz (k:= .u64) (r:=(UInt8.toNat (gi a0 a):Int)) (by kernel_rfl) rfl (zjx rfl _) (gq (op_or rfl rfl rfl (qa (.exact (.int .u64 (bOr .u64 (IntKind.u64.wrap (c*2^min (Int.toNat 8) IntKind.u64.bits)) (UInt8.toNat (gi a0 a):Int)))) rfl (zay (zar (zad (kr (qm (.xi a) rfl (gq (zbx rfl rfl rfl (qa (.xi (i64 (a+1))) rfl (zay (zab ⟨_,_,h,s3 rfl rfl rfl⟩))))))))))))))))
   .refine zcl (zbo (zbu (zbn (zab ⟨_,h,s1 rfl⟩))))
 .refine sr (qm (.exact (.int .u64 b)) rfl (gq (zbz (k:= .i64) (by kernel_rfl) rfl rfl (qa (.xi (i64 (b))) rfl (gc (zax ?_))))))
  obtain rfl:=oi h
  refine ke (pt AF0 2 (.xi (i64 (b)))) [] rfl (s1 rfl) ⟨rfl,rfl⟩
end
noncomputable section
open Go.RowKit
attribute [local irreducible] AV.exact AV.top AV.row AV.ptr AV.agg AV.tup AV.eptr AV.fn AV.nilq AV.nilqn opA opB opM opR Quiet Loud Reads wpG awp den Sub SubU Pure Fun vecI vecT boxI CellsAll CellsOf OneC LEs LEss
set_option maxRecDepth 100000
set_option maxHeartbeats 4000000
theorem m_cmp_isNaN_int64_ok (a0:Int) (r:Bool) (h:znn a0=some r):Pure Tryz.prog 202 [(.exact (.int .i64 a0))] (.exact (.bool r)):=by
 unfold znn at h
 refine Pure.ofFun (zan func202 rfl ntmps202 (by simp) rfl (res1 rfl) λ E hE=>zca (sr (qa (.xb false) rfl (gd (qm (.xi a0) rfl (qm (.xi a0) rfl (gq (zlq rfl rfl (qa (.xb (decide (¬a0=a0))) rfl (gc (zax ?_)))))))))))
 obtain rfl:=oi h
 refine ke (pt AF0 2 (.xb (decide (¬a0=a0)))) [] rfl (s1 rfl) ⟨rfl,rfl⟩
theorem m_cmp_Compare_int64_ok (a0:Int) (a1:Int) (r:Int) (h:zky a0 a1=some r):Pure Tryz.prog 189 [(.exact (.int .i64 a0)),(.exact (.int .i64 a1))] (.exact (.int .i64 r)):=by
 unfold zky at h
 refine Pure.ofFun (zan func189 rfl ntmps189 (by simp) rfl (res1 rfl) λ E hE=>zca (sr (qa (.xi 0) rfl (gd (qm (.xi a0) rfl ?_)))))
 obtain⟨y1,a,h⟩:=zac h
 refine gq (zai (m_cmp_isNaN_int64_ok _ _ a) func202 (by kernel_rfl) (lc lf ln) (qa (.xb y1) rfl (gd (qm (.xi a1) rfl ?_))))
 obtain⟨y2,b,h⟩:=zac h
 refine gq (zai (m_cmp_isNaN_int64_ok _ _ b) func202 (by kernel_rfl) (lc lf ln) (qa (.xb y2) rfl (gc (zau (sr (qm (.xb y1) rfl (gc (kb (p:=y1) rfl h (λ hc h=> ?_) (λ hc h=> ?_)))))))))
 .refine zau (sr (qm (.xb y2) rfl (gc (kb (p:=y2) rfl h (λ hc h=> ?_) (λ hc h=> ?_)))))
  .refine sr (qa (.xi 0) rfl (gc (zax (zaz (zaz ?_)))))
   obtain rfl:=oi h
   refine ke (pt AF0 4 (.xi 0)) [] rfl (s1 rfl) ⟨rfl,rfl⟩
  .refine zaq (zad (sr (qa (.xi (-1)) rfl (gc (zax (zaz ?_))))))
   obtain rfl:=oi h
   refine ke (pt AF0 4 (.xi (-1))) [] rfl (s1 rfl) ⟨rfl,rfl⟩
 .refine zaq (zad (zau (sr (qm (.xb y2) rfl (gc (kb (p:=y2) rfl h (λ hc h=> ?_) (λ hc h=> ?_)))))))
  .refine sr (qa (.xi 1) rfl (gc (zax (zaz ?_))))
   obtain rfl:=oi h
   refine ke (pt AF0 4 (.xi 1)) [] rfl (s1 rfl) ⟨rfl,rfl⟩
  .refine zaq (zad (zau (sr (qm (.xi a0) rfl (qm (.xi a1) rfl (gq (zby rfl rfl (gc (kd (p:=a0<a1) rfl h (λ hc h=> ?_) (λ hc h=> ?_))))))))))
   .refine sr (qa (.xi (-1)) rfl (gc (zax (zaz ?_))))
    obtain rfl:=oi h
    refine ke (pt AF0 4 (.xi (-1))) [] rfl (s1 rfl) ⟨rfl,rfl⟩
   .refine zaq (zad (zau (sr (qm (.xi a0) rfl (qm (.xi a1) rfl (gq (zlh rfl rfl (gc (kd (p:=a1<a0) rfl h (λ hc h=> ?_) (λ hc h=> ?_))))))))))
    .refine sr (qa (.xi 1) rfl (gc (zax (zaz ?_))))
     obtain rfl:=oi h
     refine ke (pt AF0 4 (.xi 1)) [] rfl (s1 rfl) ⟨rfl,rfl⟩
    .refine zaq (zad (sr (qa (.xi 0) rfl (gc (zax ?_)))))
     obtain rfl:=oi h
     refine ke (pt AF0 4 (.xi 0)) [] rfl (s1 rfl) ⟨rfl,rfl⟩
theorem m_value_simple_ok (a0:Int) (r:Bool) (h:m_value_simple a0=some r):Pure Tryz.prog 162 [(.exact (.int .i64 a0))] (.exact (.bool r)):=by
 unfold m_value_simple at h
 refine Pure.ofFun (zan func162 rfl ntmps162 (by simp) rfl (res1 rfl) λ E hE=>zca (sr (qa (.xb false) rfl (gc (zbb h (λ(a:Bool)=>(pt AF0 2 (.xb a))) (λ(a:Bool)=>[]) (λ k1 h=> ?_) (λ a h=> ?_))))))
 .refine kr (qm (.xi a0) rfl (gq (zbi rfl rfl (qm (.xb (decide (a0=0))) rfl (zcm (p:=a0=0) 5 rfl (λ hc=> ?_) (λ hc=> ?_))))))
  .replace h:=zdb h hc
   refine gn (gn (gq (zat rfl (av:= .xb true) rfl (qm (.xb true) rfl (gn (gn (gq (zat rfl (av:= .xb true) rfl (qm (.xb true) rfl (gn (gn (gq (zat rfl (av:= .xb true) rfl (qa (.xb true) rfl (zay (zab ⟨_,h,s1 rfl⟩))))))))))))))))
  .replace h:=zdc h hc
   refine gy (zae (av:= .xi a0) rfl (gy (zbi rfl rfl (gq (zao rfl (av:= .xb (decide (a0=1))) rfl (qm (.xb (decide (a0=1))) rfl (zcm (p:=a0=1) 9 rfl (λ hc=> ?_) (λ hc=> ?_))))))))
   .replace h:=zdb h hc
    refine gn (gn (gq (zat rfl (av:= .xb true) rfl (qm (.xb true) rfl (gn (gn (gq (zat rfl (av:= .xb true) rfl (qa (.xb true) rfl (zay (zab ⟨_,h,s1 rfl⟩)))))))))))
   .replace h:=zdc h hc
    refine gy (zae (av:= .xi a0) rfl (gy (zbi rfl rfl (gq (zao rfl (av:= .xb (decide (a0=2))) rfl (qm (.xb (decide (a0=2))) rfl (zcm (p:=a0=2) 13 rfl (λ hc=> ?_) (λ hc=> ?_))))))))
    .replace h:=zdb h hc
     refine gn (gn (gq (zat rfl (av:= .xb true) rfl (qa (.xb true) rfl (zay (zab ⟨_,h,s1 rfl⟩))))))
    .replace h:=zdc h hc
     refine gy (zae (av:= .xi a0) rfl (gy (zbi rfl rfl (gq (zao rfl (av:= .xb (decide (a0=10))) rfl (qa (.xb (decide (a0=10))) rfl (zay (zab ⟨_,h,s1 rfl⟩))))))))
 .refine zax ?_
  obtain rfl:=oi h
  refine ke (pt AF0 2 (.xb a)) [] rfl (s1 rfl) ⟨rfl,rfl⟩
theorem m_cmp_isNaN_api_Value_ok (a0:List UInt8) (r:Bool) (h:ziy a0=some r):Pure Tryz.prog 191 [(.exact (.string (bs a0)))] (.exact (.bool r)):=by
 unfold ziy at h
 refine Pure.ofFun (zan func191 rfl ntmps191 (by simp) rfl (res1 rfl) λ E hE=>zca (sr (qa (.xb false) rfl (gd (qm (.xs a0) rfl (qm (.xs a0) rfl (gq (op_neqS rfl rfl (qa (.xb (decide (¬a0=a0))) rfl (gc (zax ?_)))))))))))
 obtain rfl:=oi h
 refine ke (pt AF0 2 (.xb (decide (¬a0=a0)))) [] rfl (s1 rfl) ⟨rfl,rfl⟩
theorem m_cmp_Compare_api_Value_ok (a0:List UInt8) (a1:List UInt8) (r:Int) (h:zfp a0 a1=some r):Pure Tryz.prog 161 [(.exact (.string (bs a0))),(.exact (.string (bs a1)))] (.exact (.int .i64 r)):=by
 unfold zfp at h
 refine Pure.ofFun (zan func161 rfl ntmps161 (by simp) rfl (res1 rfl) λ E hE=>zca (sr (qa (.xi 0) rfl (gd (qm (.xs a0) rfl ?_)))))
 obtain⟨y1,a,h⟩:=zac h
 refine gq (zai (m_cmp_isNaN_api_Value_ok _ _ a) func191 (by kernel_rfl) (lc lf ln) (qa (.xb y1) rfl (gd (qm (.xs a1) rfl ?_))))
 obtain⟨y2,b,h⟩:=zac h
 refine gq (zai (m_cmp_isNaN_api_Value_ok _ _ b) func191 (by kernel_rfl) (lc lf ln) (qa (.xb y2) rfl (gc (zau (sr (qm (.xb y1) rfl (gc (kb (p:=y1) rfl h (λ hc h=> ?_) (λ hc h=> ?_)))))))))
 .refine zau (sr (qm (.xb y2) rfl (gc (kb (p:=y2) rfl h (λ hc h=> ?_) (λ hc h=> ?_)))))
  .refine sr (qa (.xi 0) rfl (gc (zax (zaz (zaz ?_)))))
   obtain rfl:=oi h
   refine ke (pt AF0 4 (.xi 0)) [] rfl (s1 rfl) ⟨rfl,rfl⟩
  .refine zaq (zad (sr (qa (.xi (-1)) rfl (gc (zax (zaz ?_))))))
   obtain rfl:=oi h
   refine ke (pt AF0 4 (.xi (-1))) [] rfl (s1 rfl) ⟨rfl,rfl⟩
 .refine zaq (zad (zau (sr (qm (.xb y2) rfl (gc (kb (p:=y2) rfl h (λ hc h=> ?_) (λ hc h=> ?_)))))))
  .refine sr (qa (.xi 1) rfl (gc (zax (zaz ?_))))
   obtain rfl:=oi h
   refine ke (pt AF0 4 (.xi 1)) [] rfl (s1 rfl) ⟨rfl,rfl⟩
  .refine zaq (zad (zau (sr (qm (.xs a0) rfl (qm (.xs a1) rfl (gq (op_lssS rfl rfl (gc (kd (p:=ltS a0 a1) rfl h (λ hc h=> ?_) (λ hc h=> ?_))))))))))
   .refine sr (qa (.xi (-1)) rfl (gc (zax (zaz ?_))))
    obtain rfl:=oi h
    refine ke (pt AF0 4 (.xi (-1))) [] rfl (s1 rfl) ⟨rfl,rfl⟩
   .refine zaq (zad (zau (sr (qm (.xs a0) rfl (qm (.xs a1) rfl (gq (op_gtrS rfl rfl (gc (kd (p:=ltS a1 a0) rfl h (λ hc h=> ?_) (λ hc h=> ?_))))))))))
    .refine sr (qa (.xi 1) rfl (gc (zax (zaz ?_))))
     obtain rfl:=oi h
     refine ke (pt AF0 4 (.xi 1)) [] rfl (s1 rfl) ⟨rfl,rfl⟩
    .refine zaq (zad (sr (qa (.xi 0) rfl (gc (zax ?_)))))
     obtain rfl:=oi h
     refine ke (pt AF0 4 (.xi 0)) [] rfl (s1 rfl) ⟨rfl,rfl⟩
theorem m_value_span_F_ok (f:(List UInt8)->Option Int) (hself_value_span: ∀(a0:List UInt8) (r:Int),f a0=some r->Pure Tryz.prog 192 [(.exact (.string (bs a0)))] (.exact (.int .i64 r))) (a0:List UInt8) (r:Int) (h:m_value_span_F f a0=some r):Pure Tryz.prog 192 [(.exact (.string (bs a0)))] (.exact (.int .i64 r)):=by
 unfold m_value_span_F at h
 refine Pure.ofFun (zan func192 rfl ntmps192 (by simp) rfl (res1 rfl) λ E hE=>zca (sr (qa (.xi 0) rfl (gc (zau (sr (qm (.xs a0) rfl ?_)))))))
 obtain⟨n1,h⟩:=zag h
 refine gq (zbj (by kernel_rfl) rfl rfl n1.1 n1.2 (gc (zas (sr (gq (zjy (a:=(gi a0 0)) (b:=1) rfl rfl (qa (.xb (decide ((gi a0 0)=1))) rfl (gc (kd (p:=(gi a0 0)=1) rfl h (λ hc h=> ?_) (λ hc h=> ?_))))))))))
 .refine sr (qa (.xi 9) rfl (gc (zax (zbe (zaz ?_)))))
  obtain rfl:=oi h
  refine ke (pt AF0 2 (.xi 9)) [] rfl (s1 rfl) ⟨rfl,rfl⟩
 .refine sr (gq (zjy (a:=(gi a0 0)) (b:=2) rfl rfl (qa (.xb (decide ((gi a0 0)=2))) rfl (gc (kd (p:=(gi a0 0)=2) rfl h (λ hc h=> ?_) (λ hc h=> ?_))))))
  .refine sr (qa (.xi 2) rfl (gc (zax (zbe (zaz ?_)))))
   obtain rfl:=oi h
   refine ke (pt AF0 2 (.xi 2)) [] rfl (s1 rfl) ⟨rfl,rfl⟩
  .refine sr (gq (zjy (a:=(gi a0 0)) (b:=10) rfl rfl (qa (.xb (decide ((gi a0 0)=10))) rfl (gc (kd (p:=(gi a0 0)=10) rfl h (λ hc h=> ?_) (λ hc h=> ?_))))))
   .refine sr (qa (.xi 3) rfl (gc (zax (zbe (zaz ?_)))))
    obtain rfl:=oi h
    refine ke (pt AF0 2 (.xi 3)) [] rfl (s1 rfl) ⟨rfl,rfl⟩
   .refine zaq (zar (zad (sr (qa (.xi 3) rfl (gc (zbb h (λ(c:Int)=>(pt AF0 3 (.xi c))) (λ(c:Int)=>[]) (λ k2 h=> ?_) (λ c h=> ?_)))))))
    .refine zau (zdy [] [(0,0),(0,1),(0,2),(0,3),(0,4),(0,5),(0,6),(0,7),(0,8)] hmixP (by kernel_rfl) (pq rfl (zae (av:= .xs a0) rfl ?_)))
     obtain⟨n12,h⟩:=zag h
     refine pq rfl (zbj (by kernel_rfl) rfl rfl n12.1 n12.2 (pq rfl (zbz (k:= .i64) (r:=(UInt8.toNat (gi a0 1):Int)) (by kernel_rfl) rfl (zjx rfl _) (pq rfl (op_shl rfl rfl (by decide) rfl (pq rfl (zae (av:= .xs a0) rfl ?_)))))))
     obtain⟨n13,h⟩:=zag h
     refine pq rfl (zbj (by kernel_rfl) rfl rfl n13.1 n13.2 (pq rfl (zbz (k:= .i64) (r:=(UInt8.toNat (gi a0 2):Int)) (by kernel_rfl) rfl (zjx rfl _) (pq rfl (op_or rfl rfl rfl (pq rfl (zae (av:= .xi 0) rfl (zdu (zad (zas (k_loop2_0 (zns f a0 k2) (m_value_span_B2 f a0 k2) (λ _ _=>rfl) (λ m _ _=>rfl) h (λ(d:Int) (e:Int)=>(pt (pt (pt (pt AF0 0 (.xs a0)) 3 (.xi d)) 19 (.xi (bOr .i64 (i64 ((UInt8.toNat (gi a0 1):Int)*2^min (Int.toNat 8) IntKind.i64.bits)) (UInt8.toNat (gi a0 2):Int)))) 20 (.xi e))) (λ(d:Int) (e:Int)=>[]) ?_ (λ i d e h=> ?_))))))))))))
     .exact s4 rfl rfl rfl rfl
     .unfold m_value_span_B2 at h
      refine sr (gq (zby rfl rfl (gc (zau (kd (p:=e<(bOr .i64 (i64 ((UInt8.toNat (gi a0 1):Int)*2^min (Int.toNat 8) IntKind.i64.bits)) (UInt8.toNat (gi a0 2):Int))) rfl h (λ hc h=> ?_) (λ hc h=> ?_))))))
      .refine zaq (zad (zau (zas (kr (qm (.xi d) rfl (qm (.xs a0) rfl (qm (.xi d) rfl ?_)))))))
       obtain⟨n18,h⟩:=zag h
       refine gq (zkn (by kernel_rfl) rfl (zef rfl) zel n18.1 n18.2 (Int.le_refl _) ?_)
       obtain⟨y19,g,h⟩:=zac h
       refine gq (zai (hself_value_span _ _ g) func192 (by kernel_rfl) (lc lf ln) (gq (zbx rfl rfl rfl (qa (.xi (i64 (d+y19))) rfl (zay (zar (zad (kr (gq (zbx rfl rfl rfl (qm (.xi (i64 (e+1))) rfl (zay (zab ⟨_,_,h,s4 rfl rfl rfl rfl⟩)))))))))))))
      .refine zcl (zbo (zbu (zbn (zab ⟨_,h,s1 rfl⟩))))
    .refine sr (qm (.xi c) rfl (qa (.xi c) rfl (gc (zax ?_))))
     obtain rfl:=oi h
     refine ke (pt AF0 2 (.xi c)) [] rfl (s1 rfl) ⟨rfl,rfl⟩
theorem m_value_span_S_ok: ∀n:Nat,(∀(a0:List UInt8) (r:Int),zna n a0=some r->Pure Tryz.prog 192 [(.exact (.string (bs a0)))] (.exact (.int .i64 r)))
  |0=>(λ _ _ h=>by have h':(none:Option _)=some _:=h;cases h')
  |n+1=>by
    have ih:=m_value_span_S_ok n
    exact λ a0 r h=>m_value_span_F_ok (zna n) ih a0 r h
theorem m_value_span_ok (a0:List UInt8) (r:Int) (h:m_value_span a0=some r):Pure Tryz.prog 192 [(.exact (.string (bs a0)))] (.exact (.int .i64 r)):=(m_value_span_S_ok FU) a0 r h
theorem zeh (a0:List (List UInt8)) (r:(List (List UInt8))) (h:zbp a0=some r):Pure Tryz.prog 109 [(.row 1 zaa a0)] (.row 1 zaa r):=by
 unfold zbp at h
 refine Pure.ofFun (zan func109 rfl ntmps109 (by simp) rfl (res1 rfl) λ E hE=>zca (sr (qa (.exact (.slice none 0 0)) rfl (gd (qm (.row 1 zaa a0) rfl (qm (.row 1 zaa a0) rfl (gq (zaw (by kernel_rfl) rfl (qm (.row 1 zaa a0) rfl (gq (zaw (by kernel_rfl) rfl ?_)))))))))))
 obtain⟨n1,h⟩:=zag h
 refine gq (op_slice_row3 (by kernel_rfl) rfl zel rfl rfl (Int.le_refl 0) n1 (Int.le_refl _) (Int.le_refl _) (qa (.row 1 zaa (List.take (Int.toNat (List.length a0:Int)) a0)) rfl (gc (zax ?_))))
 obtain rfl:=oi h
 refine ke (pt AF0 2 (.row 1 zaa (List.take (Int.toNat (List.length a0:Int)) a0))) [] rfl (s1 rfl) ⟨rfl,rfl⟩
theorem m_value_parts_ok (a0:List UInt8) (r:(List (List UInt8))) (h:m_value_parts a0=some r):Pure Tryz.prog 163 [(.exact (.string (bs a0)))] (.row 1 zaa r):=by
 unfold m_value_parts at h
 refine Pure.ofFun (zan func163 rfl ntmps163 (by simp) rfl (res1 rfl) λ E hE=>zca (sr (qa (.exact (.slice none 0 0)) rfl (gd (qa (.exact (.slice none 0 0)) rfl (gc (zdl h (λ(b:List (List UInt8)) (v3_j1:Value)=>(pt AF0 3 (.exact v3_j1))) (λ(b:List (List UInt8)) (v3_j1:Value)=>[vecT Tryz.prog 26 1 zaa v3_j1 b]) (λ k1 h=> ?_) (λ b v3_j1 h=> ?_))))))))
 .refine sr (qa (.xi 3) rfl (gc (zas (zei (zlx a0 k1) (m_value_parts_B2 a0 k1) (λ _ _=>rfl) (λ m _ _=>rfl) h (λ(c:List (List UInt8)) (a:Int) (v3_l2:Value)=>(pt (pt (pt AF0 0 (.xs a0)) 3 (.exact v3_l2)) 4 (.xi a))) (λ(c:List (List UInt8)) (a:Int) (v3_l2:Value)=>[vecT Tryz.prog 26 1 zaa v3_l2 c]) (.slice none 0 0) ?_ (λ f c a v3_l2 h=> ?_)))))
  .refine Sub.trans (SubU.to (SubU.nilT (P:=Tryz.prog) (t:=26) (n:=1) (enc:=zaa))) (s3 rfl rfl rfl)
  .unfold m_value_parts_B2 at h
   refine zau (sr (qm (.xi a) rfl (qm (.xs a0) rfl (gq (op_lenS (by kernel_rfl) rfl (gq (zby rfl rfl (gc (kd (p:=a<(List.length a0:Int)) rfl h (λ hc h=> ?_) (λ hc h=> ?_))))))))))
   .refine zaq (zad (zas (sr (qm (.xs a0) rfl (qm (.xi a) rfl ?_)))))
    obtain⟨n28,h⟩:=zag h
    refine gq (zkn (by kernel_rfl) rfl (zef rfl) zel n28.1 n28.2 (Int.le_refl _) ?_)
    obtain⟨y29,d,h⟩:=zac h
    refine gq (zai (m_value_span_ok _ _ d) func192 (by kernel_rfl) (lc lf ln) (qa (.xi y29) rfl (gd (qm (.exact v3_l2) rfl (qm (.xs a0) rfl (qm (.xi a) rfl (qm (.xi a) rfl (qm (.xi y29) rfl (gq (zbx rfl rfl rfl ?_))))))))))
    obtain⟨n30,h⟩:=zag h
    refine gq (op_slice_str (by kernel_rfl) rfl (zef rfl) (zef rfl) n30.1 n30.2.1 n30.2.2 (gq (zcf (n:=1) (enc:=zaa) [List.take (Int.toNat (i64 (a+y29)) - Int.toNat a) (List.drop (Int.toNat a) a0)] (CellsAll.cons rfl CellsOf.str CellsAll.nil) rfl (by kernel_rfl) (LEss.cons (lc lf ln) LEss.nil) ?_)))
    obtain⟨n31,h⟩:=zag h
    refine G_l rfl (zeb (by kernel_rfl) rfl rfl zcr n31 (λ v32=>qa (.exact v32) rfl (gc (kr (qm (.xi a) rfl (qm (.xi y29) rfl (gq (zbx rfl rfl rfl (qa (.xi (i64 (a+y29))) rfl (zay (zar (zab ⟨_,_,v32,h,s3 rfl rfl rfl⟩))))))))))))
   .refine zcl (zbo (zbu (zbn (zab ⟨_,v3_l2,h,s1 rfl⟩))))
 .refine sr (qm (.exact v3_j1) rfl (G_sub rfl (SubU.freezeT2 (s1:=3) (s2:=26) rfl rfl zbd) ?_))
  obtain⟨y33,e,h⟩:=zac h
  refine gq (zai (zeh _ _ e) func109 (by kernel_rfl) (lc lf ln) (qa (.row 1 zaa y33) rfl (gc (zax ?_))))
  obtain rfl:=oi h
  refine ke (pt AF0 2 (.row 1 zaa y33)) [] rfl (s1 rfl) ⟨rfl,rfl⟩
theorem zgl (a0:List (List UInt8)) (a1:List (List UInt8)) (a2:(List UInt8)->(List UInt8)->Option Int) (r:Int) (h:zbm a0 a1 a2=some r):Pure Tryz.prog 190 [(.row 1 zaa a0),(.row 1 zaa a1),(.fn Tryz.prog (λ(i:(List UInt8)×(List UInt8))=>[.exact (.string (bs i.1)), .exact (.string (bs i.2))]) (λ(i:(List UInt8)×(List UInt8))=>a2 i.1 i.2) (λ(r:Int)=> .exact (.int .i64 r)))] (.exact (.int .i64 r)):=by
 unfold zbm at h
 refine Pure.ofFun (zan func190 rfl ntmps190 (by simp) rfl (res1 rfl) λ E hE=>zca (sr (qa (.xi 0) rfl (gc (zdq h ((pt (pt AF0 0 (.row 1 zaa a0)) 1 (.row 1 zaa a1))) ([]) (λ k1 h=> ?_) (λ  h=> ?_))))))
 .refine sr (qm (.row 1 zaa a0) rfl (gq (zaw (by kernel_rfl) rfl (qm (.xi 0) rfl (gc (zas (zen (zbg a0 a1 a2 k1) (zbk a0 a1 a2 k1) (λ _=>rfl) (λ m _=>rfl) h (λ(b:Int)=>(pt (pt (pt (pt (pt (pt AF0 0 (.row 1 zaa a0)) 1 (.row 1 zaa a1)) 2 (.fn Tryz.prog (λ(i:(List UInt8)×(List UInt8))=>[.xs i.1, .xs i.2]) (λ(i:(List UInt8)×(List UInt8))=>a2 i.1 i.2) (λ(r:Int)=> .xi r))) 11 (.row 1 zaa a0)) 12 (.xi (List.length a0:Int))) 13 (.xi b))) (λ(b:Int)=>[]) ?_ (λ d b h=> ?_))))))))
  .exact so (l4 rfl rfl rfl rfl (lq rfl (lq rfl lt0)))
  .unfold zbk at h
   refine sr (gq (zby rfl rfl (gc (zau (kd (p:=b<(List.length a0:Int)) rfl h (λ hc h=> ?_) (λ hc h=> ?_))))))
   .refine zaq (zad (zau (zas (sr (qm (.xi b) rfl ?_)))))
    obtain⟨n18,h⟩:=zag h
    refine gq (zaj (by kernel_rfl) rfl rfl n18.1 n18.2 (gq (zap (a:= .xs (gi a0 b)) (by kernel_rfl) rfl rfl (qa (.xi b) rfl (qa (.xs (gi a0 b)) rfl (gc (zau (sr (qm (.xi b) rfl (qm (.row 1 zaa a1) rfl (gq (zaw (by kernel_rfl) rfl (gq (op_geq rfl rfl (gc (kd (p:=(List.length a1:Int)≤b) rfl h (λ hc h=> ?_) (λ hc h=> ?_)))))))))))))))))
    .refine sr (qa (.xi 1) rfl (gc (zax (zaz (zbe (zaz (zbr (zbe (zbr ?_)))))))))
     obtain rfl:=oi h
     refine ke (pt AF0 6 (.xi 1)) [] rfl (s1 rfl) ⟨rfl,rfl⟩
    .refine zaq (zad (sr (qm (.row 1 zaa a1) rfl (qm (.xi b) rfl ?_))))
     obtain⟨n19,h⟩:=zag h
     refine gq (zaj (by kernel_rfl) rfl rfl n19.1 n19.2 (gq (zap (a:= .xs (gi a1 b)) (by kernel_rfl) rfl rfl (qa (.xs (gi a1 b)) rfl (gd (qm (.fn Tryz.prog (λ(i:(List UInt8)×(List UInt8))=>[.xs i.1, .xs i.2]) (λ(i:(List UInt8)×(List UInt8))=>a2 i.1 i.2) (λ(r:Int)=> .xi r)) rfl (qm (.xs (gi a0 b)) rfl (qm (.xs (gi a1 b)) rfl ?_))))))))
     obtain⟨y20,c,h⟩:=zac h
     refine gq (op_callfn (gi a0 b,gi a1 b) rfl c (lc lf (lc lf ln)) (qa (.xi y20) rfl (gd (qm (.xi y20) rfl (gq (zlq rfl rfl (gc (kd (p:= ¬y20=0) rfl h (λ hc h=> ?_) (λ hc h=> ?_)))))))))
     .refine sr (qm (.xi y20) rfl (qa (.xi y20) rfl (gc (zax (zbe (zaz (zbr (zbe (zbr ?_)))))))))
      obtain rfl:=oi h
      refine ke (pt AF0 6 (.xi y20)) [] rfl (s1 rfl) ⟨rfl,rfl⟩
     .refine zaq (zar (zad (kr (gq (zbx rfl rfl rfl (qm (.xi (i64 (b+1))) rfl (zay (zab ⟨_,h,so (l4 rfl rfl rfl rfl (lq rfl (lq rfl lt0)))⟩))))))))
   .refine zcl (zbo (zbu (zbn (zab ⟨h,s2 rfl rfl⟩))))
 .refine zau (sr (qm (.row 1 zaa a0) rfl (gq (zaw (by kernel_rfl) rfl (qm (.row 1 zaa a1) rfl (gq (zaw (by kernel_rfl) rfl (gq (zby rfl rfl (gc (kd (p:=(List.length a0:Int)<(List.length a1:Int)) rfl h (λ hc h=> ?_) (λ hc h=> ?_))))))))))))
  .refine sr (qa (.xi (-1)) rfl (gc (zax (zaz ?_))))
   obtain rfl:=oi h
   refine ke (pt AF0 6 (.xi (-1))) [] rfl (s1 rfl) ⟨rfl,rfl⟩
  .refine zaq (zad (sr (qa (.xi 0) rfl (gc (zax ?_)))))
   obtain rfl:=oi h
   refine ke (pt AF0 6 (.xi 0)) [] rfl (s1 rfl) ⟨rfl,rfl⟩
theorem m_value_compare_F_ok (c:(List UInt8)->(List UInt8)->Option Int) (hself_value_compare: ∀(a0:List UInt8) (a1:List UInt8) (r:Int),c a0 a1=some r->Pure Tryz.prog 160 [(.exact (.string (bs a0))),(.exact (.string (bs a1)))] (.exact (.int .i64 r))) (a0:List UInt8) (a1:List UInt8) (r:Int) (h:m_value_compare_F c a0 a1=some r):Pure Tryz.prog 160 [(.exact (.string (bs a0))),(.exact (.string (bs a1)))] (.exact (.int .i64 r)):=by
 unfold m_value_compare_F at h
 refine Pure.ofFun (zan func160 rfl ntmps160 (by simp) rfl (res1 rfl) λ E hE=>zca (sr (qa (.xi 0) rfl (gc (zau (sr (qm (.xs a0) rfl (qm (.xs a1) rfl (gq (op_eqlS rfl rfl (gc (kd (p:=a0=a1) rfl h (λ hc h=> ?_) (λ hc h=> ?_)))))))))))))
 .refine sr (qa (.xi 0) rfl (gc (zax (zaz ?_))))
  obtain rfl:=oi h
  refine ke (pt AF0 4 (.xi 0)) [] rfl (s1 rfl) ⟨rfl,rfl⟩
 .refine zaq (zad (zau (zau (zdy [] [(0,0),(0,1),(0,2),(0,3),(0,4),(0,5)] hmixP (by kernel_rfl) (pq rfl (zae (av:= .xs a0) rfl ?_))))))
  obtain⟨n1,h⟩:=zag h
  refine pq rfl (zbj (by kernel_rfl) rfl rfl n1.1 n1.2 (pq rfl (zae (av:= .xs a1) rfl ?_)))
  obtain⟨n2,h⟩:=zag h
  refine pq rfl (zbj (by kernel_rfl) rfl rfl n2.1 n2.2 ?_)
  obtain⟨y3,d,h⟩:=zac h
  refine pq rfl (zai (m_cmp_Compare_byte_ok _ _ _ d) func188 (by kernel_rfl) (lc lf (lc lf ln)) (pq rfl (zba (av:= .xi y3) rfl (zdu (zad (sr (qm (.xi y3) rfl (gq (zlq rfl rfl (gc (kd (p:= ¬y3=0) rfl h (λ hc h=> ?_) (λ hc h=> ?_))))))))))))
  .refine sr (qm (.xi y3) rfl (qa (.xi y3) rfl (gc (zax (zaz ?_)))))
   obtain rfl:=oi h
   refine ke (pt AF0 4 (.xi y3)) [] rfl (s1 rfl) ⟨rfl,rfl⟩
  .refine zaq (zad (zau (sr (qm (.xs a0) rfl ?_))))
   obtain⟨n4,h⟩:=zag h
   refine gq (zbj (by kernel_rfl) rfl rfl n4.1 n4.2 (gq (zjy (a:=(gi a0 0)) (b:=1) rfl rfl (gc (kd (p:=(gi a0 0)=1) rfl h (λ hc h=> ?_) (λ hc h=> ?_))))))
   .refine sr (qm (.xs a0) rfl ?_)
    obtain⟨y5,e,h⟩:=zac h
    refine gq (zai (zmj _ _ e) func98 (by kernel_rfl) (lc lf ln) (qm (.xs a1) rfl ?_))
    obtain⟨y6,f,h⟩:=zac h
    refine gq (zai (zmj _ _ f) func98 (by kernel_rfl) (lc lf ln) ?_)
    obtain⟨y7,g,h⟩:=zac h
    refine gq (zai (m_cmp_Compare_int64_ok _ _ _ g) func189 (by kernel_rfl) (lc lf (lc lf ln)) (qa (.xi y7) rfl (gc (zax (zaz ?_)))))
    obtain rfl:=oi h
    refine ke (pt AF0 4 (.xi y7)) [] rfl (s1 rfl) ⟨rfl,rfl⟩
   .refine zaq (zad (zau (sr (qm (.xs a0) rfl ?_))))
    obtain⟨n8,h⟩:=zag h
    refine gq (zbj (by kernel_rfl) rfl rfl n8.1 n8.2 (gq (zbz (k:= .i64) (r:=(UInt8.toNat (gi a0 0):Int)) (by kernel_rfl) rfl (zjx rfl _) ?_)))
    obtain⟨y9,j,h⟩:=zac h
    refine gq (zai (m_value_simple_ok _ _ j) func162 (by kernel_rfl) (lc lf ln) (gc (kb (p:=y9) rfl h (λ hc h=> ?_) (λ hc h=> ?_))))
    .refine sr (qm (.xs a0) rfl (qm (.xs a1) rfl ?_))
     obtain⟨y10,l,h⟩:=zac h
     refine gq (zai (m_cmp_Compare_api_Value_ok _ _ _ l) func161 (by kernel_rfl) (lc lf (lc lf ln)) (qa (.xi y10) rfl (gc (zax (zaz ?_)))))
     obtain rfl:=oi h
     refine ke (pt AF0 4 (.xi y10)) [] rfl (s1 rfl) ⟨rfl,rfl⟩
    .refine zaq (zad (sr (qm (.xs a0) rfl ?_)))
     obtain⟨y11,m,h⟩:=zac h
     refine gq (zai (m_value_parts_ok _ _ m) func163 (by kernel_rfl) (lc lf ln) (qm (.xs a1) rfl ?_))
     obtain⟨y12,n,h⟩:=zac h
     refine gq (zai (m_value_parts_ok _ _ n) func163 (by kernel_rfl) (lc lf ln) ?_)
     obtain⟨y13,o,h⟩:=zac h
     refine gq (zai (zgl _ _ _ _ o) func190 (by kernel_rfl) (lc lf (lc lf (lc ((fn_le func160 (by kernel_rfl) (λ i r h=>hself_value_compare i.1 i.2 r h))) ln))) (qa (.xi y13) rfl (gc (zax ?_))))
     obtain rfl:=oi h
     refine ke (pt AF0 4 (.xi y13)) [] rfl (s1 rfl) ⟨rfl,rfl⟩
theorem m_value_compare_S_ok: ∀n:Nat,(∀(a0:List UInt8) (a1:List UInt8) (r:Int),zil n a0 a1=some r->Pure Tryz.prog 160 [(.exact (.string (bs a0))),(.exact (.string (bs a1)))] (.exact (.int .i64 r)))
  |0=>(λ _ _ _ h=>by have h':(none:Option _)=some _:=h;cases h')
  |n+1=>by
    have ih:=m_value_compare_S_ok n
    exact λ a0 a1 r h=>m_value_compare_F_ok (zil n) ih a0 a1 r h
theorem m_value_compare_ok (a0:List UInt8) (a1:List UInt8) (r:Int) (h:znp a0 a1=some r):Pure Tryz.prog 160 [(.exact (.string (bs a0))),(.exact (.string (bs a1)))] (.exact (.int .i64 r)):=(m_value_compare_S_ok FU) a0 a1 r h
end
noncomputable section
open Go.RowKit
attribute [local irreducible] AV.exact AV.top AV.row AV.ptr AV.agg AV.tup AV.eptr AV.fn AV.nilq AV.nilqn opA opB opM opR Quiet Loud Reads wpG awp den Sub SubU Pure Fun vecI vecT boxI CellsAll CellsOf OneC LEs LEss
set_option maxRecDepth 100000
set_option maxHeartbeats 4000000
theorem m_value_ascending_ok (a0:List (List UInt8)) (r:Bool) (h:zin a0=some r):Pure Tryz.prog 224 [(.row 1 zaa a0)] (.exact (.bool r)):=by
 unfold zin at h
 refine Pure.ofFun (zan func224 rfl ntmps224 (by simp) rfl (res1 rfl) λ E hE=>zca (sr (qa (.xb false) rfl (gc (zdq h (AF0) ([]) (λ k1 h=> ?_) (λ  h=> ?_))))))
 .refine sr (qa (.xi 1) rfl (gc (zas (zen (zfu a0 k1) (zhm a0 k1) (λ _=>rfl) (λ m _=>rfl) h (λ(b:Int)=>(pt (pt AF0 0 (.row 1 zaa a0)) 3 (.xi b))) (λ(b:Int)=>[]) ?_ (λ d b h=> ?_)))))
  .exact s2 rfl rfl
  .unfold zhm at h
   refine zau (sr (qm (.xi b) rfl (qm (.row 1 zaa a0) rfl (gq (zaw (by kernel_rfl) rfl (gq (zby rfl rfl (gc (kd (p:=b<(List.length a0:Int)) rfl h (λ hc h=> ?_) (λ hc h=> ?_))))))))))
   .refine zaq (zad (zau (zas (zau (zdy [] [(0,0),(0,1),(0,2),(0,3),(0,4),(0,5),(0,6),(0,7),(0,8),(0,9),(0,10)] hmixP (by kernel_rfl) (pq rfl (zae (av:= .row 1 zaa a0) rfl (pq rfl (zae (av:= .xi b) rfl (pq rfl (zfo rfl rfl rfl ?_)))))))))))
    obtain⟨n18,h⟩:=zag h
    refine pq rfl (zaj (by kernel_rfl) rfl rfl n18.1 n18.2 (pq rfl (zap (a:= .xs (gi a0 (i64 (b - 1)))) (by kernel_rfl) rfl rfl (pq rfl (zae (av:= .row 1 zaa a0) rfl (pq rfl (zae (av:= .xi b) rfl ?_)))))))
    obtain⟨n19,h⟩:=zag h
    refine pq rfl (zaj (by kernel_rfl) rfl rfl n19.1 n19.2 (pq rfl (zap (a:= .xs (gi a0 b)) (by kernel_rfl) rfl rfl ?_)))
    obtain⟨y20,c,h⟩:=zac h
    refine pq rfl (zai (m_value_compare_ok _ _ _ c) func160 (by kernel_rfl) (lc lf (lc lf ln)) (pq rfl (op_geq rfl rfl (zdu (zad (kd (p:=0≤y20) rfl h (λ hc h=> ?_) (λ hc h=> ?_)))))))
    .refine sr (qa (.xb false) rfl (gc (zax (zbe (zaz (zbr (zbe (zbr ?_))))))))
     obtain rfl:=oi h
     refine ke (pt AF0 2 (.xb false)) [] rfl (s1 rfl) ⟨rfl,rfl⟩
    .refine zaq (zar (zad (kr (qm (.xi b) rfl (gq (zbx rfl rfl rfl (qa (.xi (i64 (b+1))) rfl (zay (zab ⟨_,h,s2 rfl rfl⟩)))))))))
   .refine zcl (zbo (zbu (zbn (zab ⟨h,Sub.of_le lt0⟩))))
 .refine sr (qa (.xb true) rfl (gc (zax ?_)))
  obtain rfl:=oi h
  refine ke (pt AF0 2 (.xb true)) [] rfl (s1 rfl) ⟨rfl,rfl⟩
theorem m_value_between_ok (a0:List UInt8) (a1:Int) (a2:Int) (r:Bool) (h:m_value_between a0 a1 a2=some r):Pure Tryz.prog 225 [(.exact (.string (bs a0))),(.exact (.int .i64 a1)),(.exact (.int .i64 a2))] (.exact (.bool r)):=by
 unfold m_value_between at h
 refine Pure.ofFun (zan func225 rfl ntmps225 (by simp) rfl (res1 rfl) λ E hE=>zca (sr (qa (.xb false) rfl (gc (zbb h (λ(c:Bool)=>(pt AF0 6 (.xb c))) (λ(c:Bool)=>[]) (λ k1 h=> ?_) (λ c h=> ?_))))))
 .refine kr (qm (.xs a0) rfl ?_)
  obtain⟨n5,h⟩:=zag h
  refine gq (zbj (by kernel_rfl) rfl rfl n5.1 n5.2 (gq (zjy (a:=(gi a0 0)) (b:=1) rfl rfl (qm (.xb (decide ((gi a0 0)=1))) rfl (zcm (p:=(gi a0 0)=1) 10 rfl (λ hc=> ?_) (λ hc=> ?_))))))
  .replace h:=zdb h hc
   refine gy (zae (av:= .xs a0) rfl ?_)
   obtain⟨y6,d,h⟩:=zac h
   refine gy (zai (zmj _ _ d) func98 (by kernel_rfl) (lc lf ln) (gy (zae (av:= .xi a1) rfl (gy (op_geq rfl rfl (gq (zat rfl (av:= .xb (decide (a1≤y6))) rfl (qm (.xb (decide (a1≤y6))) rfl (zcm (p:=a1≤y6) 16 rfl (λ hc=> ?_) (λ hc=> ?_))))))))))
   .replace h:=zdb h hc
    refine gy (zae (av:= .xs a0) rfl ?_)
    obtain⟨y7,e,h⟩:=zac h
    refine gy (zai (zmj _ _ e) func98 (by kernel_rfl) (lc lf ln) (gy (zae (av:= .xi a2) rfl (gy (op_leq rfl rfl (gq (zat rfl (av:= .xb (decide (y7≤a2))) rfl (qa (.xb (decide (y7≤a2))) rfl (zay (zab ⟨_,h,s1 rfl⟩))))))))))
   .replace h:=zdc h hc
    refine gn (gn (gn (gn (gq (zao rfl (av:= .xb false) rfl (qa (.xb false) rfl (zay (zab ⟨_,h,s1 rfl⟩))))))))
  .replace h:=zdc h hc
   refine gn (gn (gn (gn (gq (zao rfl (av:= .xb false) rfl (qm (.xb false) rfl (gn (gn (gn (gn (gq (zao rfl (av:= .xb false) rfl (qa (.xb false) rfl (zay (zab ⟨_,h,s1 rfl⟩)))))))))))))))
 .refine zax ?_
  obtain rfl:=oi h
  refine ke (pt AF0 6 (.xb c)) [] rfl (s1 rfl) ⟨rfl,rfl⟩
theorem m_value_formed_ok (a0:Int) (a1:List (List UInt8)) (r:Bool) (h:m_value_formed a0 a1=some r):Pure Tryz.prog 212 [(.exact (.int .i64 a0)),(.row 1 zaa a1)] (.exact (.bool r)):=by
 unfold m_value_formed at h
 refine Pure.ofFun (zan func212 rfl ntmps212 (by simp) rfl (res1 rfl) λ E hE=>zca (sr (qa (.xb false) rfl (gd (qm (.row 1 zaa a1) rfl (gq (zaw (by kernel_rfl) rfl (qa (.xi (List.length a1:Int)) rfl (gc (zdq h (AF0) ([]) (λ k1 h=> ?_) (λ  h=> ?_)))))))))))
 .refine sr (qm (.xi a0) rfl (gc (zas (sr (gq (zbi rfl rfl (qa (.xb (decide (a0=3))) rfl (gc (kd (p:=a0=3) rfl h (λ hc h=> ?_) (λ hc h=> ?_))))))))))
  .refine zbb h (λ(d:Bool)=>(pt AF0 4 (.xb d))) (λ(d:Bool)=>[]) (λ k43 h=> ?_) (λ d h=> ?_)
   .refine kr (qm (.xi (List.length a1:Int)) rfl (gq (op_geq rfl rfl (qm (.xb (decide (2≤(List.length a1:Int)))) rfl (zcm (p:=2≤(List.length a1:Int)) 15 rfl (λ hc=> ?_) (λ hc=> ?_))))))
    .replace h:=zdb h hc
     refine gy (zae (av:= .xi (List.length a1:Int)) rfl (gy (op_leq rfl rfl (gq (zat rfl (av:= .xb (decide ((List.length a1:Int)≤8))) rfl (qa (.xb (decide ((List.length a1:Int)≤8))) rfl (zay (zab ⟨_,h,s1 rfl⟩))))))))
    .replace h:=zdc h hc
     refine gn (gn (gq (zao rfl (av:= .xb false) rfl (qa (.xb false) rfl (zay (zab ⟨_,h,s1 rfl⟩))))))
   .refine zax (zbe (zbr ?_))
    obtain rfl:=oi h
    refine ke (pt AF0 4 (.xb d)) [] rfl (s1 rfl) ⟨rfl,rfl⟩
  .refine sr (gq (zbi rfl rfl (qa (.xb (decide (a0=5))) rfl (gc (kd (p:=a0=5) rfl h (λ hc h=> ?_) (λ hc h=> ?_))))))
   .refine sr (qm (.row 1 zaa a1) rfl ?_)
    obtain⟨y44,l,h⟩:=zac h
    refine gq (zai (m_value_ascending_ok _ _ l) func224 (by kernel_rfl) (lc lf ln) (qa (.xb y44) rfl (gc (zax (zbe (zbr ?_))))))
    obtain rfl:=oi h
    refine ke (pt AF0 4 (.xb y44)) [] rfl (s1 rfl) ⟨rfl,rfl⟩
   .refine sr (gq (zbi rfl rfl (qa (.xb (decide (a0=6))) rfl (gc (kd (p:=a0=6) rfl h (λ hc h=> ?_) (λ hc h=> ?_))))))
    .refine sr (qa (.exact (.slice none 0 0)) rfl (gc (zdl h (λ(j:List (List UInt8)) (v6_j45:Value)=>(pt (pt AF0 5 (.xi (List.length a1:Int))) 6 (.exact v6_j45))) (λ(j:List (List UInt8)) (v6_j45:Value)=>[vecT Tryz.prog 26 1 zaa v6_j45 j]) (λ k45 h=> ?_) (λ j v6_j45 h=> ?_))))
     .refine sr (qa (.xi 0) rfl (gc (zas (zei (zkr a1 k45) (znj a1 k45) (λ _ _=>rfl) (λ m _ _=>rfl) h (λ(k:List (List UInt8)) (c:Int) (v6_l4:Value)=>(pt (pt (pt (pt AF0 1 (.row 1 zaa a1)) 5 (.xi (List.length a1:Int))) 6 (.exact v6_l4)) 7 (.xi c))) (λ(k:List (List UInt8)) (c:Int) (v6_l4:Value)=>[vecT Tryz.prog 26 1 zaa v6_l4 k]) (.slice none 0 0) ?_ (λ u k c v6_l4 h=> ?_)))))
      .refine Sub.trans (SubU.to (SubU.nilT (P:=Tryz.prog) (t:=26) (n:=1) (enc:=zaa))) (s4 rfl rfl rfl rfl)
      .unfold znj at h
       refine zau (sr (qm (.xi c) rfl (qm (.xi (List.length a1:Int)) rfl (gq (zby rfl rfl (gc (kd (p:=c<(List.length a1:Int)) rfl h (λ hc h=> ?_) (λ hc h=> ?_))))))))
       .refine zaq (zad (zau (zas (kr (qm (.exact v6_l4) rfl (qm (.row 1 zaa a1) rfl (qm (.xi c) rfl ?_)))))))
        obtain⟨n62,h⟩:=zag h
        refine gq (zaj (by kernel_rfl) rfl rfl n62.1 n62.2 (gq (zap (a:= .xs (gi a1 c)) (by kernel_rfl) rfl rfl (gq (zcf (n:=1) (enc:=zaa) [gi a1 c] (CellsAll.cons rfl CellsOf.str CellsAll.nil) rfl (by kernel_rfl) (LEss.cons (lc lf ln) LEss.nil) ?_)))))
        obtain⟨n63,h⟩:=zag h
        refine G_l rfl (zeb (by kernel_rfl) rfl rfl zcr n63 (λ v64=>qa (.exact v64) rfl (zay (zar (zad (kr (qm (.xi c) rfl (gq (zbx rfl rfl rfl (qa (.xi (i64 (c+2))) rfl (zay (zab ⟨_,_,v64,h,s4 rfl rfl rfl rfl⟩))))))))))))
       .refine zcl (zbo (zbu (zbn (zab ⟨_,v6_l4,h,s2 rfl rfl⟩))))
     .refine zbb h (λ(e:Bool)=>(pt AF0 4 (.xb e))) (λ(e:Bool)=>[]) (λ k65 h=> ?_) (λ e h=> ?_)
      .refine kr (qm (.xi (List.length a1:Int)) rfl (gq (op_rem rfl rfl (by decide) rfl (gq (zbi rfl rfl (qm (.xb (decide ((Int.tmod (List.length a1:Int) 2)=0))) rfl (zcm (p:=(Int.tmod (List.length a1:Int) 2)=0) 40 rfl (λ hc=> ?_) (λ hc=> ?_))))))))
       .replace h:=zdb h hc
        refine gy (zae (av:= .exact v6_j45) rfl (G_sub rfl (SubU.freezeT2 (s1:=6) (s2:=41) rfl rfl zbd) ?_))
        obtain⟨y67,o,h⟩:=zac h
        refine gy (zai (m_value_ascending_ok _ _ o) func224 (by kernel_rfl) (lc lf ln) (gq (zat rfl (av:= .xb y67) rfl (qa (.xb y67) rfl (zay (zab ⟨_,h,s1 rfl⟩))))))
       .replace h:=zdc h hc
        refine gn (gn (gq (zao rfl (av:= .xb false) rfl (qa (.xb false) rfl (zay (zab ⟨_,h, ?_⟩))))))
        refine Sub.trans (SubU.to SubU.drop) (s1 rfl)
      .refine zax (zbe (zbr ?_))
       obtain rfl:=oi h
       refine ke (pt AF0 4 (.xb e)) [] rfl (s1 rfl) ⟨rfl,rfl⟩
    .refine sr (gq (zbi rfl rfl (qa (.xb (decide (a0=7))) rfl (gc (kd (p:=a0=7) rfl h (λ hc h=> ?_) (λ hc h=> ?_))))))
     .refine zbb h (λ(f:Bool)=>(pt AF0 4 (.xb f))) (λ(f:Bool)=>[]) (λ k68 h=> ?_) (λ f h=> ?_)
      .refine kr (qm (.xi (List.length a1:Int)) rfl (gq (op_geq rfl rfl (qm (.xb (decide (1≤(List.length a1:Int)))) rfl (zcm (p:=1≤(List.length a1:Int)) 48 rfl (λ hc=> ?_) (λ hc=> ?_))))))
       .replace h:=zdb h hc
        refine gy (zae (av:= .xi (List.length a1:Int)) rfl (gy (op_leq rfl rfl (gq (zat rfl (av:= .xb (decide ((List.length a1:Int)≤9))) rfl (qm (.xb (decide ((List.length a1:Int)≤9))) rfl (zcm (p:=(List.length a1:Int)≤9) 52 rfl (λ hc=> ?_) (λ hc=> ?_))))))))
        .replace h:=zdb h hc
         refine gy (zae (av:= .row 1 zaa a1) rfl ?_)
         obtain⟨n71,h⟩:=zag h
         refine gy (zaj (by kernel_rfl) rfl rfl n71.1 n71.2 (gy (zap (a:= .xs (gi a1 0)) (by kernel_rfl) rfl rfl ?_)))
         obtain⟨n72,h⟩:=zag h
         refine gy (zbj (by kernel_rfl) rfl rfl n72.1 n72.2 (gy (zjy (a:=(gi (gi a1 0) 0)) (b:=10) rfl rfl (gq (zat rfl (av:= .xb (decide ((gi (gi a1 0) 0)=10))) rfl (qa (.xb (decide ((gi (gi a1 0) 0)=10))) rfl (zay (zab ⟨_,h,s1 rfl⟩))))))))
        .replace h:=zdc h hc
         refine gn (gn (gn (gn (gn (gq (zao rfl (av:= .xb false) rfl (qa (.xb false) rfl (zay (zab ⟨_,h,s1 rfl⟩)))))))))
       .replace h:=zdc h hc
        refine gn (gn (gq (zao rfl (av:= .xb false) rfl (qm (.xb false) rfl (gn (gn (gn (gn (gn (gq (zao rfl (av:= .xb false) rfl (qa (.xb false) rfl (zay (zab ⟨_,h,s1 rfl⟩))))))))))))))
      .refine zax (zbe (zbr ?_))
       obtain rfl:=oi h
       refine ke (pt AF0 4 (.xb f)) [] rfl (s1 rfl) ⟨rfl,rfl⟩
     .refine sr (gq (zbi rfl rfl (qa (.xb (decide (a0=8))) rfl (gc (kd (p:=a0=8) rfl h (λ hc h=> ?_) (λ hc h=> ?_))))))
      .refine zbb h (λ(g:Bool)=>(pt AF0 4 (.xb g))) (λ(g:Bool)=>[]) (λ k73 h=> ?_) (λ g h=> ?_)
       .refine kr (qm (.xi (List.length a1:Int)) rfl (gq (op_geq rfl rfl (qm (.xb (decide (1≤(List.length a1:Int)))) rfl (zcm (p:=1≤(List.length a1:Int)) 63 rfl (λ hc=> ?_) (λ hc=> ?_))))))
        .replace h:=zdb h hc
         refine gy (zae (av:= .xi (List.length a1:Int)) rfl (gy (op_leq rfl rfl (gq (zat rfl (av:= .xb (decide ((List.length a1:Int)≤33))) rfl (qm (.xb (decide ((List.length a1:Int)≤33))) rfl (zcm (p:=(List.length a1:Int)≤33) 67 rfl (λ hc=> ?_) (λ hc=> ?_))))))))
         .replace h:=zdb h hc
          refine gy (zae (av:= .row 1 zaa a1) rfl ?_)
          obtain⟨n76,h⟩:=zag h
          refine gy (zaj (by kernel_rfl) rfl rfl n76.1 n76.2 (gy (zap (a:= .xs (gi a1 0)) (by kernel_rfl) rfl rfl ?_)))
          obtain⟨y77,q,h⟩:=zac h
          refine gy (zai (m_value_between_ok _ _ _ _ q) func225 (by kernel_rfl) (lc lf (lc lf (lc lf ln))) (gq (zat rfl (av:= .xb y77) rfl (qa (.xb y77) rfl (zay (zab ⟨_,h,s1 rfl⟩))))))
         .replace h:=zdc h hc
          refine gn (gn (gn (gn (gq (zao rfl (av:= .xb false) rfl (qa (.xb false) rfl (zay (zab ⟨_,h,s1 rfl⟩))))))))
        .replace h:=zdc h hc
         refine gn (gn (gq (zao rfl (av:= .xb false) rfl (qm (.xb false) rfl (gn (gn (gn (gn (gq (zao rfl (av:= .xb false) rfl (qa (.xb false) rfl (zay (zab ⟨_,h,s1 rfl⟩)))))))))))))
       .refine zax (zbe (zbr ?_))
        obtain rfl:=oi h
        refine ke (pt AF0 4 (.xb g)) [] rfl (s1 rfl) ⟨rfl,rfl⟩
      .refine sr (gq (zbi rfl rfl (qa (.xb (decide (a0=9))) rfl (gc (kd (p:=a0=9) rfl h (λ hc h=> ?_) (λ hc h=> ?_))))))
       .refine zbb h (λ(i:Bool)=>(pt AF0 4 (.xb i))) (λ(i:Bool)=>[]) (λ k78 h=> ?_) (λ i h=> ?_)
        .refine kr (qm (.xi (List.length a1:Int)) rfl (gq (op_geq rfl rfl (qm (.xb (decide (1≤(List.length a1:Int)))) rfl (zcm (p:=1≤(List.length a1:Int)) 77 rfl (λ hc=> ?_) (λ hc=> ?_))))))
         .replace h:=zdb h hc
          refine gy (zae (av:= .row 1 zaa a1) rfl ?_)
          obtain⟨n81,h⟩:=zag h
          refine gy (zaj (by kernel_rfl) rfl rfl n81.1 n81.2 (gy (zap (a:= .xs (gi a1 0)) (by kernel_rfl) rfl rfl ?_)))
          obtain⟨y82,s,h⟩:=zac h
          refine gy (zai (m_value_between_ok _ _ _ _ s) func225 (by kernel_rfl) (lc lf (lc lf (lc lf ln))) (gq (zat rfl (av:= .xb y82) rfl (qa (.xb y82) rfl (zay (zab ⟨_,h,s1 rfl⟩))))))
         .replace h:=zdc h hc
          refine gn (gn (gn (gn (gq (zao rfl (av:= .xb false) rfl (qa (.xb false) rfl (zay (zab ⟨_,h,s1 rfl⟩))))))))
        .refine zax (zbe (zbr ?_))
         obtain rfl:=oi h
         refine ke (pt AF0 4 (.xb i)) [] rfl (s1 rfl) ⟨rfl,rfl⟩
       .refine zaq (zar (zab ⟨h,Sub.of_le lt0⟩))
 .refine sr (qa (.xb true) rfl (gc (zax ?_)))
  obtain rfl:=oi h
  refine ke (pt AF0 4 (.xb true)) [] rfl (s1 rfl) ⟨rfl,rfl⟩
theorem m_value_long_ok (d:(List UInt8)->Int->Option Int) (hself_value_length: ∀(a0:List UInt8) (a1:Int) (r:Int),d a0 a1=some r->Pure Tryz.prog 177 [(.exact (.string (bs a0))),(.exact (.int .i64 a1))] (.exact (.int .i64 r))) (a0:List UInt8) (a1:Int) (r:Int) (h:m_value_long d a0 a1=some r):Pure Tryz.prog 198 [(.exact (.string (bs a0))),(.exact (.int .i64 a1))] (.exact (.int .i64 r)):=by
 unfold m_value_long at h
 refine Pure.ofFun (zan func198 rfl ntmps198 (by simp) rfl (res1 rfl) λ E hE=>zca (sr (qa (.xi 0) rfl (gc (zau (sr (qm (.xs a0) rfl (gq (op_lenS (by kernel_rfl) rfl (gq (zby rfl rfl (gc (kd (p:=(List.length a0:Int)<3) rfl h (λ hc h=> ?_) (λ hc h=> ?_))))))))))))))
 .refine sr (qa (.xi 0) rfl (gc (zax (zaz ?_))))
  obtain rfl:=oi h
  refine ke (pt AF0 4 (.xi 0)) [] rfl (s1 rfl) ⟨rfl,rfl⟩
 .refine zaq (zad (sr (qa (.xi 3) rfl (gd (qa (.exact (.slice none 0 0)) rfl (gc (k_join2_1 h (λ(b:Int) (e:List (List UInt8)) (v6_j1:Value)=>(pt (pt (pt AF0 0 (.xs a0)) 5 (.xi b)) 6 (.exact v6_j1))) (λ(b:Int) (e:List (List UInt8)) (v6_j1:Value)=>[vecT Tryz.prog 26 1 zaa v6_j1 e]) (λ k1 h=> ?_) (λ b e v6_j1 h=> ?_))))))))
  .refine zau (zdy [] [(0,0),(0,1),(0,2),(0,3),(0,4),(0,5),(0,6),(0,7),(0,8)] hmixP (by kernel_rfl) (pq rfl (zae (av:= .xs a0) rfl ?_)))
   obtain⟨n20,h⟩:=zag h
   refine pq rfl (zbj (by kernel_rfl) rfl rfl n20.1 n20.2 (pq rfl (zbz (k:= .i64) (r:=(UInt8.toNat (gi a0 1):Int)) (by kernel_rfl) rfl (zjx rfl _) (pq rfl (op_shl rfl rfl (by decide) rfl (pq rfl (zae (av:= .xs a0) rfl ?_)))))))
   obtain⟨n21,h⟩:=zag h
   refine pq rfl (zbj (by kernel_rfl) rfl rfl n21.1 n21.2 (pq rfl (zbz (k:= .i64) (r:=(UInt8.toNat (gi a0 2):Int)) (by kernel_rfl) rfl (zjx rfl _) (pq rfl (op_or rfl rfl rfl (pq rfl (zae (av:= .xi 0) rfl (zdu (zad (zas (k_loop3_1 (zld d a0 a1 k1) (m_value_long_B2 d a0 a1 k1) (λ _ _ _=>rfl) (λ m _ _ _=>rfl) h (λ(a:Int) (f:List (List UInt8)) (c:Int) (v6_l2:Value)=>(pt (pt (pt (pt (pt (pt AF0 0 (.xs a0)) 1 (.xi a1)) 5 (.xi a)) 6 (.exact v6_l2)) 18 (.xi (bOr .i64 (i64 ((UInt8.toNat (gi a0 1):Int)*2^min (Int.toNat 8) IntKind.i64.bits)) (UInt8.toNat (gi a0 2):Int)))) 19 (.xi c))) (λ(a:Int) (f:List (List UInt8)) (c:Int) (v6_l2:Value)=>[vecT Tryz.prog 26 1 zaa v6_l2 f]) (.slice none 0 0) ?_ (λ j a f c v6_l2 h=> ?_))))))))))))
   .refine Sub.trans (SubU.to (SubU.nilT (P:=Tryz.prog) (t:=26) (n:=1) (enc:=zaa))) (so (l4 rfl rfl rfl rfl (lq rfl (lq rfl lt0))))
   .unfold m_value_long_B2 at h
    refine sr (gq (zby rfl rfl (gc (zau (kd (p:=c<(bOr .i64 (i64 ((UInt8.toNat (gi a0 1):Int)*2^min (Int.toNat 8) IntKind.i64.bits)) (UInt8.toNat (gi a0 2):Int))) rfl h (λ hc h=> ?_) (λ hc h=> ?_))))))
    .refine zaq (zad (zau (zas (sr (qm (.xs a0) rfl (qm (.xi a) rfl ?_))))))
     obtain⟨n32,h⟩:=zag h
     refine gq (zkn (by kernel_rfl) rfl (zef rfl) zel n32.1 n32.2 (Int.le_refl _) (qm (.xi a1) rfl (gq (zbx rfl rfl rfl ?_))))
     obtain⟨y33,g,h⟩:=zac h
     refine gq (zai (hself_value_length _ _ _ g) func177 (by kernel_rfl) (lc lf (lc lf ln)) (qa (.xi y33) rfl (gc (zau (sr (qm (.xi y33) rfl (gq (zbi rfl rfl (gc (kd (p:=y33=0) rfl h (λ hc h=> ?_) (λ hc h=> ?_)))))))))))
     .refine sr (qa (.xi 0) rfl (gc (zax (zaz (zbe (zaz (zbr (zbe (zbr ?_)))))))))
      obtain rfl:=oi h
      refine ke (pt AF0 4 (.xi 0)) [] rfl (Sub.trans (SubU.to SubU.drop) (s1 rfl)) ⟨rfl,rfl⟩
     .refine zaq (zad (sr (qm (.exact v6_l2) rfl (qm (.xs a0) rfl (qm (.xi a) rfl (qm (.xi a) rfl (qm (.xi y33) rfl (gq (zbx rfl rfl rfl ?_)))))))))
      obtain⟨n34,h⟩:=zag h
      refine gq (op_slice_str (by kernel_rfl) rfl (zef rfl) (zef rfl) n34.1 n34.2.1 n34.2.2 (gq (zcf (n:=1) (enc:=zaa) [List.take (Int.toNat (i64 (a+y33)) - Int.toNat a) (List.drop (Int.toNat a) a0)] (CellsAll.cons rfl CellsOf.str CellsAll.nil) rfl (by kernel_rfl) (LEss.cons (lc lf ln) LEss.nil) ?_)))
      obtain⟨n35,h⟩:=zag h
      refine G_l rfl (zeb (by kernel_rfl) rfl rfl zcr n35 (λ v36=>qa (.exact v36) rfl (gc (kr (qm (.xi a) rfl (qm (.xi y33) rfl (gq (zbx rfl rfl rfl (qa (.xi (i64 (a+y33))) rfl (zay (zar (zad (kr (gq (zbx rfl rfl rfl (qm (.xi (i64 (c+1))) rfl (zay (zab ⟨_,_,_,v36,h,so (l4 rfl rfl rfl rfl (lq rfl (lq rfl lt0)))⟩))))))))))))))))))
    .refine zcl (zbo (zbu (zbn (zab ⟨_,_,v6_l2,h,s3 rfl rfl rfl⟩))))
  .refine zau (sr (qm (.xs a0) rfl ?_))
   obtain⟨n37,h⟩:=zag h
   refine gq (zbj (by kernel_rfl) rfl rfl n37.1 n37.2 (gq (zbz (k:= .i64) (r:=(UInt8.toNat (gi a0 0):Int)) (by kernel_rfl) rfl (zjx rfl _) (qm (.exact v6_j1) rfl (G_sub rfl (SubU.freezeT2 (s1:=6) (s2:=45) rfl rfl zbd) ?_)))))
   obtain⟨y38,i,h⟩:=zac h
   refine gq (zai (m_value_formed_ok _ _ _ i) func212 (by kernel_rfl) (lc lf (lc lf ln)) (gq (zgf rfl (gc (kb (p:= !y38) rfl h (λ hc h=> ?_) (λ hc h=> ?_))))))
   .refine sr (qa (.xi 0) rfl (gc (zax (zaz ?_))))
    obtain rfl:=oi h
    refine ke (pt AF0 4 (.xi 0)) [] rfl (s1 rfl) ⟨rfl,rfl⟩
   .refine zaq (zad (sr (qm (.xi b) rfl (qa (.xi b) rfl (gc (zax ?_))))))
    obtain rfl:=oi h
    refine ke (pt AF0 4 (.xi b)) [] rfl (s1 rfl) ⟨rfl,rfl⟩
theorem m_value_length_F_ok (g:(List UInt8)->Int->Option Int) (hself_value_length: ∀(a0:List UInt8) (a1:Int) (r:Int),g a0 a1=some r->Pure Tryz.prog 177 [(.exact (.string (bs a0))),(.exact (.int .i64 a1))] (.exact (.int .i64 r))) (a0:List UInt8) (a1:Int) (r:Int) (h:m_value_length_F g a0 a1=some r):Pure Tryz.prog 177 [(.exact (.string (bs a0))),(.exact (.int .i64 a1))] (.exact (.int .i64 r)):=by
 unfold m_value_length_F at h
 refine Pure.ofFun (zan func177 rfl ntmps177 (by simp) rfl (res1 rfl) λ E hE=>zca (sr (qa (.xi 0) rfl (gc (zau (zbb h (λ(d:Bool)=>(pt (pt (pt AF0 0 (.xs a0)) 1 (.xi a1)) 11 (.xb d))) (λ(d:Bool)=>[]) (λ k3 h=> ?_) (λ d h=> ?_)))))))
 .refine kr (qm (.xs a0) rfl (gq (op_eqlS rfl rfl (qm (.xb (decide (a0=([]:List UInt8)))) rfl (zcm (p:=a0=([]:List UInt8)) 8 rfl (λ hc=> ?_) (λ hc=> ?_))))))
  .replace h:=zdb h hc
   refine gn (gn (gq (zat rfl (av:= .xb true) rfl (zay (zab ⟨_,h,s3 rfl rfl rfl⟩)))))
  .replace h:=zdc h hc
   refine gy (zae (av:= .xi a1) rfl (gy (zlh rfl rfl (gq (zao rfl (av:= .xb (decide (32<a1))) rfl (zay (zab ⟨_,h,s3 rfl rfl rfl⟩)))))))
 .refine kb (p:=d) rfl h (λ hc h=> ?_) (λ hc h=> ?_)
  .refine sr (qa (.xi 0) rfl (gc (zax (zaz ?_))))
   obtain rfl:=oi h
   refine ke (pt AF0 4 (.xi 0)) [] rfl (s1 rfl) ⟨rfl,rfl⟩
  .refine zaq (zad (sr (qa (.xi 0) rfl (gc (zbb h (λ(c:Int)=>(pt (pt AF0 0 (.xs a0)) 5 (.xi c))) (λ(c:Int)=>[]) (λ k4 h=> ?_) (λ c h=> ?_))))))
   .refine sr (qm (.xs a0) rfl ?_)
    obtain⟨n15,h⟩:=zag h
    refine gq (zbj (by kernel_rfl) rfl rfl n15.1 n15.2 (gc (zas (sr (gq (zjy (a:=(gi a0 0)) (b:=1) rfl rfl (qa (.xb (decide ((gi a0 0)=1))) rfl (gc (kd (p:=(gi a0 0)=1) rfl h (λ hc h=> ?_) (λ hc h=> ?_))))))))))
    .refine kr (qa (.xi 9) rfl (zay (zar (zab ⟨_,h,s2 rfl rfl⟩))))
    .refine sr (gq (zjy (a:=(gi a0 0)) (b:=2) rfl rfl (qa (.xb (decide ((gi a0 0)=2))) rfl (gc (kd (p:=(gi a0 0)=2) rfl h (λ hc h=> ?_) (λ hc h=> ?_))))))
     .refine zau (zbb h (λ(e:Bool)=>(pt (pt AF0 0 (.xs a0)) 25 (.xb e))) (λ(e:Bool)=>[]) (λ k20 h=> ?_) (λ e h=> ?_))
      .refine kr (qm (.xs a0) rfl (gq (op_lenS (by kernel_rfl) rfl (gq (zby rfl rfl (qm (.xb (decide ((List.length a0:Int)<2))) rfl (zcm (p:=(List.length a0:Int)<2) 21 rfl (λ hc=> ?_) (λ hc=> ?_))))))))
       .replace h:=zdb h hc
        refine gn (gn (gn (gq (zat rfl (av:= .xb true) rfl (zay (zab ⟨_,h,s2 rfl rfl⟩))))))
       .replace h:=zdc h hc
        refine gy (zae (av:= .xs a0) rfl ?_)
        obtain⟨n22,h⟩:=zag h
        refine gy (zbj (by kernel_rfl) rfl rfl n22.1 n22.2 (gy (op_gtrU (a:=(gi a0 1)) (b:=1) rfl rfl (gq (zao rfl (av:= .xb (decide (1<(gi a0 1)))) rfl (zay (zab ⟨_,h,s2 rfl rfl⟩)))))))
      .refine kb (p:=e) rfl h (λ hc h=> ?_) (λ hc h=> ?_)
       .refine sr (qa (.xi 0) rfl (gc (zax (zaz (zbe (zbr ?_))))))
        obtain rfl:=oi h
        refine ke (pt AF0 4 (.xi 0)) [] rfl (s1 rfl) ⟨rfl,rfl⟩
       .refine zaq (zad (kr (qa (.xi 2) rfl (zay (zar (zab ⟨_,h,s2 rfl rfl⟩))))))
     .refine sr (gq (zjy (a:=(gi a0 0)) (b:=10) rfl rfl (qa (.xb (decide ((gi a0 0)=10))) rfl (gc (kd (p:=(gi a0 0)=10) rfl h (λ hc h=> ?_) (λ hc h=> ?_))))))
      .refine kr (qa (.xi 3) rfl (zay (zar (zab ⟨_,h,s2 rfl rfl⟩))))
      .refine zbb h (λ(f:Bool)=>(pt (pt (pt (pt AF0 0 (.xs a0)) 1 (.xi a1)) 5 (.xi 0)) 28 (.xb f))) (λ(f:Bool)=>[]) (λ k23 h=> ?_) (λ f h=> ?_)
       .refine sr (gq (zjy (a:=(gi a0 0)) (b:=3) rfl rfl (qa (.xb (decide ((gi a0 0)=3))) rfl (gc (kd (p:=(gi a0 0)=3) rfl h (λ hc h=> ?_) (λ hc h=> ?_))))))
        .refine zaq (zab ⟨_,h,s4 rfl rfl rfl rfl⟩)
        .refine sr (gq (zjy (a:=(gi a0 0)) (b:=4) rfl rfl (qa (.xb (decide ((gi a0 0)=4))) rfl (gc (kd (p:=(gi a0 0)=4) rfl h (λ hc h=> ?_) (λ hc h=> ?_))))))
         .refine zaq (zab ⟨_,h,s4 rfl rfl rfl rfl⟩)
         .refine sr (gq (zjy (a:=(gi a0 0)) (b:=5) rfl rfl (qa (.xb (decide ((gi a0 0)=5))) rfl (gc (kd (p:=(gi a0 0)=5) rfl h (λ hc h=> ?_) (λ hc h=> ?_))))))
          .refine zaq (zab ⟨_,h,s4 rfl rfl rfl rfl⟩)
          .refine sr (gq (zjy (a:=(gi a0 0)) (b:=6) rfl rfl (qa (.xb (decide ((gi a0 0)=6))) rfl (gc (kd (p:=(gi a0 0)=6) rfl h (λ hc h=> ?_) (λ hc h=> ?_))))))
           .refine zaq (zab ⟨_,h,s4 rfl rfl rfl rfl⟩)
           .refine sr (gq (zjy (a:=(gi a0 0)) (b:=7) rfl rfl (qa (.xb (decide ((gi a0 0)=7))) rfl (gc (kd (p:=(gi a0 0)=7) rfl h (λ hc h=> ?_) (λ hc h=> ?_))))))
            .refine zaq (zab ⟨_,h,s4 rfl rfl rfl rfl⟩)
            .refine sr (gq (zjy (a:=(gi a0 0)) (b:=8) rfl rfl (qa (.xb (decide ((gi a0 0)=8))) rfl (gc (kd (p:=(gi a0 0)=8) rfl h (λ hc h=> ?_) (λ hc h=> ?_))))))
             .refine zaq (zab ⟨_,h,s4 rfl rfl rfl rfl⟩)
             .refine kr (gq (zjy (a:=(gi a0 0)) (b:=9) rfl rfl (qa (.xb (decide ((gi a0 0)=9))) rfl (zay (zab ⟨_,h,s4 rfl rfl rfl rfl⟩)))))
       .refine kb (p:=f) rfl h (λ hc h=> ?_) (λ hc h=> ?_)
        .refine sr (qm (.xs a0) rfl (qm (.xi a1) rfl ?_))
         obtain⟨y24,i,h⟩:=zac h
         refine gq (zai (m_value_long_ok g hself_value_length _ _ _ i) func198 (by kernel_rfl) (lc lf (lc lf ln)) (qa (.xi y24) rfl (gc (zax (zbe (zbr ?_))))))
         obtain rfl:=oi h
         refine ke (pt AF0 4 (.xi y24)) [] rfl (s1 rfl) ⟨rfl,rfl⟩
        .refine zaq (zar (zab ⟨_,h,s2 rfl rfl⟩))
   .refine zau (sr (qm (.xi c) rfl (qm (.xs a0) rfl (gq (op_lenS (by kernel_rfl) rfl (gq (zlh rfl rfl (gc (kd (p:=(List.length a0:Int)<c) rfl h (λ hc h=> ?_) (λ hc h=> ?_))))))))))
    .refine sr (qa (.xi 0) rfl (gc (zax (zaz ?_))))
     obtain rfl:=oi h
     refine ke (pt AF0 4 (.xi 0)) [] rfl (s1 rfl) ⟨rfl,rfl⟩
    .refine zaq (zad (sr (qm (.xi c) rfl (qa (.xi c) rfl (gc (zax ?_))))))
     obtain rfl:=oi h
     refine ke (pt AF0 4 (.xi c)) [] rfl (s1 rfl) ⟨rfl,rfl⟩
theorem m_value_length_S_ok: ∀n:Nat,(∀(a0:List UInt8) (a1:Int) (r:Int),zfl n a0 a1=some r->Pure Tryz.prog 177 [(.exact (.string (bs a0))),(.exact (.int .i64 a1))] (.exact (.int .i64 r)))
  |0=>(λ _ _ _ h=>by have h':(none:Option _)=some _:=h;cases h')
  |n+1=>by
    have ih:=m_value_length_S_ok n
    exact λ a0 a1 r h=>m_value_length_F_ok (zfl n) ih a0 a1 r h
theorem m_value_length_ok (a0:List UInt8) (a1:Int) (r:Int) (h:m_value_length a0 a1=some r):Pure Tryz.prog 177 [(.exact (.string (bs a0))),(.exact (.int .i64 a1))] (.exact (.int .i64 r)):=(m_value_length_S_ok FU) a0 a1 r h
theorem m_value_Valid_ok (a0:List UInt8) (r:Bool) (h:zkl a0=some r):Pure Tryz.prog 134 [(.exact (.string (bs a0)))] (.exact (.bool r)):=by
 unfold zkl at h
 refine Pure.ofFun (zan func134 rfl ntmps134 (by simp) rfl (res1 rfl) λ E hE=>zca (sr (qa (.xb false) rfl (gc (zbb h (λ(a:Bool)=>(pt AF0 2 (.xb a))) (λ(a:Bool)=>[]) (λ k1 h=> ?_) (λ a h=> ?_))))))
 .refine kr (qm (.xs a0) rfl (gq (op_neqS rfl rfl (qm (.xb (decide (¬a0=([]:List UInt8)))) rfl (zcm (p:= ¬a0=([]:List UInt8)) 5 rfl (λ hc=> ?_) (λ hc=> ?_))))))
  .replace h:=zdb h hc
   refine gy (zae (av:= .xs a0) rfl (gy (op_lenS (by kernel_rfl) rfl (gy (op_leq rfl rfl (gq (zat rfl (av:= .xb (decide ((List.length a0:Int)≤131072))) rfl (qm (.xb (decide ((List.length a0:Int)≤131072))) rfl (zcm (p:=(List.length a0:Int)≤131072) 10 rfl (λ hc=> ?_) (λ hc=> ?_))))))))))
   .replace h:=zdb h hc
    refine gy (zae (av:= .xs a0) rfl ?_)
    obtain⟨y3,b,h⟩:=zac h
    refine gy (zai (m_value_length_ok _ _ _ b) func177 (by kernel_rfl) (lc lf (lc lf ln)) (gy (zae (av:= .xs a0) rfl (gy (op_lenS (by kernel_rfl) rfl (gy (zbi rfl rfl (gq (zat rfl (av:= .xb (decide (y3=(List.length a0:Int)))) rfl (qa (.xb (decide (y3=(List.length a0:Int)))) rfl (zay (zab ⟨_,h,s1 rfl⟩))))))))))))
   .replace h:=zdc h hc
    refine gn (gn (gn (gn (gn (gq (zao rfl (av:= .xb false) rfl (qa (.xb false) rfl (zay (zab ⟨_,h,s1 rfl⟩)))))))))
  .replace h:=zdc h hc
   refine gn (gn (gn (gq (zao rfl (av:= .xb false) rfl (qm (.xb false) rfl (gn (gn (gn (gn (gn (gq (zao rfl (av:= .xb false) rfl (qa (.xb false) rfl (zay (zab ⟨_,h,s1 rfl⟩)))))))))))))))
 .refine zax ?_
  obtain rfl:=oi h
  refine ke (pt AF0 2 (.xb a)) [] rfl (s1 rfl) ⟨rfl,rfl⟩
theorem zjf (a0:List UInt8) (r:Int) (h:zho a0=some r):Pure Tryz.prog 97 [(.exact (.string (bs a0)))] (.exact (.int .i64 r)):=by
 unfold zho at h
 refine Pure.ofFun (zan func97 rfl ntmps97 (by simp) rfl (res1 rfl) λ E hE=>zca (sr (qa (.xi 0) rfl (gc (zau (sr (qm (.xs a0) rfl ?_)))))))
 obtain⟨y1,a,h⟩:=zac h
 refine gq (zai (m_value_Valid_ok _ _ a) func134 (by kernel_rfl) (lc lf ln) (gq (zgf rfl (gc (kb (p:= !y1) rfl h (λ hc h=> ?_) (λ hc h=> ?_))))))
 .refine sr (qa (.xi 0) rfl (gc (zax (zaz ?_))))
  obtain rfl:=oi h
  refine ke (pt AF0 2 (.xi 0)) [] rfl (s1 rfl) ⟨rfl,rfl⟩
 .refine zaq (zad (sr (qm (.xs a0) rfl ?_)))
  obtain⟨n2,h⟩:=zag h
  refine gq (zbj (by kernel_rfl) rfl rfl n2.1 n2.2 (gq (zbz (k:= .i64) (r:=(UInt8.toNat (gi a0 0):Int)) (by kernel_rfl) rfl (zjx rfl _) (qa (.xi (UInt8.toNat (gi a0 0):Int)) rfl (gc (zax ?_))))))
  obtain rfl:=oi h
  refine ke (pt AF0 2 (.xi (UInt8.toNat (gi a0 0):Int))) [] rfl (s1 rfl) ⟨rfl,rfl⟩
theorem m_value_Parts_ok (a0:List UInt8) (r:(List (List UInt8))) (h:zmv a0=some r):Pure Tryz.prog 121 [(.exact (.string (bs a0)))] (.row 1 zaa r):=by
 unfold zmv at h
 refine Pure.ofFun (zan func121 rfl ntmps121 (by simp) rfl (res1 rfl) λ E hE=>zca (sr (qa (.exact (.slice none 0 0)) rfl (gc (zau (sr (qm (.xs a0) rfl ?_)))))))
 obtain⟨y1,a,h⟩:=zac h
 refine gq (zai (zjf _ _ a) func97 (by kernel_rfl) (lc lf ln) ?_)
 obtain⟨y2,b,h⟩:=zac h
 refine gq (zai (m_value_simple_ok _ _ b) func162 (by kernel_rfl) (lc lf ln) (gc (kb (p:=y2) rfl h (λ hc h=> ?_) (λ hc h=> ?_))))
 .refine sr (qa (.exact (.slice none 0 0)) rfl (gc (zax (zaz ?_))))
  obtain rfl:=oi h
  refine ke (pt AF0 2 (.row 1 zaa [])) [] rfl (so (AF.le_put (zep (by decide)) lt0)) ⟨rfl,rfl⟩
 .refine zaq (zad (sr (qm (.xs a0) rfl ?_)))
  obtain⟨y3,c,h⟩:=zac h
  refine gq (zai (m_value_parts_ok _ _ c) func163 (by kernel_rfl) (lc lf ln) (qa (.row 1 zaa y3) rfl (gc (zax ?_))))
  obtain rfl:=oi h
  refine ke (pt AF0 2 (.row 1 zaa y3)) [] rfl (s1 rfl) ⟨rfl,rfl⟩
theorem zku (a0:List UInt8) (r:Int) (h:zgv a0=some r):Pure Tryz.prog 59 [(.exact (.string (bs a0)))] (.exact (.int .i64 r)):=by
 unfold zgv at h
 refine Pure.ofFun (zan func59 rfl ntmps59 (by simp) rfl (res1 rfl) λ E hE=>zca (sr (qa (.xi 0) rfl (gc (zau (sr (qm (.xs a0) rfl ?_)))))))
 obtain⟨y1,a,h⟩:=zac h
 refine gq (zai (zjf _ _ a) func97 (by kernel_rfl) (lc lf ln) (gc (zas (sr (gq (zbi rfl rfl (qa (.xb (decide (y1=1))) rfl (gc (kd (p:=y1=1) rfl h (λ hc h=> ?_) (λ hc h=> ?_))))))))))
 .refine sr (qm (.xs a0) rfl ?_)
  obtain⟨y2,b,h⟩:=zac h
  refine gq (zai (zmj _ _ b) func98 (by kernel_rfl) (lc lf ln) (qa (.xi y2) rfl (gc (zax (zbe (zaz ?_))))))
  obtain rfl:=oi h
  refine ke (pt AF0 2 (.xi y2)) [] rfl (s1 rfl) ⟨rfl,rfl⟩
 .refine sr (gq (zbi rfl rfl (qa (.xb (decide (y1=2))) rfl (gc (kd (p:=y1=2) rfl h (λ hc h=> ?_) (λ hc h=> ?_))))))
  .refine sr (qm (.xs a0) rfl ?_)
   obtain⟨n3,h⟩:=zag h
   refine gq (zbj (by kernel_rfl) rfl rfl n3.1 n3.2 (gq (zbz (k:= .i64) (r:=(UInt8.toNat (gi a0 1):Int)) (by kernel_rfl) rfl (zjx rfl _) (qa (.xi (UInt8.toNat (gi a0 1):Int)) rfl (gc (zax (zbe (zaz ?_))))))))
   obtain rfl:=oi h
   refine ke (pt AF0 2 (.xi (UInt8.toNat (gi a0 1):Int))) [] rfl (s1 rfl) ⟨rfl,rfl⟩
  .refine sr (gq (zbi rfl rfl (qa (.xb (decide (y1=10))) rfl (gc (kd (p:=y1=10) rfl h (λ hc h=> ?_) (λ hc h=> ?_))))))
   .refine zau (zdy [] [(0,0),(0,1),(0,2),(0,3),(0,4),(0,5),(0,6),(0,7),(0,8)] hmixP (by kernel_rfl) (pq rfl (zae (av:= .xs a0) rfl ?_)))
    obtain⟨n4,h⟩:=zag h
    refine pq rfl (zbj (by kernel_rfl) rfl rfl n4.1 n4.2 (pq rfl (zbz (k:= .i64) (r:=(UInt8.toNat (gi a0 1):Int)) (by kernel_rfl) rfl (zjx rfl _) (pq rfl (op_shl rfl rfl (by decide) rfl (pq rfl (zae (av:= .xs a0) rfl ?_)))))))
    obtain⟨n5,h⟩:=zag h
    refine pq rfl (zbj (by kernel_rfl) rfl rfl n5.1 n5.2 (pq rfl (zbz (k:= .i64) (r:=(UInt8.toNat (gi a0 2):Int)) (by kernel_rfl) rfl (zjx rfl _) (pq rfl (op_or rfl rfl rfl (pq rfl (zba (av:= .xi (bOr .i64 (i64 ((UInt8.toNat (gi a0 1):Int)*2^min (Int.toNat 8) IntKind.i64.bits)) (UInt8.toNat (gi a0 2):Int))) rfl (zdu (zad (zax (zbe (zaz ?_))))))))))))
    obtain rfl:=oi h
    refine ke (pt AF0 2 (.xi (bOr .i64 (i64 ((UInt8.toNat (gi a0 1):Int)*2^min (Int.toNat 8) IntKind.i64.bits)) (UInt8.toNat (gi a0 2):Int)))) [] rfl (s1 rfl) ⟨rfl,rfl⟩
   .refine zaq (zar (zad (sr (qa (.xi 0) rfl (gc (zax ?_))))))
    obtain rfl:=oi h
    refine ke (pt AF0 2 (.xi 0)) [] rfl (s1 rfl) ⟨rfl,rfl⟩
theorem m_procterm_split_ok (a0:List UInt8) (r:Int×(List (List UInt8))) (h:zem a0=some r):Pure Tryz.prog 81 [(.exact (.string (bs a0)))] (.tup [.exact (.int .i64 r.1), .row 1 zaa r.2]):=by
 unfold zem at h
 refine Pure.ofFun (zan func81 rfl ntmps81 (by simp) rfl (res2 rfl) λ E hE=>zca (sr (qa (.xi 0) rfl (qa (.exact (.slice none 0 0)) rfl (gc (zau (sr (qm (.xs a0) rfl ?_))))))))
 obtain⟨y1,b,h⟩:=zac h
 refine gq (zai (zjf _ _ b) func97 (by kernel_rfl) (lc lf ln) (gq (zlq rfl rfl (gc (kd (p:= ¬y1=9) rfl h (λ hc h=> ?_) (λ hc h=> ?_))))))
 .refine sr (qa (.xi 0) rfl (qa (.exact (.slice none 0 0)) rfl (gc (zax (zaz ?_)))))
  obtain rfl:=oi h
  refine ke (pt (pt AF0 2 (.xi 0)) 3 (.row 1 zaa [])) [] rfl (so (AF.le_put (zep (by decide)) (lq rfl lt0))) ⟨rfl,rfl⟩
 .refine zaq (zad (sr (qm (.xs a0) rfl ?_)))
  obtain⟨y2,c,h⟩:=zac h
  refine gq (zai (m_value_Parts_ok _ _ c) func121 (by kernel_rfl) (lc lf ln) (qa (.row 1 zaa y2) rfl (gc (zau (zdy [] [(0,0),(0,1),(0,2),(0,3),(0,4),(0,5),(0,6),(0,7)] hmixP (by kernel_rfl) (pq rfl (zae (av:= .row 1 zaa y2) rfl ?_)))))))
  obtain⟨n3,h⟩:=zag h
  refine pq rfl (zaj (by kernel_rfl) rfl rfl n3.1 n3.2 (pq rfl (zap (a:= .xs (gi y2 0)) (by kernel_rfl) rfl rfl ?_)))
  obtain⟨y4,d,h⟩:=zac h
  refine pq rfl (zai (zku _ _ d) func59 (by kernel_rfl) (lc lf ln) (pq rfl (zae (av:= .row 1 zaa y2) rfl ?_)))
  obtain⟨n5,h⟩:=zag h
  refine pq rfl (op_slice_rowd (by kernel_rfl) rfl (zef rfl) zel (by decide) n5 (Int.le_refl _) (pq rfl (zba (av:= .xi y4) rfl (pq rfl (zba (av:= .row 1 zaa (List.drop (Int.toNat 1) y2)) rfl (zdu (zad (zax ?_))))))))
  obtain rfl:=oi h
  refine ke (pt (pt AF0 2 (.xi y4)) 3 (.row 1 zaa (List.drop (Int.toNat 1) y2))) [] rfl (s2 rfl rfl) ⟨rfl,rfl⟩
theorem m_procterm_number_ok (a0:List UInt8) (a1:Int) (r:Bool) (h:zkv a0 a1=some r):Pure Tryz.prog 99 [(.exact (.string (bs a0))),(.exact (.int .i64 a1))] (.exact (.bool r)):=by
 unfold zkv at h
 refine Pure.ofFun (zan func99 rfl ntmps99 (by simp) rfl (res1 rfl) λ E hE=>zca (sr (qa (.xb false) rfl (gd (qm (.xs a0) rfl ?_)))))
 obtain⟨y1,b,h⟩:=zac h
 refine gq (zai (zku _ _ b) func59 (by kernel_rfl) (lc lf ln) (qa (.xi y1) rfl (gc (zbb h (λ(a:Bool)=>(pt AF0 4 (.xb a))) (λ(a:Bool)=>[]) (λ k2 h=> ?_) (λ a h=> ?_)))))
 .refine kr (qm (.xs a0) rfl ?_)
  obtain⟨y4,c,h⟩:=zac h
  refine gq (zai (zjf _ _ c) func97 (by kernel_rfl) (lc lf ln) (gq (zbi rfl rfl (qm (.xb (decide (y4=1))) rfl (zcm (p:=y4=1) 11 rfl (λ hc=> ?_) (λ hc=> ?_))))))
  .replace h:=zdb h hc
   refine gy (zae (av:= .xi y1) rfl (gy (op_geq rfl rfl (gq (zat rfl (av:= .xb (decide (0≤y1))) rfl (qm (.xb (decide (0≤y1))) rfl (zcm (p:=0≤y1) 15 rfl (λ hc=> ?_) (λ hc=> ?_))))))))
   .replace h:=zdb h hc
    refine gy (zae (av:= .xi y1) rfl (gy (zae (av:= .xi a1) rfl (gy (op_leq rfl rfl (gq (zat rfl (av:= .xb (decide (y1≤a1))) rfl (qa (.xb (decide (y1≤a1))) rfl (zay (zab ⟨_,h,s1 rfl⟩))))))))))
   .replace h:=zdc h hc
    refine gn (gn (gn (gq (zao rfl (av:= .xb false) rfl (qa (.xb false) rfl (zay (zab ⟨_,h,s1 rfl⟩)))))))
  .replace h:=zdc h hc
   refine gn (gn (gq (zao rfl (av:= .xb false) rfl (qm (.xb false) rfl (gn (gn (gn (gq (zao rfl (av:= .xb false) rfl (qa (.xb false) rfl (zay (zab ⟨_,h,s1 rfl⟩))))))))))))
 .refine zax ?_
  obtain rfl:=oi h
  refine ke (pt AF0 4 (.xb a)) [] rfl (s1 rfl) ⟨rfl,rfl⟩
end
noncomputable section
open Go.RowKit
attribute [local irreducible] AV.exact AV.top AV.row AV.ptr AV.agg AV.tup AV.eptr AV.fn AV.nilq AV.nilqn opA opB opM opR Quiet Loud Reads wpG awp den Sub SubU Pure Fun vecI vecT boxI CellsAll CellsOf OneC LEs LEss
set_option maxRecDepth 100000
set_option maxHeartbeats 4000000
theorem m_procterm_event_ok (a0:List UInt8) (r:Int×Bool) (h:zhn a0=some r):Pure Tryz.prog 135 [(.exact (.string (bs a0)))] (.tup [.exact (.int .i64 r.1), .exact (.bool r.2)]):=by
 unfold zhn at h
 refine Pure.ofFun (zan func135 rfl ntmps135 (by simp) rfl (res2 rfl) λ E hE=>zca (sr (qa (.xi 0) rfl (qa (.xb false) rfl (gd (qm (.xs a0) rfl ?_))))))
 obtain⟨y1,b,h⟩:=zac h
 refine gq (zai (zku _ _ b) func59 (by kernel_rfl) (lc lf ln) (qa (.xi y1) rfl (gc (zbb h (λ(a:Bool)=>(pt (pt AF0 2 (.xi y1)) 3 (.xb a))) (λ(a:Bool)=>[]) (λ k2 h=> ?_) (λ a h=> ?_)))))
 .refine kr (qm (.xi y1) rfl (qm (.xs a0) rfl ?_))
  obtain⟨y4,c,h⟩:=zac h
  refine gq (zai (zjf _ _ c) func97 (by kernel_rfl) (lc lf ln) (gq (zbi rfl rfl (qm (.xb (decide (y4=1))) rfl (zcm (p:=y4=1) 11 rfl (λ hc=> ?_) (λ hc=> ?_))))))
  .replace h:=zdb h hc
   refine gy (zae (av:= .xi y1) rfl (gy (op_geq rfl rfl (gq (zat rfl (av:= .xb (decide (2≤y1))) rfl (qm (.xb (decide (2≤y1))) rfl (zcm (p:=2≤y1) 15 rfl (λ hc=> ?_) (λ hc=> ?_))))))))
   .replace h:=zdb h hc
    refine gy (zae (av:= .xi y1) rfl (gy (zby rfl rfl (gq (zat rfl (av:= .xb (decide (y1<1026))) rfl (qa (.xi y1) rfl (qa (.xb (decide (y1<1026))) rfl (zay (zab ⟨_,h,s2 rfl rfl⟩)))))))))
   .replace h:=zdc h hc
    refine gn (gn (gq (zao rfl (av:= .xb false) rfl (qa (.xi y1) rfl (qa (.xb false) rfl (zay (zab ⟨_,h,s2 rfl rfl⟩)))))))
  .replace h:=zdc h hc
   refine gn (gn (gq (zao rfl (av:= .xb false) rfl (qm (.xb false) rfl (gn (gn (gq (zao rfl (av:= .xb false) rfl (qa (.xi y1) rfl (qa (.xb false) rfl (zay (zab ⟨_,h,s2 rfl rfl⟩))))))))))))
 .refine zax ?_
  obtain rfl:=oi h
  refine ke (pt (pt AF0 2 (.xi y1)) 3 (.xb a)) [] rfl (s2 rfl rfl) ⟨rfl,rfl⟩
theorem m_slices_Clip_L_api_Offer_api_Offer_ok {w0:Value} (a0:List (Int×(List UInt8))) (r:(List (Int×(List UInt8)))) (h:zdd a0=some r):Fun Tryz.prog 104 [(.exact w0)] [vecT Tryz.prog 27 2 zam w0 a0] (λ a s=> ∃z0,a= .exact z0/\s=[vecO Tryz.prog 27 2 zam z0 r]):=by
 unfold zdd at h
 refine zan func104 rfl ntmps104 (by simp) rfl (res1 rfl) λ E hE=>zca (sr (qa (.exact (.slice none 0 0)) rfl (gd (qm (.exact w0) rfl (qm (.exact w0) rfl (G_r rfl (zeg (by kernel_rfl) rfl (qm (.exact w0) rfl (G_r rfl (zeg (by kernel_rfl) rfl (G_l rfl (op_clipO (by kernel_rfl) rfl rfl rfl rfl (λ v1=>qa (.exact v1) rfl (gc (zax ?_)))))))))))))))
 obtain rfl:=oi h
 refine ke (pt AF0 2 (.exact v1)) [vecO Tryz.prog 27 2 zam v1 a0] rfl (s1 rfl) ⟨v1,rfl,rfl⟩
theorem m_procterm_pairUp_ok (a0:List (List UInt8)) (r:(List (Int×(List UInt8)))) (h:zew a0=some r):Fun Tryz.prog 61 [(.row 1 zaa a0)] [] (λ a s=> ∃z0,a= .exact z0/\s=[vecO Tryz.prog 27 2 zam z0 r]):=by
 unfold zew at h
 refine zan func61 rfl ntmps61 (by simp) rfl (res1 rfl) λ E hE=>zca (sr (qa (.exact (.slice none 0 0)) rfl (gd (qa (.exact (.slice none 0 0)) rfl (gc (zdl h (λ(c:List (Int×(List UInt8))) (v3_j1:Value)=>(pt AF0 3 (.exact v3_j1))) (λ(c:List (Int×(List UInt8))) (v3_j1:Value)=>[vecT Tryz.prog 27 2 zam v3_j1 c]) (λ k1 h=> ?_) (λ c v3_j1 h=> ?_)))))))
 .refine sr (qa (.xi 0) rfl (gc (zas (zei (zhj a0 k1) (zkg a0 k1) (λ _ _=>rfl) (λ m _ _=>rfl) h (λ(d:List (Int×(List UInt8))) (b:Int) (v3_l2:Value)=>(pt (pt (pt AF0 0 (.row 1 zaa a0)) 3 (.exact v3_l2)) 4 (.xi b))) (λ(d:List (Int×(List UInt8))) (b:Int) (v3_l2:Value)=>[vecT Tryz.prog 27 2 zam v3_l2 d]) (.slice none 0 0) ?_ (λ g d b v3_l2 h=> ?_)))))
  .refine Sub.trans (SubU.to (SubU.nilT (P:=Tryz.prog) (t:=27) (n:=2) (enc:=zam))) (s3 rfl rfl rfl)
  .unfold zkg at h
   refine zau (sr (qm (.xi b) rfl (qm (.row 1 zaa a0) rfl (gq (zaw (by kernel_rfl) rfl (gq (zby rfl rfl (gc (kd (p:=b<(List.length a0:Int)) rfl h (λ hc h=> ?_) (λ hc h=> ?_))))))))))
   .refine zaq (zad (zau (zas (zdy [] [(0,0),(0,1),(0,2),(0,3),(0,4),(0,5),(0,6),(0,7),(0,8),(0,9),(0,10),(0,11),(0,12),(2,13),(0,14)] hmixP (by kernel_rfl) (pq rfl (zae (av:= .exact v3_l2) rfl (pq rfl (zae (av:= .row 1 zaa a0) rfl (pq rfl (zae (av:= .xi b) rfl ?_))))))))))
    obtain⟨n28,h⟩:=zag h
    refine pq rfl (zaj (by kernel_rfl) rfl rfl n28.1 n28.2 (pq rfl (zap (a:= .xs (gi a0 b)) (by kernel_rfl) rfl rfl ?_)))
    obtain⟨y29,e,h⟩:=zac h
    refine pq rfl (zai (zku _ _ e) func59 (by kernel_rfl) (lc lf ln) (pq rfl (zae (av:= .row 1 zaa a0) rfl (pq rfl (zae (av:= .xi b) rfl (pq rfl (zbx rfl rfl rfl ?_)))))))
    obtain⟨n30,h⟩:=zag h
    refine pq rfl (zaj (by kernel_rfl) rfl rfl n30.1 n30.2 (pq rfl (zap (a:= .xs (gi a0 (i64 (b+1)))) (by kernel_rfl) rfl rfl (pq rfl (op_bld (c':=zam (y29,gi a0 (i64 (b+1)))) (CellsAll.cons rfl CellsOf.int (CellsAll.cons rfl CellsOf.str CellsAll.nil)) rfl (lc lf (lc lf ln)) (pq rfl (zcf (n:=2) (enc:=zam) [(y29,gi a0 (i64 (b+1)))] (CellsAll.cons rfl CellsOf.agg CellsAll.nil) rfl (by kernel_rfl) (LEss.cons (lc lf (lc lf ln)) LEss.nil) ?_)))))))
    obtain⟨n31,h⟩:=zag h
    refine P_l rfl (zeb (by kernel_rfl) rfl rfl zfm n31 (λ v32=>pq rfl (zba (av:= .exact v32) rfl (zdu (zar (zad (kr (qm (.xi b) rfl (gq (zbx rfl rfl rfl (qa (.xi (i64 (b+2))) rfl (zay (zab ⟨_,_,v32,h,s3 rfl rfl rfl⟩)))))))))))))
   .refine zcl (zbo (zbu (zbn (zab ⟨_,v3_l2,h,s1 rfl⟩))))
 .refine sr (qm (.exact v3_j1) rfl ?_)
  obtain⟨y33,f,h⟩:=zac h
  refine G_l rfl (op_fun_1_1_1 (m_slices_Clip_L_api_Offer_api_Offer_ok _ _ f) func104 (by kernel_rfl) (lc lf ln) (λ v34=>qa (.exact v34) rfl (gc (zax ?_))))
  obtain rfl:=oi h
  refine ke (pt AF0 2 (.exact v34)) [vecO Tryz.prog 27 2 zam v34 y33] rfl (s1 rfl) ⟨v34,rfl,rfl⟩
theorem m_procterm_pairUp_fz (a0:List (List UInt8)) (r:(List (Int×(List UInt8)))) (h:zew a0=some r):Pure Tryz.prog 61 [(.row 1 zaa a0)] (.row 2 zam r):=Pure.ofOwnO zbw (m_procterm_pairUp_ok a0 r h)
theorem m_cmp_isNaN_int_ok (a0:Int) (r:Bool) (h:m_cmp_isNaN_int a0=some r):Pure Tryz.prog 159 [(.exact (.int .i64 a0))] (.exact (.bool r)):=by
 unfold m_cmp_isNaN_int at h
 refine Pure.ofFun (zan func159 rfl ntmps159 (by simp) rfl (res1 rfl) λ E hE=>zca (sr (qa (.xb false) rfl (gd (qm (.xi a0) rfl (qm (.xi a0) rfl (gq (zlq rfl rfl (qa (.xb (decide (¬a0=a0))) rfl (gc (zax ?_)))))))))))
 obtain rfl:=oi h
 refine ke (pt AF0 2 (.xb (decide (¬a0=a0)))) [] rfl (s1 rfl) ⟨rfl,rfl⟩
theorem m_cmp_Compare_int_ok (a0:Int) (a1:Int) (r:Int) (h:zih a0 a1=some r):Pure Tryz.prog 118 [(.exact (.int .i64 a0)),(.exact (.int .i64 a1))] (.exact (.int .i64 r)):=by
 unfold zih at h
 refine Pure.ofFun (zan func118 rfl ntmps118 (by simp) rfl (res1 rfl) λ E hE=>zca (sr (qa (.xi 0) rfl (gd (qm (.xi a0) rfl ?_)))))
 obtain⟨y1,a,h⟩:=zac h
 refine gq (zai (m_cmp_isNaN_int_ok _ _ a) func159 (by kernel_rfl) (lc lf ln) (qa (.xb y1) rfl (gd (qm (.xi a1) rfl ?_))))
 obtain⟨y2,b,h⟩:=zac h
 refine gq (zai (m_cmp_isNaN_int_ok _ _ b) func159 (by kernel_rfl) (lc lf ln) (qa (.xb y2) rfl (gc (zau (sr (qm (.xb y1) rfl (gc (kb (p:=y1) rfl h (λ hc h=> ?_) (λ hc h=> ?_)))))))))
 .refine zau (sr (qm (.xb y2) rfl (gc (kb (p:=y2) rfl h (λ hc h=> ?_) (λ hc h=> ?_)))))
  .refine sr (qa (.xi 0) rfl (gc (zax (zaz (zaz ?_)))))
   obtain rfl:=oi h
   refine ke (pt AF0 4 (.xi 0)) [] rfl (s1 rfl) ⟨rfl,rfl⟩
  .refine zaq (zad (sr (qa (.xi (-1)) rfl (gc (zax (zaz ?_))))))
   obtain rfl:=oi h
   refine ke (pt AF0 4 (.xi (-1))) [] rfl (s1 rfl) ⟨rfl,rfl⟩
 .refine zaq (zad (zau (sr (qm (.xb y2) rfl (gc (kb (p:=y2) rfl h (λ hc h=> ?_) (λ hc h=> ?_)))))))
  .refine sr (qa (.xi 1) rfl (gc (zax (zaz ?_))))
   obtain rfl:=oi h
   refine ke (pt AF0 4 (.xi 1)) [] rfl (s1 rfl) ⟨rfl,rfl⟩
  .refine zaq (zad (zau (sr (qm (.xi a0) rfl (qm (.xi a1) rfl (gq (zby rfl rfl (gc (kd (p:=a0<a1) rfl h (λ hc h=> ?_) (λ hc h=> ?_))))))))))
   .refine sr (qa (.xi (-1)) rfl (gc (zax (zaz ?_))))
    obtain rfl:=oi h
    refine ke (pt AF0 4 (.xi (-1))) [] rfl (s1 rfl) ⟨rfl,rfl⟩
   .refine zaq (zad (zau (sr (qm (.xi a0) rfl (qm (.xi a1) rfl (gq (zlh rfl rfl (gc (kd (p:=a1<a0) rfl h (λ hc h=> ?_) (λ hc h=> ?_))))))))))
    .refine sr (qa (.xi 1) rfl (gc (zax (zaz ?_))))
     obtain rfl:=oi h
     refine ke (pt AF0 4 (.xi 1)) [] rfl (s1 rfl) ⟨rfl,rfl⟩
    .refine zaq (zad (sr (qa (.xi 0) rfl (gc (zax ?_)))))
     obtain rfl:=oi h
     refine ke (pt AF0 4 (.xi 0)) [] rfl (s1 rfl) ⟨rfl,rfl⟩
theorem m_value_Compare_ok (a0:List UInt8) (a1:List UInt8) (r:Int) (h:zgx a0 a1=some r):Pure Tryz.prog 119 [(.exact (.string (bs a0))),(.exact (.string (bs a1)))] (.exact (.int .i64 r)):=by
 unfold zgx at h
 refine Pure.ofFun (zan func119 rfl ntmps119 (by simp) rfl (res1 rfl) λ E hE=>zca (sr (qa (.xi 0) rfl (gc (zau (sr (qm (.xs a0) rfl ?_)))))))
 obtain⟨y6,b,h⟩:=zac h
 refine gq (zai (m_value_Valid_ok _ _ b) func134 (by kernel_rfl) (lc lf ln) (qm (.xs a1) rfl ?_))
 obtain⟨y7,d,h⟩:=zac h
 refine gq (zai (m_value_Valid_ok _ _ d) func134 (by kernel_rfl) (lc lf ln) (qa (.xb y6) rfl (qa (.xb y7) rfl (gc (zas (zbb h (λ(a:Bool)=>(pt (pt (pt (pt (pt AF0 0 (.xs a0)) 1 (.xs a1)) 5 (.xb y6)) 6 (.xb y7)) 11 (.xb a))) (λ(a:Bool)=>[]) (λ k8 h=> ?_) (λ a h=> ?_)))))))
 .refine kr (qm (.xb y6) rfl (qm (.xb y6) rfl (G_splitB (c:=y6) 13 rfl (λ hc=> ?_) (λ hc=> ?_))))
  .replace h:=zdb h hc
   refine gy (zae (av:= .xb y7) rfl (gq (zat rfl (av:= .xb y7) rfl (qa (.xb y7) rfl (zay (zab ⟨_,h,so (l4 rfl rfl rfl rfl (lq rfl lt0))⟩))))))
  .replace h:=zdc h hc
   refine gn (gq (zao rfl (av:= .xb false) rfl (qa (.xb false) rfl (zay (zab ⟨_,h,so (l4 rfl rfl rfl rfl (lq rfl lt0))⟩)))))
 .refine kb (p:=a) rfl h (λ hc h=> ?_) (λ hc h=> ?_)
  .refine sr (qm (.xs a0) rfl (qm (.xs a1) rfl ?_))
   obtain⟨y9,e,h⟩:=zac h
   refine gq (zai (m_value_compare_ok _ _ _ e) func160 (by kernel_rfl) (lc lf (lc lf ln)) (qa (.xi y9) rfl (gc (zax (zbe (zaz ?_))))))
   obtain rfl:=oi h
   refine ke (pt AF0 4 (.xi y9)) [] rfl (s1 rfl) ⟨rfl,rfl⟩
  .refine sr (qm (.xb y6) rfl (qa (.xb y6) rfl (gc (kb (p:=y6) rfl h (λ hc h=> ?_) (λ hc h=> ?_)))))
   .refine sr (qa (.xi 1) rfl (gc (zax (zbe (zaz ?_)))))
    obtain rfl:=oi h
    refine ke (pt AF0 4 (.xi 1)) [] rfl (s1 rfl) ⟨rfl,rfl⟩
   .refine sr (qm (.xb y7) rfl (qa (.xb y7) rfl (gc (kb (p:=y7) rfl h (λ hc h=> ?_) (λ hc h=> ?_)))))
    .refine sr (qa (.xi (-1)) rfl (gc (zax (zbe (zaz ?_)))))
     obtain rfl:=oi h
     refine ke (pt AF0 4 (.xi (-1))) [] rfl (s1 rfl) ⟨rfl,rfl⟩
    .refine zaq (zar (zad (sr (qm (.xs a0) rfl (qm (.xs a1) rfl ?_)))))
     obtain⟨y10,f,h⟩:=zac h
     refine gq (zai (m_cmp_Compare_api_Value_ok _ _ _ f) func161 (by kernel_rfl) (lc lf (lc lf ln)) (qa (.xi y10) rfl (gc (zax ?_))))
     obtain rfl:=oi h
     refine ke (pt AF0 4 (.xi y10)) [] rfl (s1 rfl) ⟨rfl,rfl⟩
theorem m_cmp_Or_int_ok (a0:List Int) (r:Int) (h:m_cmp_Or_int a0=some r):Pure Tryz.prog 117 [(.row 1 zbf a0)] (.exact (.int .i64 r)):=by
 unfold m_cmp_Or_int at h
 refine Pure.ofFun (zan func117 rfl ntmps117 (by simp) rfl (res1 rfl) λ E hE=>zca (sr (qa (.xi 0) rfl (gd (qa (.xi 0) rfl (gc (zdq h ((pt AF0 3 (.xi 0))) ([]) (λ k1 h=> ?_) (λ  h=> ?_))))))))
 .refine sr (qm (.row 1 zbf a0) rfl (gq (zaw (by kernel_rfl) rfl (qm (.xi 0) rfl (gc (zas (zen (m_cmp_Or_int_L2 a0 k1) (m_cmp_Or_int_B2 a0 k1) (λ _=>rfl) (λ m _=>rfl) h (λ(b:Int)=>(pt (pt (pt (pt AF0 3 (.xi 0)) 6 (.row 1 zbf a0)) 7 (.xi (List.length a0:Int))) 8 (.xi b))) (λ(b:Int)=>[]) ?_ (λ c b h=> ?_))))))))
  .exact s4 rfl rfl rfl rfl
  .unfold m_cmp_Or_int_B2 at h
   refine sr (gq (zby rfl rfl (gc (zau (kd (p:=b<(List.length a0:Int)) rfl h (λ hc h=> ?_) (λ hc h=> ?_))))))
   .refine zaq (zad (zau (zas (sr ?_))))
    obtain⟨n8,h⟩:=zag h
    refine gq (zaj (by kernel_rfl) rfl rfl n8.1 n8.2 (gq (zap (a:= .xi (gi a0 b)) (by kernel_rfl) rfl rfl (qa (.xi (gi a0 b)) rfl (gd (qm (.xi (gi a0 b)) rfl (qm (.xi 0) rfl (gq (zlq rfl rfl (gc (kd (p:= ¬(gi a0 b)=0) rfl h (λ hc h=> ?_) (λ hc h=> ?_))))))))))))
    .refine sr (qm (.xi (gi a0 b)) rfl (qa (.xi (gi a0 b)) rfl (gc (zax (zbe (zaz (zbr (zbe (zbr ?_)))))))))
     obtain rfl:=oi h
     refine ke (pt AF0 2 (.xi (gi a0 b))) [] rfl (s1 rfl) ⟨rfl,rfl⟩
    .refine zaq (zar (zad (kr (gq (zbx rfl rfl rfl (qm (.xi (i64 (b+1))) rfl (zay (zab ⟨_,h,s4 rfl rfl rfl rfl⟩))))))))
   .refine zcl (zbo (zbu (zbn (zab ⟨h,s1 rfl⟩))))
 .refine sr (qm (.xi 0) rfl (qa (.xi 0) rfl (gc (zax ?_))))
  obtain rfl:=oi h
  refine ke (pt AF0 2 (.xi 0)) [] rfl (s1 rfl) ⟨rfl,rfl⟩
theorem m_procterm_compareOffers_ok (a0:Int×(List UInt8)) (a1:Int×(List UInt8)) (r:Int) (h:zdg a0 a1=some r):Pure Tryz.prog 78 [(.agg (zam a0)),(.agg (zam a1))] (.exact (.int .i64 r)):=by
 unfold zdg at h
 refine Pure.ofFun (zan func78 rfl ntmps78 (by simp) rfl (res1 rfl) λ E hE=>zca (sr (gq (op_box (c:=zam a0) rfl CellsOf.agg (gq (op_box (c:=zam a1) rfl CellsOf.agg (qa (.xi 0) rfl (gc (zau (zdy [] [(0,0),(0,1),(0,2),(0,3),(0,4),(0,5),(0,6),(0,7),(0,8),(0,9),(0,10),(0,11),(0,12)] hmixP (by kernel_rfl) (pq rfl (zav (o:=0) (c':=(List.drop 0 (zam a0))) (by kernel_rfl) rfl rfl (pq rfl (zap (a:= .xi a0.1) (by kernel_rfl) rfl rfl (pq rfl (zav (o:=0) (c':=(List.drop 0 (zam a1))) (by kernel_rfl) rfl rfl (pq rfl (zap (a:= .xi a1.1) (by kernel_rfl) rfl rfl ?_))))))))))))))))))
 obtain⟨y1,b,h⟩:=zac h
 refine pq rfl (zai (m_cmp_Compare_int_ok _ _ _ b) func118 (by kernel_rfl) (lc lf (lc lf ln)) (pq rfl (zav (o:=1) (c':=(List.drop 1 (zam a0))) (by kernel_rfl) rfl rfl (pq rfl (zap (a:= .xs a0.2) (by kernel_rfl) rfl rfl (pq rfl (zav (o:=1) (c':=(List.drop 1 (zam a1))) (by kernel_rfl) rfl rfl (pq rfl (zap (a:= .xs a1.2) (by kernel_rfl) rfl rfl ?_)))))))))
 obtain⟨y2,d,h⟩:=zac h
 refine pq rfl (zai (m_value_Compare_ok _ _ _ d) func119 (by kernel_rfl) (lc lf (lc lf ln)) (pq rfl (zcf (n:=1) (enc:=zbf) [y1,y2] (CellsAll.cons rfl CellsOf.int (CellsAll.cons rfl CellsOf.int CellsAll.nil)) rfl (by kernel_rfl) (LEss.cons (lc lf ln) (LEss.cons (lc lf ln) LEss.nil)) ?_)))
 obtain⟨y3,e,h⟩:=zac h
 refine pq rfl (zai (m_cmp_Or_int_ok _ _ e) func117 (by kernel_rfl) (lc lf ln) (pq rfl (zba (av:= .xi y3) rfl (zdu (zad (zax ?_))))))
 obtain rfl:=oi h
 refine ke (pt AF0 4 (.xi y3)) [] rfl (s1 rfl) ⟨rfl,rfl⟩
theorem m_procterm_offers_ok (e:(List UInt8)->Option Bool) (hself_procterm_term: ∀(a0:List UInt8) (r:Bool),e a0=some r->Pure Tryz.prog 60 [(.exact (.string (bs a0)))] (.exact (.bool r))) (a0:List (List UInt8)) (r:Bool) (h:m_procterm_offers e a0=some r):Pure Tryz.prog 100 [(.row 1 zaa a0)] (.exact (.bool r)):=by
 unfold m_procterm_offers at h
 refine Pure.ofFun (zan func100 rfl ntmps100 (by simp) rfl (res1 rfl) λ E hE=>zca (sr (qa (.xb false) rfl (gc (zau (zbb h (λ(f:Bool)=>(pt (pt AF0 0 (.row 1 zaa a0)) 16 (.xb f))) (λ(f:Bool)=>[]) (λ k3 h=> ?_) (λ f h=> ?_)))))))
 .refine kr (qm (.row 1 zaa a0) rfl (gq (zaw (by kernel_rfl) rfl (gq (zbi rfl rfl (qm (.xb (decide ((List.length a0:Int)=0))) rfl (zcm (p:=(List.length a0:Int)=0) 11 rfl (λ hc=> ?_) (λ hc=> ?_))))))))
  .replace h:=zdb h hc
   refine gn (gn (gn (gn (gq (zat rfl (av:= .xb true) rfl (zay (zab ⟨_,h,s2 rfl rfl⟩)))))))
  .replace h:=zdc h hc
   refine gy (zae (av:= .row 1 zaa a0) rfl (gy (zaw (by kernel_rfl) rfl (gy (op_rem rfl rfl (by decide) rfl (gy (zlq rfl rfl (gq (zao rfl (av:= .xb (decide (¬(Int.tmod (List.length a0:Int) 2)=0))) rfl (zay (zab ⟨_,h,s2 rfl rfl⟩)))))))))))
 .refine kb (p:=f) rfl h (λ hc h=> ?_) (λ hc h=> ?_)
  .refine sr (qa (.xb false) rfl (gc (zax (zaz ?_))))
   obtain rfl:=oi h
   refine ke (pt AF0 2 (.xb false)) [] rfl (s1 rfl) ⟨rfl,rfl⟩
  .refine zaq (zad (zdq h ((pt AF0 0 (.row 1 zaa a0))) ([]) (λ k4 h=> ?_) (λ  h=> ?_)))
   .refine sr (qa (.xi 0) rfl (gc (zas (zen (zhl e a0 k4) (zkd e a0 k4) (λ _=>rfl) (λ m _=>rfl) h (λ(b:Int)=>(pt (pt AF0 0 (.row 1 zaa a0)) 3 (.xi b))) (λ(b:Int)=>[]) ?_ (λ n b h=> ?_)))))
    .exact s2 rfl rfl
    .unfold zkd at h
     refine zau (sr (qm (.xi b) rfl (qm (.row 1 zaa a0) rfl (gq (zaw (by kernel_rfl) rfl (gq (zby rfl rfl (gc (kd (p:=b<(List.length a0:Int)) rfl h (λ hc h=> ?_) (λ hc h=> ?_))))))))))
     .refine zaq (zad (zau (zas (sr (qm (.row 1 zaa a0) rfl (qm (.xi b) rfl ?_))))))
      obtain⟨n89,h⟩:=zag h
      refine gq (zaj (by kernel_rfl) rfl rfl n89.1 n89.2 (gq (zap (a:= .xs (gi a0 b)) (by kernel_rfl) rfl rfl ?_)))
      obtain⟨y90,i,h⟩:=zac h
      refine gq (zai (m_procterm_event_ok _ _ i) func135 (by kernel_rfl) (lc lf ln) (qm (.tup [.xi y90.1, .xb y90.2]) rfl (gq (zbh (av:= .xi y90.1) rfl rfl (gq (zbh (av:= .xb y90.2) rfl rfl (qa (.xi y90.1) rfl (qa (.xb y90.2) rfl (gc (zbb h (λ(g:Bool)=>(pt (pt (pt AF0 0 (.row 1 zaa a0)) 3 (.xi b)) 41 (.xb g))) (λ(g:Bool)=>[]) (λ k91 h=> ?_) (λ g h=> ?_)))))))))))
      .refine kr (qm (.xb y90.2) rfl (gq (zgf rfl (qm (.xb (!y90.2)) rfl (G_splitB (c:= !y90.2) 33 rfl (λ hc=> ?_) (λ hc=> ?_))))))
       .replace h:=zdb h hc
        refine gn (gn (gn (gn (gn (gn (gn (gq (zat rfl (av:= .xb true) rfl (zay (zab ⟨_,h,s3 rfl rfl rfl⟩))))))))))
       .replace h:=zdc h hc
        refine gy (zae (av:= .row 1 zaa a0) rfl (gy (zae (av:= .xi b) rfl (gy (zbx rfl rfl rfl ?_)))))
        obtain⟨n94,h⟩:=zag h
        refine gy (zaj (by kernel_rfl) rfl rfl n94.1 n94.2 (gy (zap (a:= .xs (gi a0 (i64 (b+1)))) (by kernel_rfl) rfl rfl ?_)))
        obtain⟨y95,j,h⟩:=zac h
        refine gy (zai (hself_procterm_term _ _ j) func60 (by kernel_rfl) (lc lf ln) (gy (zgf rfl (gq (zao rfl (av:= .xb (!y95)) rfl (zay (zab ⟨_,h,s3 rfl rfl rfl⟩)))))))
      .refine kb (p:=g) rfl h (λ hc h=> ?_) (λ hc h=> ?_)
       .refine sr (qa (.xb false) rfl (gc (zax (zbe (zaz (zbr (zbe (zbr ?_))))))))
        obtain rfl:=oi h
        refine ke (pt AF0 2 (.xb false)) [] rfl (s1 rfl) ⟨rfl,rfl⟩
       .refine zaq (zar (zad (kr (qm (.xi b) rfl (gq (zbx rfl rfl rfl (qa (.xi (i64 (b+2))) rfl (zay (zab ⟨_,h,s2 rfl rfl⟩)))))))))
     .refine zcl (zbo (zbu (zbn (zab ⟨h,s1 rfl⟩))))
   .refine sr (qm (.row 1 zaa a0) rfl ?_)
    obtain⟨y96,k,h⟩:=zac h
    refine gq (zai (m_procterm_pairUp_fz _ _ k) func61 (by kernel_rfl) (lc lf ln) (qa (.row 2 zam y96) rfl (gc (zdq h (AF0) ([]) (λ k97 h=> ?_) (λ  h=> ?_)))))
    .refine sr (qa (.xi 1) rfl (gc (zas (zen (zft y96 k97) (zkj y96 k97) (λ _=>rfl) (λ m _=>rfl) h (λ(d:Int)=>(pt (pt AF0 6 (.row 2 zam y96)) 7 (.xi d))) (λ(d:Int)=>[]) ?_ (λ o d h=> ?_)))))
     .exact s2 rfl rfl
     .unfold zkj at h
      refine zau (sr (qm (.xi d) rfl (qm (.row 2 zam y96) rfl (gq (zaw (by kernel_rfl) rfl (gq (zby rfl rfl (gc (kd (p:=d<(List.length y96:Int)) rfl h (λ hc h=> ?_) (λ hc h=> ?_))))))))))
      .refine zaq (zad (zau (zas (zau (zdy [] [(0,0),(0,1),(0,2),(0,3),(0,4),(0,5),(0,6),(0,7),(0,8),(0,9),(0,10)] hmixP (by kernel_rfl) (pq rfl (zae (av:= .row 2 zam y96) rfl (pq rfl (zae (av:= .xi d) rfl (pq rfl (zfo rfl rfl rfl ?_)))))))))))
       obtain⟨n114,h⟩:=zag h
       refine pq rfl (zaj (by kernel_rfl) rfl rfl n114.1 n114.2 (pq rfl (zke (m:=2) (c':=zam (gi y96 (i64 (d - 1)))) (by kernel_rfl) rfl rfl rfl (pq rfl (zae (av:= .row 2 zam y96) rfl (pq rfl (zae (av:= .xi d) rfl ?_)))))))
       obtain⟨n115,h⟩:=zag h
       refine pq rfl (zaj (by kernel_rfl) rfl rfl n115.1 n115.2 (pq rfl (zke (m:=2) (c':=zam (gi y96 d)) (by kernel_rfl) rfl rfl rfl ?_)))
       obtain⟨y116,l,h⟩:=zac h
       refine pq rfl (zai (m_procterm_compareOffers_ok _ _ _ l) func78 (by kernel_rfl) (lc lf (lc lf ln)) (pq rfl (op_geq rfl rfl (zdu (zad (kd (p:=0≤y116) rfl h (λ hc h=> ?_) (λ hc h=> ?_)))))))
       .refine sr (qa (.xb false) rfl (gc (zax (zbe (zaz (zbr (zbe (zbr ?_))))))))
        obtain rfl:=oi h
        refine ke (pt AF0 2 (.xb false)) [] rfl (s1 rfl) ⟨rfl,rfl⟩
       .refine zaq (zar (zad (kr (qm (.xi d) rfl (gq (zbx rfl rfl rfl (qa (.xi (i64 (d+1))) rfl (zay (zab ⟨_,h,s2 rfl rfl⟩)))))))))
      .refine zcl (zbo (zbu (zbn (zab ⟨h,Sub.of_le lt0⟩))))
    .refine sr (qa (.xb true) rfl (gc (zax ?_)))
     obtain rfl:=oi h
     refine ke (pt AF0 2 (.xb true)) [] rfl (s1 rfl) ⟨rfl,rfl⟩
theorem m_procterm_form_ok (a0:Int) (r:(List UInt8)) (h:ziu a0=some r):Pure Tryz.prog 63 [(.exact (.int .i64 a0))] (.exact (.string (bs r))):=by
 unfold ziu at h
 refine Pure.ofFun (zan func63 rfl ntmps63 (by simp) rfl (res1 rfl) λ E hE=>zca (sr (qa (.xs ([]:List UInt8)) rfl (gc (zau (sr (qm (.xi a0) rfl (gc (zas (zbb h (λ(a:Bool)=>(pt (pt AF0 3 (.xi a0)) 4 (.xb a))) (λ(a:Bool)=>[]) (λ k5 h=> ?_) (λ a h=> ?_)))))))))))
 .refine sr (gq (zbi rfl rfl (qa (.xb (decide (a0=7))) rfl (gc (kd (p:=a0=7) rfl h (λ hc h=> ?_) (λ hc h=> ?_))))))
  .refine zaq (zab ⟨_,h,s2 rfl rfl⟩)
  .refine sr (gq (zbi rfl rfl (qa (.xb (decide (a0=8))) rfl (gc (kd (p:=a0=8) rfl h (λ hc h=> ?_) (λ hc h=> ?_))))))
   .refine zaq (zab ⟨_,h,s2 rfl rfl⟩)
   .refine sr (gq (zbi rfl rfl (qa (.xb (decide (a0=9))) rfl (gc (kd (p:=a0=9) rfl h (λ hc h=> ?_) (λ hc h=> ?_))))))
    .refine zaq (zab ⟨_,h,s2 rfl rfl⟩)
    .refine sr (gq (zbi rfl rfl (qa (.xb (decide (a0=10))) rfl (gc (kd (p:=a0=10) rfl h (λ hc h=> ?_) (λ hc h=> ?_))))))
     .refine zaq (zab ⟨_,h,s2 rfl rfl⟩)
     .refine kr (gq (zbi rfl rfl (qa (.xb (decide (a0=11))) rfl (zay (zab ⟨_,h,s2 rfl rfl⟩)))))
 .refine kb (p:=a) rfl h (λ hc h=> ?_) (λ hc h=> ?_)
  .refine sr (qa (.exact (.string (bs [112,112]))) rfl (gc (zax (zbe (zaz ?_)))))
   obtain rfl:=oi h
   refine ke (pt AF0 2 (.exact (.string (bs [112,112])))) [] rfl (s1 rfl) ⟨rfl,rfl⟩
  .refine zbb h (λ(b:Bool)=>(pt (pt AF0 3 (.xi a0)) 10 (.xb b))) (λ(b:Bool)=>[]) (λ k6 h=> ?_) (λ b h=> ?_)
   .refine sr (gq (zbi rfl rfl (qa (.xb (decide (a0=12))) rfl (gc (kd (p:=a0=12) rfl h (λ hc h=> ?_) (λ hc h=> ?_))))))
    .refine zaq (zab ⟨_,h,s2 rfl rfl⟩)
    .refine sr (gq (zbi rfl rfl (qa (.xb (decide (a0=13))) rfl (gc (kd (p:=a0=13) rfl h (λ hc h=> ?_) (λ hc h=> ?_))))))
     .refine zaq (zab ⟨_,h,s2 rfl rfl⟩)
     .refine kr (gq (zbi rfl rfl (qa (.xb (decide (a0=16))) rfl (zay (zab ⟨_,h,s2 rfl rfl⟩)))))
   .refine kb (p:=b) rfl h (λ hc h=> ?_) (λ hc h=> ?_)
    .refine sr (qa (.exact (.string (bs [112,115,112]))) rfl (gc (zax (zbe (zaz ?_)))))
     obtain rfl:=oi h
     refine ke (pt AF0 2 (.exact (.string (bs [112,115,112])))) [] rfl (s1 rfl) ⟨rfl,rfl⟩
    .refine sr (gq (zbi rfl rfl (qa (.xb (decide (a0=17))) rfl (gc (kd (p:=a0=17) rfl h (λ hc h=> ?_) (λ hc h=> ?_))))))
     .refine sr (qa (.exact (.string (bs [112,115,115,112]))) rfl (gc (zax (zbe (zaz ?_)))))
      obtain rfl:=oi h
      refine ke (pt AF0 2 (.exact (.string (bs [112,115,115,112])))) [] rfl (s1 rfl) ⟨rfl,rfl⟩
     .refine sr (gq (zbi rfl rfl (qa (.xb (decide (a0=20))) rfl (gc (kd (p:=a0=20) rfl h (λ hc h=> ?_) (λ hc h=> ?_))))))
      .refine sr (qa (.exact (.string (bs [112,114,112]))) rfl (gc (zax (zbe (zaz ?_)))))
       obtain rfl:=oi h
       refine ke (pt AF0 2 (.exact (.string (bs [112,114,112])))) [] rfl (s1 rfl) ⟨rfl,rfl⟩
      .refine sr (gq (zbi rfl rfl (qa (.xb (decide (a0=14))) rfl (gc (kd (p:=a0=14) rfl h (λ hc h=> ?_) (λ hc h=> ?_))))))
       .refine sr (qa (.exact (.string (bs [112,115]))) rfl (gc (zax (zbe (zaz ?_)))))
        obtain rfl:=oi h
        refine ke (pt AF0 2 (.exact (.string (bs [112,115])))) [] rfl (s1 rfl) ⟨rfl,rfl⟩
       .refine zbb h (λ(c:Bool)=>(pt (pt AF0 3 (.xi a0)) 20 (.xb c))) (λ(c:Bool)=>[]) (λ k7 h=> ?_) (λ c h=> ?_)
        .refine sr (gq (zbi rfl rfl (qa (.xb (decide (a0=15))) rfl (gc (kd (p:=a0=15) rfl h (λ hc h=> ?_) (λ hc h=> ?_))))))
         .refine zaq (zab ⟨_,h,s2 rfl rfl⟩)
         .refine kr (gq (zbi rfl rfl (qa (.xb (decide (a0=18))) rfl (zay (zab ⟨_,h,s2 rfl rfl⟩)))))
        .refine kb (p:=c) rfl h (λ hc h=> ?_) (λ hc h=> ?_)
         .refine sr (qa (.exact (.string (bs [112,114]))) rfl (gc (zax (zbe (zaz ?_)))))
          obtain rfl:=oi h
          refine ke (pt AF0 2 (.exact (.string (bs [112,114])))) [] rfl (s1 rfl) ⟨rfl,rfl⟩
         .refine sr (gq (zbi rfl rfl (qa (.xb (decide (a0=19))) rfl (gc (kd (p:=a0=19) rfl h (λ hc h=> ?_) (λ hc h=> ?_))))))
          .refine sr (qa (.xs [112]) rfl (gc (zax (zbe (zaz ?_)))))
           obtain rfl:=oi h
           refine ke (pt AF0 2 (.xs [112])) [] rfl (s1 rfl) ⟨rfl,rfl⟩
          .refine zaq (zar (zad (sr (qa (.xs ([]:List UInt8)) rfl (gc (zax ?_))))))
           obtain rfl:=oi h
           refine ke (pt AF0 2 (.xs ([]:List UInt8))) [] rfl (s1 rfl) ⟨rfl,rfl⟩
theorem m_slices_Clip_L_int_int_ok (a0:List Int) (r:(List Int)) (h:zdn a0=some r):Pure Tryz.prog 69 [(.row 1 zbf a0)] (.row 1 zbf r):=by
 unfold zdn at h
 refine Pure.ofFun (zan func69 rfl ntmps69 (by simp) rfl (res1 rfl) λ E hE=>zca (sr (qa (.exact (.slice none 0 0)) rfl (gd (qm (.row 1 zbf a0) rfl (qm (.row 1 zbf a0) rfl (gq (zaw (by kernel_rfl) rfl (qm (.row 1 zbf a0) rfl (gq (zaw (by kernel_rfl) rfl ?_)))))))))))
 obtain⟨n1,h⟩:=zag h
 refine gq (op_slice_row3 (by kernel_rfl) rfl zel rfl rfl (Int.le_refl 0) n1 (Int.le_refl _) (Int.le_refl _) (qa (.row 1 zbf (List.take (Int.toNat (List.length a0:Int)) a0)) rfl (gc (zax ?_))))
 obtain rfl:=oi h
 refine ke (pt AF0 2 (.row 1 zbf (List.take (Int.toNat (List.length a0:Int)) a0))) [] rfl (s1 rfl) ⟨rfl,rfl⟩
theorem m_procterm_events_ok (a0:List UInt8) (r:(List Int)×Bool) (h:m_procterm_events a0=some r):Pure Tryz.prog 136 [(.exact (.string (bs a0)))] (.tup [.row 1 zbf r.1, .exact (.bool r.2)]):=by
 unfold m_procterm_events at h
 refine Pure.ofFun (zan func136 rfl ntmps136 (by simp) rfl (res2 rfl) λ E hE=>zca (sr (qa (.exact (.slice none 0 0)) rfl (qa (.xb false) rfl (gc (zau (sr (qm (.xs a0) rfl ?_))))))))
 obtain⟨y1,e,h⟩:=zac h
 refine gq (zai (zjf _ _ e) func97 (by kernel_rfl) (lc lf ln) (gq (zlq rfl rfl (gc (kd (p:= ¬y1=5) rfl h (λ hc h=> ?_) (λ hc h=> ?_))))))
 .refine sr (qa (.exact (.slice none 0 0)) rfl (qa (.xb false) rfl (gc (zax (zaz ?_)))))
  obtain rfl:=oi h
  refine ke (pt (pt AF0 2 (.row 1 zbf [])) 3 (.xb false)) [] rfl (so (lq rfl (AF.le_put (zep (by decide)) lt0))) ⟨rfl,rfl⟩
 .refine zaq (zad (sr (qa (.exact (.slice none 0 0)) rfl (gc (zdl h (λ(c:List Int) (v4_j2:Value)=>(pt AF0 4 (.exact v4_j2))) (λ(c:List Int) (v4_j2:Value)=>[vecT Tryz.prog 23 1 zbf v4_j2 c]) (λ k2 h=> ?_) (λ c v4_j2 h=> ?_))))))
  .refine sr (qm (.xs a0) rfl ?_)
   obtain⟨y17,f,h⟩:=zac h
   refine gq (zai (m_value_Parts_ok _ _ f) func121 (by kernel_rfl) (lc lf ln) (gq (zaw (by kernel_rfl) rfl (qm (.xi 0) rfl (gc (zas (zei (zhi k2 y17) (zkb k2 y17) (λ _ _=>rfl) (λ m _ _=>rfl) h (λ(d:List Int) (b:Int) (v4_l2:Value)=>(pt (pt (pt (pt AF0 4 (.exact v4_l2)) 13 (.row 1 zaa y17)) 14 (.xi (List.length y17:Int))) 15 (.xi b))) (λ(d:List Int) (b:Int) (v4_l2:Value)=>[vecT Tryz.prog 23 1 zbf v4_l2 d]) (.slice none 0 0) ?_ (λ j d b v4_l2 h=> ?_))))))))
   .refine Sub.trans (SubU.to (SubU.nilT (P:=Tryz.prog) (t:=23) (n:=1) (enc:=zbf))) (s4 rfl rfl rfl rfl)
   .unfold zkb at h
    refine sr (gq (zby rfl rfl (gc (zau (kd (p:=b<(List.length y17:Int)) rfl h (λ hc h=> ?_) (λ hc h=> ?_))))))
    .refine zaq (zad (zau (zas (sr ?_))))
     obtain⟨n26,h⟩:=zag h
     refine gq (zaj (by kernel_rfl) rfl rfl n26.1 n26.2 (gq (zap (a:= .xs (gi y17 b)) (by kernel_rfl) rfl rfl (qa (.xs (gi y17 b)) rfl (gd (qm (.xs (gi y17 b)) rfl ?_))))))
     obtain⟨y27,g,h⟩:=zac h
     refine gq (zai (m_procterm_event_ok _ _ g) func135 (by kernel_rfl) (lc lf ln) (qm (.tup [.xi y27.1, .xb y27.2]) rfl (gq (zbh (av:= .xi y27.1) rfl rfl (gq (zbh (av:= .xb y27.2) rfl rfl (qa (.xi y27.1) rfl (qa (.xb y27.2) rfl (gc (zau (sr (qm (.xb y27.2) rfl (gq (zgf rfl (gc (kb (p:= !y27.2) rfl h (λ hc h=> ?_) (λ hc h=> ?_)))))))))))))))))
     .refine sr (qa (.exact (.slice none 0 0)) rfl (qa (.xb false) rfl (gc (zax (zaz (zbe (zaz (zbr (zbe (zbr ?_))))))))))
      obtain rfl:=oi h
      refine ke (pt (pt AF0 2 (.row 1 zbf [])) 3 (.xb false)) [] rfl (Sub.trans (SubU.to SubU.drop) (so (lq rfl (AF.le_put (zep (by decide)) lt0)))) ⟨rfl,rfl⟩
     .refine zaq (zad (kr (qm (.exact v4_l2) rfl (qm (.xi y27.1) rfl (gq (zcf (n:=1) (enc:=zbf) [y27.1] (CellsAll.cons rfl CellsOf.int CellsAll.nil) rfl (by kernel_rfl) (LEss.cons (lc lf ln) LEss.nil) ?_))))))
      obtain⟨n28,h⟩:=zag h
      refine G_l rfl (zeb (by kernel_rfl) rfl rfl oc_c_int n28 (λ v29=>qa (.exact v29) rfl (zay (zar (zad (kr (gq (zbx rfl rfl rfl (qm (.xi (i64 (b+1))) rfl (zay (zab ⟨_,_,v29,h,s4 rfl rfl rfl rfl⟩)))))))))))
    .refine zcl (zbo (zbu (zbn (zab ⟨_,v4_l2,h,s1 rfl⟩))))
  .refine sr (qm (.exact v4_j2) rfl (G_sub rfl (SubU.freezeT2 (s1:=4) (s2:=31) rfl rfl zgy) ?_))
   obtain⟨y30,i,h⟩:=zac h
   refine gq (zai (m_slices_Clip_L_int_int_ok _ _ i) func69 (by kernel_rfl) (lc lf ln) (qa (.row 1 zbf y30) rfl (qa (.xb true) rfl (gc (zax ?_)))))
   obtain rfl:=oi h
   refine ke (pt (pt AF0 2 (.row 1 zbf y30)) 3 (.xb true)) [] rfl (s2 rfl rfl) ⟨rfl,rfl⟩
end
noncomputable section
open Go.RowKit
attribute [local irreducible] AV.exact AV.top AV.row AV.ptr AV.agg AV.tup AV.eptr AV.fn AV.nilq AV.nilqn opA opB opM opR Quiet Loud Reads wpG awp den Sub SubU Pure Fun vecI vecT boxI CellsAll CellsOf OneC LEs LEss
set_option maxRecDepth 100000
set_option maxHeartbeats 4000000
theorem m_slices_Clip_L_api_Pair_api_Pair_ok (a0:List (Int×Int)) (r:(List (Int×Int))) (h:zdi a0=some r):Pure Tryz.prog 137 [(.row 2 zak a0)] (.row 2 zak r):=by
 unfold zdi at h
 refine Pure.ofFun (zan func137 rfl ntmps137 (by simp) rfl (res1 rfl) λ E hE=>zca (sr (qa (.exact (.slice none 0 0)) rfl (gd (qm (.row 2 zak a0) rfl (qm (.row 2 zak a0) rfl (gq (zaw (by kernel_rfl) rfl (qm (.row 2 zak a0) rfl (gq (zaw (by kernel_rfl) rfl ?_)))))))))))
 obtain⟨n1,h⟩:=zag h
 refine gq (op_slice_row3 (by kernel_rfl) rfl zel rfl rfl (Int.le_refl 0) n1 (Int.le_refl _) (Int.le_refl _) (qa (.row 2 zak (List.take (Int.toNat (List.length a0:Int)) a0)) rfl (gc (zax ?_))))
 obtain rfl:=oi h
 refine ke (pt AF0 2 (.row 2 zak (List.take (Int.toNat (List.length a0:Int)) a0))) [] rfl (s1 rfl) ⟨rfl,rfl⟩
theorem m_procterm_relation_ok (a0:List UInt8) (r:(List (Int×Int))×Bool) (h:zff a0=some r):Pure Tryz.prog 102 [(.exact (.string (bs a0)))] (.tup [.row 2 zak r.1, .exact (.bool r.2)]):=by
 unfold zff at h
 refine Pure.ofFun (zan func102 rfl ntmps102 (by simp) rfl (res2 rfl) λ E hE=>zca (sr (qa (.exact (.slice none 0 0)) rfl (qa (.xb false) rfl (gc (zau (sr (qm (.xs a0) rfl ?_))))))))
 obtain⟨y1,i,h⟩:=zac h
 refine gq (zai (zjf _ _ i) func97 (by kernel_rfl) (lc lf ln) (gq (zlq rfl rfl (gc (kd (p:= ¬y1=5) rfl h (λ hc h=> ?_) (λ hc h=> ?_))))))
 .refine sr (qa (.exact (.slice none 0 0)) rfl (qa (.xb false) rfl (gc (zax (zaz ?_)))))
  obtain rfl:=oi h
  refine ke (pt (pt AF0 2 (.row 2 zak [])) 3 (.xb false)) [] rfl (so (lq rfl (AF.le_put (zep (by decide)) lt0))) ⟨rfl,rfl⟩
 .refine zaq (zad (sr (qa (.exact (.slice none 0 0)) rfl (gc (zdl h (λ(g:List (Int×Int)) (v4_j2:Value)=>(pt AF0 4 (.exact v4_j2))) (λ(g:List (Int×Int)) (v4_j2:Value)=>[vecT Tryz.prog 24 2 zak v4_j2 g]) (λ k2 h=> ?_) (λ g v4_j2 h=> ?_))))))
  .refine sr (qm (.xs a0) rfl ?_)
   obtain⟨y116,j,h⟩:=zac h
   refine gq (zai (m_value_Parts_ok _ _ j) func121 (by kernel_rfl) (lc lf ln) (gq (zaw (by kernel_rfl) rfl (qm (.xi 0) rfl (gc (zas (zei (zga k2 y116) (zhv k2 y116) (λ _ _=>rfl) (λ m _ _=>rfl) h (λ(d:List (Int×Int)) (b:Int) (v4_l2:Value)=>(pt (pt (pt (pt AF0 4 (.exact v4_l2)) 16 (.row 1 zaa y116)) 17 (.xi (List.length y116:Int))) 18 (.xi b))) (λ(d:List (Int×Int)) (b:Int) (v4_l2:Value)=>[vecT Tryz.prog 24 2 zak v4_l2 d]) (.slice none 0 0) ?_ (λ u d b v4_l2 h=> ?_))))))))
   .refine Sub.trans (SubU.to (SubU.nilT (P:=Tryz.prog) (t:=24) (n:=2) (enc:=zak))) (s4 rfl rfl rfl rfl)
   .unfold zhv at h
    refine sr (gq (zby rfl rfl (gc (zau (kd (p:=b<(List.length y116:Int)) rfl h (λ hc h=> ?_) (λ hc h=> ?_))))))
    .refine zaq (zad (zau (zas (sr ?_))))
     obtain⟨n210,h⟩:=zag h
     refine gq (zaj (by kernel_rfl) rfl rfl n210.1 n210.2 (gq (zap (a:= .xs (gi y116 b)) (by kernel_rfl) rfl rfl (qa (.xs (gi y116 b)) rfl (gd (qm (.xs (gi y116 b)) rfl ?_))))))
     obtain⟨y211,k,h⟩:=zac h
     refine gq (zai (m_value_Parts_ok _ _ k) func121 (by kernel_rfl) (lc lf ln) (qa (.row 1 zaa y211) rfl (gc (zau (zbb h (λ(e:Bool)=>(pt (pt (pt (pt (pt (pt AF0 4 (.exact v4_l2)) 7 (.row 1 zaa y211)) 16 (.row 1 zaa y116)) 17 (.xi (List.length y116:Int))) 18 (.xi b)) 31 (.xb e))) (λ(e:Bool)=>[vecT Tryz.prog 24 2 zak v4_l2 d]) (λ k216 h=> ?_) (λ e h=> ?_))))))
     .refine kr (qm (.xs (gi y116 b)) rfl ?_)
      obtain⟨y218,l,h⟩:=zac h
      refine gq (zai (zjf _ _ l) func97 (by kernel_rfl) (lc lf ln) (gq (zlq rfl rfl (qm (.xb (decide (¬y218=3))) rfl (zcm (p:= ¬y218=3) 27 rfl (λ hc=> ?_) (λ hc=> ?_))))))
      .replace h:=zdb h hc
       refine gn (gn (gn (gq (zat rfl (av:= .xb true) rfl (zay (zab ⟨_,h,so (l4 rfl rfl rfl rfl (lq rfl (lq rfl lt0)))⟩))))))
      .replace h:=zdc h hc
       refine gy (zae (av:= .row 1 zaa y211) rfl (gy (zaw (by kernel_rfl) rfl (gy (zlq rfl rfl (gq (zao rfl (av:= .xb (decide (¬(List.length y211:Int)=2))) rfl (zay (zab ⟨_,h,so (l4 rfl rfl rfl rfl (lq rfl (lq rfl lt0)))⟩)))))))))
     .refine kb (p:=e) rfl h (λ hc h=> ?_) (λ hc h=> ?_)
      .refine sr (qa (.exact (.slice none 0 0)) rfl (qa (.xb false) rfl (gc (zax (zaz (zbe (zaz (zbr (zbe (zbr ?_))))))))))
       obtain rfl:=oi h
       refine ke (pt (pt AF0 2 (.row 2 zak [])) 3 (.xb false)) [] rfl (Sub.trans (SubU.to SubU.drop) (so (lq rfl (AF.le_put (zep (by decide)) lt0)))) ⟨rfl,rfl⟩
      .refine zaq (zad (sr (qm (.row 1 zaa y211) rfl ?_)))
       obtain⟨n219,h⟩:=zag h
       refine gq (zaj (by kernel_rfl) rfl rfl n219.1 n219.2 (gq (zap (a:= .xs (gi y211 0)) (by kernel_rfl) rfl rfl ?_)))
       obtain⟨y220,o,h⟩:=zac h
       refine gq (zai (m_procterm_event_ok _ _ o) func135 (by kernel_rfl) (lc lf ln) (qm (.tup [.xi y220.1, .xb y220.2]) rfl (gq (zbh (av:= .xi y220.1) rfl rfl (gq (zbh (av:= .xb y220.2) rfl rfl (qa (.xi y220.1) rfl (qa (.xb y220.2) rfl (gd (qm (.row 1 zaa y211) rfl ?_))))))))))
       obtain⟨n221,h⟩:=zag h
       refine gq (zaj (by kernel_rfl) rfl rfl n221.1 n221.2 (gq (zap (a:= .xs (gi y211 1)) (by kernel_rfl) rfl rfl ?_)))
       obtain⟨y222,q,h⟩:=zac h
       refine gq (zai (m_procterm_event_ok _ _ q) func135 (by kernel_rfl) (lc lf ln) (qm (.tup [.xi y222.1, .xb y222.2]) rfl (gq (zbh (av:= .xi y222.1) rfl rfl (gq (zbh (av:= .xb y222.2) rfl rfl (qa (.xi y222.1) rfl (qa (.xb y222.2) rfl (gc (zau (zbb h (λ(f:Bool)=>(pt (pt (pt (pt (pt (pt (pt AF0 4 (.exact v4_l2)) 8 (.xi y220.1)) 10 (.xi y222.1)) 16 (.row 1 zaa y116)) 17 (.xi (List.length y116:Int))) 18 (.xi b)) 51 (.xb f))) (λ(f:Bool)=>[vecT Tryz.prog 24 2 zak v4_l2 d]) (λ k225 h=> ?_) (λ f h=> ?_))))))))))))
       .refine kr (qm (.xb y220.2) rfl (gq (zgf rfl (qm (.xb (!y220.2)) rfl (G_splitB (c:= !y220.2) 48 rfl (λ hc=> ?_) (λ hc=> ?_))))))
        .replace h:=zdb h hc
         refine gn (gn (gq (zat rfl (av:= .xb true) rfl (zay (zab ⟨_,h,so (l4 rfl rfl rfl rfl (lq rfl (lq rfl (lq rfl lt0))))⟩)))))
        .replace h:=zdc h hc
         refine gy (zae (av:= .xb y222.2) rfl (gy (zgf rfl (gq (zao rfl (av:= .xb (!y222.2)) rfl (zay (zab ⟨_,h,so (l4 rfl rfl rfl rfl (lq rfl (lq rfl (lq rfl lt0))))⟩)))))))
       .refine kb (p:=f) rfl h (λ hc h=> ?_) (λ hc h=> ?_)
        .refine sr (qa (.exact (.slice none 0 0)) rfl (qa (.xb false) rfl (gc (zax (zaz (zbe (zaz (zbr (zbe (zbr ?_))))))))))
         obtain rfl:=oi h
         refine ke (pt (pt AF0 2 (.row 2 zak [])) 3 (.xb false)) [] rfl (Sub.trans (SubU.to SubU.drop) (so (lq rfl (AF.le_put (zep (by decide)) lt0)))) ⟨rfl,rfl⟩
        .refine zaq (zad (kr (qm (.exact v4_l2) rfl (qm (.xi y220.1) rfl (qm (.xi y222.1) rfl (gq (op_bld (c':=zak (y220.1,y222.1)) (CellsAll.cons rfl CellsOf.int (CellsAll.cons rfl CellsOf.int CellsAll.nil)) rfl (lc lf (lc lf ln)) (gq (zcf (n:=2) (enc:=zak) [(y220.1,y222.1)] (CellsAll.cons rfl CellsOf.agg CellsAll.nil) rfl (by kernel_rfl) (LEss.cons (lc lf (lc lf ln)) LEss.nil) ?_)))))))))
         obtain⟨n226,h⟩:=zag h
         refine G_l rfl (zeb (by kernel_rfl) rfl rfl ziq n226 (λ v227=>qa (.exact v227) rfl (zay (zar (zad (kr (gq (zbx rfl rfl rfl (qm (.xi (i64 (b+1))) rfl (zay (zab ⟨_,_,v227,h,s4 rfl rfl rfl rfl⟩)))))))))))
    .refine zcl (zbo (zbu (zbn (zab ⟨_,v4_l2,h,s1 rfl⟩))))
  .refine sr (qm (.exact v4_j2) rfl (G_sub rfl (SubU.freezeT2 (s1:=4) (s2:=59) rfl rfl zco) ?_))
   obtain⟨y228,s,h⟩:=zac h
   refine gq (zai (m_slices_Clip_L_api_Pair_api_Pair_ok _ _ s) func137 (by kernel_rfl) (lc lf ln) (qa (.row 2 zak y228) rfl (qa (.xb true) rfl (gc (zax ?_)))))
   obtain rfl:=oi h
   refine ke (pt (pt AF0 2 (.row 2 zak y228)) 3 (.xb true)) [] rfl (s2 rfl rfl) ⟨rfl,rfl⟩
theorem m_procterm_part_ok (d:(List UInt8)->Option Bool) (hself_procterm_term: ∀(a0:List UInt8) (r:Bool),d a0=some r->Pure Tryz.prog 60 [(.exact (.string (bs a0)))] (.exact (.bool r))) (a0:UInt8) (a1:List UInt8) (r:Bool) (h:m_procterm_part d a0 a1=some r):Pure Tryz.prog 101 [(.exact (.int .u8 (UInt8.toNat a0:Int))),(.exact (.string (bs a1)))] (.exact (.bool r)):=by
 unfold m_procterm_part at h
 refine Pure.ofFun (zan func101 rfl ntmps101 (by simp) rfl (res1 rfl) λ E hE=>zca (sr (qa (.xb false) rfl (gd (qa (.xb false) rfl (gc (zbb h (λ(c:Bool)=>(pt AF0 5 (.xb c))) (λ(c:Bool)=>[]) (λ k1 h=> ?_) (λ c h=> ?_))))))))
 .refine sr (qm (.exact (.int .u8 (UInt8.toNat a0:Int))) rfl (gc (zas (sr (gq (zjy (a:=a0) (b:=112) rfl rfl (qa (.xb (decide (a0=112))) rfl (gc (kd (p:=a0=112) rfl h (λ hc h=> ?_) (λ hc h=> ?_))))))))))
  .refine kr (qm (.xs a1) rfl ?_)
   obtain⟨y5,e,h⟩:=zac h
   refine gq (zai (hself_procterm_term _ _ e) func60 (by kernel_rfl) (lc lf ln) (qa (.xb y5) rfl (zay (zar (zab ⟨_,h,s1 rfl⟩)))))
  .refine sr (gq (zjy (a:=a0) (b:=115) rfl rfl (qa (.xb (decide (a0=115))) rfl (gc (kd (p:=a0=115) rfl h (λ hc h=> ?_) (λ hc h=> ?_))))))
   .refine kr (qm (.xs a1) rfl ?_)
    obtain⟨y6,f,h⟩:=zac h
    refine gq (zai (m_procterm_events_ok _ _ f) func136 (by kernel_rfl) (lc lf ln) (qm (.tup [.row 1 zbf y6.1, .xb y6.2]) rfl (gq (zbh (av:= .row 1 zbf y6.1) rfl rfl (gq (zbh (av:= .xb y6.2) rfl rfl (qa (.xb y6.2) rfl (zay (zar (zab ⟨_,h,s1 rfl⟩))))))))))
   .refine sr (gq (zjy (a:=a0) (b:=114) rfl rfl (qa (.xb (decide (a0=114))) rfl (gc (kd (p:=a0=114) rfl h (λ hc h=> ?_) (λ hc h=> ?_))))))
    .refine kr (qm (.xs a1) rfl ?_)
     obtain⟨y7,g,h⟩:=zac h
     refine gq (zai (m_procterm_relation_ok _ _ g) func102 (by kernel_rfl) (lc lf ln) (qm (.tup [.row 2 zak y7.1, .xb y7.2]) rfl (gq (zbh (av:= .row 2 zak y7.1) rfl rfl (gq (zbh (av:= .xb y7.2) rfl rfl (qa (.xb y7.2) rfl (zay (zar (zab ⟨_,h,s1 rfl⟩))))))))))
    .refine zaq (zar (zab ⟨_,h,s1 rfl⟩))
 .refine sr (qm (.xb c) rfl (qa (.xb c) rfl (gc (zax ?_))))
  obtain rfl:=oi h
  refine ke (pt AF0 4 (.xb c)) [] rfl (s1 rfl) ⟨rfl,rfl⟩
theorem m_procterm_order_ok (a0:List (Int×Int)) (r:(List (Int×Int))) (h:zjz a0=some r):Pure Tryz.prog 103 [(.row 2 zak a0)] (.row 2 zal r):=by
 unfold zjz at h
 refine Pure.ofFun (zan func103 rfl ntmps103 (by simp) rfl (res1 rfl) λ E hE=>zca (sr (qa (.exact (.slice none 0 0)) rfl (gd (qa (.exact (.slice none 0 0)) rfl (gc (zdl h (λ(d:List (Int×Int)) (v3_j1:Value)=>(pt AF0 3 (.exact v3_j1))) (λ(d:List (Int×Int)) (v3_j1:Value)=>[vecT Tryz.prog 25 2 zal v3_j1 d]) (λ k1 h=> ?_) (λ d v3_j1 h=> ?_))))))))
 .refine sr (qm (.row 2 zak a0) rfl (gq (zaw (by kernel_rfl) rfl (qm (.xi 0) rfl (gc (zas (zei (zim a0 k1) (zlb a0 k1) (λ _ _=>rfl) (λ m _ _=>rfl) h (λ(e:List (Int×Int)) (b:Int) (v3_l2:Value)=>(pt (pt (pt (pt AF0 3 (.exact v3_l2)) 6 (.row 2 zak a0)) 7 (.xi (List.length a0:Int))) 8 (.xi b))) (λ(e:List (Int×Int)) (b:Int) (v3_l2:Value)=>[vecT Tryz.prog 25 2 zal v3_l2 e]) (.slice none 0 0) ?_ (λ f e b v3_l2 h=> ?_))))))))
  .refine Sub.trans (SubU.to (SubU.nilT (P:=Tryz.prog) (t:=25) (n:=2) (enc:=zal))) (s4 rfl rfl rfl rfl)
  .unfold zlb at h
   refine sr (gq (zby rfl rfl (gc (zau (kd (p:=b<(List.length a0:Int)) rfl h (λ hc h=> ?_) (λ hc h=> ?_))))))
   .refine zaq (zad (zau (zas (sr ?_))))
    obtain⟨n23,h⟩:=zag h
    refine gq (zaj (by kernel_rfl) rfl rfl n23.1 n23.2 (gq (zke (m:=2) (c':=zak (gi a0 b)) (by kernel_rfl) rfl rfl rfl (G_l rfl (op_alloc (c:=[.xi ((0,0).1), .xi ((0,0).2)]) rfl (lc lf (lc lf ln)) (λ b24=>G_l rfl (op_store_box (c':=[.xi ((gi a0 b).1), .xi ((gi a0 b).2)]) (c3:=[.xi ((gi a0 b).1), .xi ((gi a0 b).2)]) rfl rfl CellsOf.agg (lc lf (lc lf ln)) (ziq _) (by kernel_rfl) (Nat.le_of_ble_eq_true rfl) rfl (gc (kr (qm (.exact v3_l2) rfl (gq (zeq (o:=0) (by kernel_rfl) rfl (G_r rfl (zer (a:= .xi ((gi a0 b).1)) (by kernel_rfl) rfl rfl (gq (zeq (o:=1) (by kernel_rfl) rfl (G_r rfl (zer (a:= .xi ((gi a0 b).2)) (by kernel_rfl) rfl rfl (gq (op_bld (c':=zal ((gi a0 b).1,(gi a0 b).2)) (CellsAll.cons rfl CellsOf.int (CellsAll.cons rfl CellsOf.int CellsAll.nil)) rfl (lc lf (lc lf ln)) (gq (zcf (n:=2) (enc:=zal) [((gi a0 b).1,(gi a0 b).2)] (CellsAll.cons rfl CellsOf.agg CellsAll.nil) rfl (by kernel_rfl) (LEss.cons (lc lf (lc lf ln)) LEss.nil) ?_))))))))))))))))))))))
    obtain⟨n25,h⟩:=zag h
    refine G_l rfl (opB_f1 (zeb (by kernel_rfl) rfl rfl zmz n25 (λ v26=>qa (.exact v26) rfl (zay (zar (zad (kr (gq (zbx rfl rfl rfl (qm (.xi (i64 (b+1))) rfl (zay (zab ⟨_,_,v26,h, ?_⟩))))))))))))
    refine Sub.trans (SubU.to SubU.f1) (Sub.trans (SubU.to SubU.drop) (s4 rfl rfl rfl rfl))
   .refine zcl (zbo (zbu (zbn (zab ⟨_,v3_l2,h,s1 rfl⟩))))
 .refine sr (qm (.exact v3_j1) rfl (qa (.exact v3_j1) rfl (gc (zax ?_))))
  obtain rfl:=oi h
  refine ke (pt AF0 2 (.row 2 zal d)) [] rfl (Sub.trans (SubU.to (SubU.freezeT (s:=2) rfl len_c_api_Above)) (s1 rfl)) ⟨rfl,rfl⟩
theorem m_alphabet_visible_ok (a0:Int) (r:Bool) (h:m_alphabet_visible a0=some r):Pure Tryz.prog 172 [(.exact (.int .i64 a0))] (.exact (.bool r)):=by
 unfold m_alphabet_visible at h
 refine Pure.ofFun (zan func172 rfl ntmps172 (by simp) rfl (res1 rfl) λ E hE=>zca (sr (qa (.xb false) rfl (gc (zbb h (λ(a:Bool)=>(pt AF0 2 (.xb a))) (λ(a:Bool)=>[]) (λ k1 h=> ?_) (λ a h=> ?_))))))
 .refine kr (qm (.xi a0) rfl (gq (op_geq rfl rfl (qm (.xb (decide (2≤a0))) rfl (zcm (p:=2≤a0) 5 rfl (λ hc=> ?_) (λ hc=> ?_))))))
  .replace h:=zdb h hc
   refine gy (zae (av:= .xi a0) rfl (gy (zby rfl rfl (gq (zat rfl (av:= .xb (decide (a0<1026))) rfl (qa (.xb (decide (a0<1026))) rfl (zay (zab ⟨_,h,s1 rfl⟩))))))))
  .replace h:=zdc h hc
   refine gn (gn (gq (zao rfl (av:= .xb false) rfl (qa (.xb false) rfl (zay (zab ⟨_,h,s1 rfl⟩))))))
 .refine zax ?_
  obtain rfl:=oi h
  refine ke (pt AF0 2 (.xb a)) [] rfl (s1 rfl) ⟨rfl,rfl⟩
theorem m_alphabet_compareAbove_ok (a0:Int×Int) (a1:Int×Int) (r:Int) (h:zes a0 a1=some r):Pure Tryz.prog 175 [(.agg (zal a0)),(.agg (zal a1))] (.exact (.int .i64 r)):=by
 unfold zes at h
 refine Pure.ofFun (zan func175 rfl ntmps175 (by simp) rfl (res1 rfl) λ E hE=>zca (sr (gq (op_box (c:=zal a0) rfl CellsOf.agg (gq (op_box (c:=zal a1) rfl CellsOf.agg (qa (.xi 0) rfl (gc (zau (zdy [] [(0,0),(0,1),(0,2),(0,3),(0,4),(0,5),(0,6),(0,7),(0,8),(0,9),(0,10),(0,11),(0,12)] hmixP (by kernel_rfl) (pq rfl (zav (o:=0) (c':=(List.drop 0 (zal a0))) (by kernel_rfl) rfl rfl (pq rfl (zap (a:= .xi a0.1) (by kernel_rfl) rfl rfl (pq rfl (zav (o:=0) (c':=(List.drop 0 (zal a1))) (by kernel_rfl) rfl rfl (pq rfl (zap (a:= .xi a1.1) (by kernel_rfl) rfl rfl ?_))))))))))))))))))
 obtain⟨y1,b,h⟩:=zac h
 refine pq rfl (zai (m_cmp_Compare_int_ok _ _ _ b) func118 (by kernel_rfl) (lc lf (lc lf ln)) (pq rfl (zav (o:=1) (c':=(List.drop 1 (zal a0))) (by kernel_rfl) rfl rfl (pq rfl (zap (a:= .xi a0.2) (by kernel_rfl) rfl rfl (pq rfl (zav (o:=1) (c':=(List.drop 1 (zal a1))) (by kernel_rfl) rfl rfl (pq rfl (zap (a:= .xi a1.2) (by kernel_rfl) rfl rfl ?_)))))))))
 obtain⟨y2,d,h⟩:=zac h
 refine pq rfl (zai (m_cmp_Compare_int_ok _ _ _ d) func118 (by kernel_rfl) (lc lf (lc lf ln)) (pq rfl (zcf (n:=1) (enc:=zbf) [y1,y2] (CellsAll.cons rfl CellsOf.int (CellsAll.cons rfl CellsOf.int CellsAll.nil)) rfl (by kernel_rfl) (LEss.cons (lc lf ln) (LEss.cons (lc lf ln) LEss.nil)) ?_)))
 obtain⟨y3,e,h⟩:=zac h
 refine pq rfl (zai (m_cmp_Or_int_ok _ _ e) func117 (by kernel_rfl) (lc lf ln) (pq rfl (zba (av:= .xi y3) rfl (zdu (zad (zax ?_))))))
 obtain rfl:=oi h
 refine ke (pt AF0 4 (.xi y3)) [] rfl (s1 rfl) ⟨rfl,rfl⟩
theorem m_slices_Clip_L_api_Above_api_Above_ok {w0:Value} (a0:List (Int×Int)) (r:(List (Int×Int))) (h:zet a0=some r):Fun Tryz.prog 176 [(.exact w0)] [vecT Tryz.prog 25 2 zal w0 a0] (λ a s=>a= .row 2 zal r/\s=[]):=by
 unfold zet at h
 refine zan func176 rfl ntmps176 (by simp) rfl (res1 rfl) λ E hE=>zca (sr (qa (.exact (.slice none 0 0)) rfl (gd (qm (.exact w0) rfl (qm (.exact w0) rfl (G_r rfl (zeg (by kernel_rfl) rfl (qm (.exact w0) rfl (G_r rfl (zeg (by kernel_rfl) rfl (G_sub rfl (SubU.freezeT3 (s1:=4) (s2:=6) (s3:=3) rfl rfl rfl len_c_api_Above) ?_)))))))))))
 obtain⟨n1,h⟩:=zag h
 refine gq (op_slice_row3 (by kernel_rfl) rfl zel rfl rfl (Int.le_refl 0) n1 (Int.le_refl _) (Int.le_refl _) (qa (.row 2 zal (List.take (Int.toNat (List.length a0:Int)) a0)) rfl (gc (zax ?_))))
 obtain rfl:=oi h
 refine ke (pt AF0 2 (.row 2 zal (List.take (Int.toNat (List.length a0:Int)) a0))) [] rfl (s1 rfl) ⟨rfl,rfl⟩
theorem m_slices_Clone_L_int_int_ok (a0:List Int) (r:(List Int)) (h:zjv a0=some r):Fun Tryz.prog 196 [(.row 1 zbf a0)] [] (λ a s=> ∃z0,a= .exact z0/\s=[vecT Tryz.prog 23 1 zbf z0 r]):=by
 unfold zjv at h
 refine zan func196 rfl ntmps196 (by simp) rfl (res1 rfl) λ E hE=>zca (sr (qa (.exact (.slice none 0 0)) rfl (gc (zau (sr (qm (.row 1 zbf a0) rfl (gq (op_eqnil_row (by kernel_rfl) rfl (gc ?_)))))))))
 obtain⟨h1,h⟩:=nilc_some h
 refine k_cond_u (p:=a0=[]) rfl (λ hc=> ?_) ?_
 .replace h:=h1 hc
  refine sr (qa (.exact (.slice none 0 0)) rfl (gc (zax (zaz ?_))))
  obtain rfl:=oi h
  refine ke (pt AF0 2 (.exact (.slice none 0 0))) [vecT Tryz.prog 23 1 zbf (.slice none 0 0) []] rfl (Sub.trans (SubU.to (SubU.nilT (P:=Tryz.prog) (t:=23) (n:=1) (enc:=zbf))) (s1 rfl)) ⟨(.slice none 0 0),rfl,rfl⟩
 .refine zaq (zad (sr (G_l rfl (op_lit0I (enc:=zbf) (n:=1) (by kernel_rfl) (λ v1=>qm (.row 1 zbf a0) rfl ?_)))))
  obtain⟨n2,h⟩:=zag h
  refine G_l rfl (zeb (by kernel_rfl) rfl rfl oc_c_int n2 (λ v3=>qa (.exact v3) rfl (gc (zax ?_))))
  obtain rfl:=oi h
  refine ke (pt AF0 2 (.exact v3)) [vecT Tryz.prog 23 1 zbf v3 (([]:List Int)++a0)] rfl (s1 rfl) ⟨v3,rfl,rfl⟩
end

noncomputable section
open Go.RowKit Go.Maps
attribute [local irreducible] AV.exact AV.top AV.row AV.ptr AV.agg AV.tup AV.eptr AV.fn AV.nilq AV.nilqn AV.eptrO opA opB opM opR Quiet Loud Reads wpG awp den Sub SubU Pure Fun vecI vecT vecO mapS itS boxI CellsAll CellsOf OneC LEs LEss
set_option maxRecDepth 100000
theorem cVis_wf {k:Int} (h:cVis k):(Lit.int .i64 k).wf=true:=by
  unfold cVis at h
  simp[Lit.wf,IntKind.min,IntKind.max,IntKind.signed,IntKind.bits]
  omega
theorem clone_nil (xs:List Int) (h:xs.length≤137438953472):zjv xs=some xs:=by
  unfold zjv
  rw[nilc_eq (λ e=>by subst e;rw[zah (by simp)];rfl),zah (by simpa using h),List.nil_append]
theorem zero_ints (w:World):(zeroValue 23).run Tryz.prog w= .ok (.slice none 0 0) w:=by kernel_rfl
theorem zero_bool (w:World):(zeroValue 4).run Tryz.prog w= .ok (.bool false) w:=by kernel_rfl
set_option maxHeartbeats 4000000 in
theorem reach_ok {it : Item} {σ0 : Items} {b N : Nat} {f : Int → Option Value} {R : List (Int × Value × List Int)} {G : Int → List Int} (hi : it ∈ σ0) (hL : MapLike Tryz.prog 3 b N f it) (hG : GCons f R G) (hR : ∀ x ∈ rowsI Tryz.prog 23 1 zbf R, x ∈ σ0)
    (hv: ∀k x,x∈G k->cVis x) (k:Int) (hk:cVis k) (hl:(G k).length≤137438953472) (r:List Int) (h:cReach G FU [] (G k)=some r):
    Fun Tryz.prog 173 [.exact (.map (some b)), .exact (.int .i64 k)] σ0 (λ a s=> ∃z,a= .exact z/\s=vecT Tryz.prog 23 1 zbf z r::σ0):=by
  refine zan func173 rfl ntmps173 (by simp) rfl (res1 rfl) λ E hE=>zca ?_
  refine zau ?_
  refine zfy .free hmixP (by kernel_rfl) ?_
  refine G_q rfl (zba (av:= .exact (.slice none 0 0)) rfl ?_)
  refine zay ?_
  refine zad ?_
  refine zau ?_
  refine zfy .free hmixP (by kernel_rfl) ?_
  refine G_l rfl (op_makeSet (P:=Tryz.prog) (kt:=3) (λ b1=> ?_))
  refine G_q rfl (zba (av:= .exact (.map (some b1))) rfl ?_)
  refine zay ?_
  refine zad ?_
  refine zau ?_
  refine zfy .free hmixP (by kernel_rfl) ?_
  refine G_q rfl (zae (av:= .exact (.map (some b))) rfl ?_)
  refine G_q rfl (zae (av:= .exact (.int .i64 k)) rfl ?_)
  refine G_r rfl (op_lookupM (List.mem_cons_of_mem _ hi) hL underlying151 underlying3 zero_ints rfl rfl (cVis_wf hk) ?_)
  refine G_l rfl (op_fun_bor (m_slices_Clone_L_int_int_ok _ _ (clone_nil (G k) hl)) func196 (by kernel_rfl) rfl (gcons_row hG (λ x hx=>List.mem_cons_of_mem _ (hR x hx)) k) zgy (λ y=>⟨[.int .i64 y],rfl⟩) (λ z=> ?_))
  refine G_q rfl (zba (av:= .exact z) rfl ?_)
  refine zay ?_
  refine zad ?_
  refine zau ?_
  refine zfy .free hmixP (by kernel_rfl) ?_
  refine G_q rfl (zba (av:= .exact (.slice none 0 0)) rfl ?_)
  refine zay ?_
  refine zad ?_
  refine zau ?_
  refine zas ?_
  refine k_loop (α:=Nat×List Int×List Int×Value×Value) (λ x=>AF.put (AF.put (AF.put (AF.put AF0 (some 0) (.exact (.map (some b)))) (some 5) (.exact (.map (some b1)))) (some 6) (.exact x.2.2.2.2)) (some 7) (.exact x.2.2.2.1)) (λ x=>vecT Tryz.prog 23 1 zbf x.2.2.2.1 x.2.1::vecO Tryz.prog 23 1 zbf x.2.2.2.2 x.2.2.1::setS Tryz.prog 3 b1 x.2.1.reverse::σ0) (λ x=>cReach G x.1 x.2.1 x.2.2.1=some r/\ ∀y∈x.2.2.1,cVis y) (λ x=>x.1) (FU,[],G k, .slice none 0 0,z) ⟨h,λ y hy=>hv k y hy⟩ ?_ (λ x hx=> ?_)
  . refine Sub.trans (SubU.to SubU.toO) ?_
    refine Sub.trans (SubU.to (SubU.nilT (P:=Tryz.prog) (t:=23) (n:=1) (enc:=zbf))) ?_
    exact Sub.of_le (AF.le_put (AV.le_eq rfl) (AF.le_put (AV.le_eq rfl) (AF.le_put (AV.le_eq rfl) (AF.le_put (AV.le_eq rfl) (AF.le_top _)))))
  obtain⟨n,out,q,v7,v6⟩:=x
  obtain⟨hx,hq⟩:=hx
  dsimp only at hx hq⊢
  cases n with
  |zero=>cases hx
  |succ n=>
  refine zau ?_
  refine zau ?_
  refine zfy .free hmixP (by kernel_rfl) ?_
  refine G_q rfl (zae (av:= .exact v6) rfl ?_)
  refine G_r rfl (opR_f1 (op_len_O (by kernel_rfl) rfl ?_))
  refine G_q rfl (zlh rfl rfl ?_)
  refine zay ?_
  refine zad ?_
  refine k_cond_d (p:=(0:Int)<(q.length:Int)) rfl (λ hc=> ?_) (λ hc=> ?_)
  . cases q with
    |nil=>simp at hc
    |cons e q=>
    refine zaq ?_
    refine zad ?_
    refine zas ?_
    refine zau ?_
    refine zfy .free hmixP (by kernel_rfl) ?_
    refine G_q rfl (zae (av:= .exact v6) rfl ?_)
    refine G_r rfl (opR_f1 (op_index_O (i:=0) (by kernel_rfl) rfl rfl (by omega) (by simp) ?_))
    refine G_r rfl (opR_f1 (op_load_O1 (i:=0) (a:= .exact (.int .i64 e)) (by kernel_rfl) zgy rfl (by omega) (by simp) rfl ?_))
    refine G_q rfl (zba (av:= .exact (.int .i64 e)) rfl ?_)
    refine zay ?_
    refine zad ?_
    refine zau ?_
    refine zfy .free hmixP (by kernel_rfl) ?_
    refine G_q rfl (zae (av:= .exact v6) rfl ?_)
    refine G_l rfl (opB_f1 (op_slice1_O (i:=1) (by kernel_rfl) zgy rfl rfl (by omega) (by simp;omega) (λ v6'=> ?_)))
    refine G_q rfl (zba (av:= .exact v6') rfl ?_)
    refine zay ?_
    refine zad ?_
    refine zau ?_
    refine zau ?_
    refine zfy .free hmixP (by kernel_rfl) ?_
    refine G_q rfl (zae (av:= .exact (.map (some b1))) rfl ?_)
    refine G_q rfl (zae (av:= .exact (.int .i64 e)) rfl ?_)
    refine G_r rfl (opR_f2 (op_lookSet underlying171 underlying3 zero_bool rfl rfl (cVis_wf (hq e List.mem_cons_self)) ?_))
    refine zay ?_
    refine zad ?_
    refine k_cond_d (p:=e∈out.reverse) rfl (λ hm=> ?_) (λ hm=> ?_)
    . refine zcl ?_
      refine zbo ?_
      refine zbn ?_
      refine zab ⟨(n,out,q,v7,v6'),⟨?_,λ y hy=>hq y (List.mem_cons_of_mem _ hy)⟩,Nat.lt_succ_self n, ?_⟩
      . have h0:=hx
        rw[cReach,if_pos (List.mem_reverse.1 hm)]at h0
        exact h0
      . refine Sub.trans (SubU.to SubU.f1) ?_
        exact Sub.of_le (AF.le_put (AV.le_eq rfl) (AF.le_put (AV.le_eq rfl) (AF.le_put (AV.le_eq rfl) (AF.le_put (AV.le_eq rfl) (AF.le_top _)))))
    . rw[cReach,if_neg (λ h=>hm (List.mem_reverse.2 h))]at hx
      obtain⟨⟨n1,n2⟩,hx⟩:=zag hx
      refine zaq ?_
      refine zad ?_
      refine zau ?_
      refine zfy .free hmixP (by kernel_rfl) ?_
      refine G_q rfl (zae (av:= .exact (.map (some b1))) rfl ?_)
      refine G_q rfl (zae (av:= .exact (.int .i64 e)) rfl ?_)
      refine G_l rfl (opB_f2 (op_updSet underlying171 underlying3 rfl rfl rfl (cVis_wf (hq e List.mem_cons_self)) (by simp only[List.length_reverse,maxLen];omega) ?_))
      refine zay ?_
      refine zad ?_
      refine zau ?_
      refine zfy .free hmixP (by kernel_rfl) ?_
      refine G_q rfl (zae (av:= .exact v7) rfl ?_)
      refine G_q rfl (zae (av:= .exact (.int .i64 e)) rfl ?_)
      refine G_q rfl (zcf (n:=1) (enc:=zbf) [e] (CellsAll.cons rfl CellsOf.int CellsAll.nil) rfl (by kernel_rfl) (LEss.cons (LEs.cons (AV.le_eq rfl) LEs.nil) LEss.nil) ?_)
      refine G_l rfl (opB_f2 (zeb (by kernel_rfl) rfl rfl oc_c_int n2 (λ v7'=> ?_)))
      refine G_q rfl (zba (av:= .exact v7') rfl ?_)
      refine zay ?_
      refine zad ?_
      refine zfy .free hmixP (by kernel_rfl) ?_
      refine G_q rfl (zae (av:= .exact v6') rfl ?_)
      refine G_q rfl (zae (av:= .exact (.map (some b))) rfl ?_)
      refine G_q rfl (zae (av:= .exact (.int .i64 e)) rfl ?_)
      refine G_r rfl (op_lookupM (List.mem_cons_of_mem _ (List.mem_cons_of_mem _ (List.mem_cons_of_mem _ hi))) hL underlying151 underlying3 zero_ints rfl rfl (cVis_wf (hq e List.mem_cons_self)) ?_)
      refine G_l rfl (opB_f2 (op_appOL (ys:=G e) (by kernel_rfl) rfl (BorL.grow hG (λ x hx=>List.mem_cons_of_mem _ (List.mem_cons_of_mem _ (List.mem_cons_of_mem _ (hR x hx)))) zgy e) oc_c_int n1 (λ v6''=> ?_)))
      refine G_q rfl (zba (av:= .exact v6'') rfl ?_)
      refine zay ?_
      refine zar ?_
      refine zab ⟨(n,out++[e],q++G e,v7',v6''),⟨hx,λ y hy=> ?_⟩,Nat.lt_succ_self n, ?_⟩
      . rcases List.mem_append.1 hy with hy|hy
        . exact hq y (List.mem_cons_of_mem _ hy)
        . exact hv e y hy
      . refine Sub.trans (SubU.to SubU.f1) ?_
        have e1:(out++[e]).reverse=e::out.reverse:=by simp
        dsimp only
        rw[e1]
        exact Sub.of_le (AF.le_put (AV.le_eq rfl) (AF.le_put (AV.le_eq rfl) (AF.le_put (AV.le_eq rfl) (AF.le_put (AV.le_eq rfl) (AF.le_top _)))))
  . refine zcl ?_
    refine zbo ?_
    refine zbu ?_
    refine zbn ?_
    have hq0:q=[]:=by cases q with
      |nil=>rfl
      |cons e q=>simp at hc
    subst hq0
    have hr:out=r:=by cases hx;rfl
    subst hr
    refine zad ?_
    refine zau ?_
    refine zfy .free hmixP (by kernel_rfl) ?_
    refine G_q rfl (zae (av:= .exact v7) rfl ?_)
    refine G_q rfl (zba (av:= .exact v7) rfl ?_)
    refine zay ?_
    refine zad ?_
    refine zax ?_
    refine kP_any (endN (af':=(AF.put AF0 (some 4) (.exact v7))) (σ':=vecT Tryz.prog 23 1 zbf v7 out::σ0) _ rfl ?_ ⟨v7,rfl,rfl⟩)
    refine Sub.trans (SubU.to SubU.f1) ?_
    refine Sub.trans (SubU.to SubU.drop) ?_
    refine Sub.trans (SubU.to SubU.f1) ?_
    refine Sub.trans (SubU.to SubU.drop) ?_
    exact Sub.of_le (AF.le_put (AV.le_eq rfl) (AF.le_top _))
end
noncomputable section
open Go.RowKit Go.Maps
theorem op_extractX {P:Program} {af:AF} {d:Option Tmp} {ty:TypeId} {pos:String} {after:Array Edge} {g:Option (Nat×Bool)} {K:AF->Prop} {x:Operand} {vs:Array Value} {i:Nat} {v:Value} (hx:af.ev x= .exact (.tuple vs)) (hl:vs[i]?=some v) (hk:K (af.put d (.exact v))):opA P ⟨d, .extract x i,ty,pos,after,g⟩ af K:=by
  refine⟨_,λ M w ev _ h=> ?_,hk⟩
  have e1:=opnd h (x:=x) (by simp[Op.operands]) hx
  simp[execOp,Instr.extract,e1,hl,go_sem,UponQ]
  exact⟨Keeps.refl _ _,rfl⟩
theorem cG_app (a:List (Int×Int)) (p:Int×Int):cG (a++[p])=λ j=>if j=p.1 then cG a p.1++[p.2]else cG a j:=by
  funext j
  unfold cG
  rw[List.filter_append,List.map_append]
  by_cases h:j=p.1
  . subst h;simp
  . have: ¬p.1=j:=λ e=>h e.symm
    simp[h,this]
theorem cG_vis {l:List (Int×Int)} (hv: ∀p∈l,cVis p.1/\cVis p.2) (k x:Int) (h:x∈cG l k):cVis x:=by
  unfold cG at h
  obtain⟨p,hp,rfl⟩:=List.mem_map.1 h
  exact(hv p (List.mem_filter.1 hp).1).2
theorem cG_len (l:List (Int×Int)) (k:Int):(cG l k).length≤l.length:=by
  unfold cG
  rw[List.length_map]
  exact List.length_filter_le _ _
theorem cQ_snoc (l:List (Int×Int)) (ks:List Int) (k:Int):cQ l (ks++[k])=cQ l ks++(cRd l k).map (λ e=>(k,e)):=by
  unfold cQ;rw[List.flatMap_append];simp
theorem cRd_emp {l:List (Int×Int)} {k:Int} (h:cG l k=[]):cRd l k=[]:=by
  unfold cRd cR
  have: ∃n,FU=n+1:=⟨FU - 1,by have:=zeo;omega⟩
  obtain⟨n,hn⟩:=this
  rw[h,hn]
  rfl
theorem cQ_sub {l:List (Int×Int)} {ks:List Int} (hn:ks.Nodup) (hv: ∀k∈ks,cVis k):(cQ l ks).length≤(cP l).length:=
  nodup_leZ (cQ_nodup l hn) (λ p hp=>by
    have:=cQ_mem.1 hp
    exact(cQ_mem (ks:=cKeys)).2 ⟨cKeys_mem.2 (hv _ this.1),this.2⟩)
attribute [local irreducible] AV.exact AV.top AV.row AV.ptr AV.agg AV.tup AV.eptr AV.fn AV.nilq AV.nilqn AV.eptrO opA opB opM opR Quiet Loud Reads wpG awp den Sub SubU Pure Fun vecI vecT vecO mapS itS boxI CellsAll CellsOf OneC LEs LEss FU
set_option maxRecDepth 100000
set_option maxHeartbeats 4000000 in
theorem m_close_ok (l:List (Int×Int)) (r:List (Int×Int)×Int) (h:m_close l=some r):Pure Tryz.prog 131 [.row 2 zal l] (.tup [.row 2 zal r.1, .exact (.int .i64 r.2)]):=by
  have hl:l.length≤137438953472:=Classical.byContradiction λ hc=>by unfold m_close at h;rw[if_neg hc]at h;cases h
  have hbad:(∃p∈l, ¬(cVis p.1/\cVis p.2))->r=([],1):=λ hb=>by
    unfold m_close at h;rw[if_pos hl,if_pos hb]at h;cases h;rfl
  have hrest:(∀p∈l,cVis p.1/\cVis p.2)->(∀k,(cR l k).isSome=true)/\(cP l).length≤137438953472/\((∃k,k∈cRd l k)->r=([],14))/\((¬ ∃k,k∈cRd l k)->r=(sortC pcmp (cP l),0)):=λ hv=>by
    unfold m_close at h
    rw[if_pos hl,if_neg (by rintro ⟨p,hp,hn⟩;exact hn (hv p hp))]at h
    split at h
    . rename_i h1
      refine⟨h1.1,h1.2,λ hk=> ?_,λ hk=> ?_⟩
      . rw[if_pos hk]at h;cases h;rfl
      . rw[if_neg hk]at h;cases h;rfl
    . cases h
  clear h
  refine Pure.ofFun (zan func131 rfl ntmps131 (by simp) rfl (res2 rfl) λ E hE=>zca ?_)
  refine zau ?_
  refine zfy .free hmixP (by kernel_rfl) ?_
  refine G_q rfl (zba (av:= .exact (.slice none 0 0)) rfl ?_)
  refine G_q rfl (zba (av:= .exact (.int .i64 0)) rfl ?_)
  refine zay ?_
  refine zad ?_
  refine zau ?_
  refine zfy .free hmixP (by kernel_rfl) ?_
  refine G_l rfl (op_makeMap (P:=Tryz.prog) (kt:=3) (λ b=> ?_))
  refine G_q rfl (zba (av:= .exact (.map (some b))) rfl ?_)
  refine zay ?_
  refine zad ?_
  refine zau ?_
  refine zau ?_
  refine zfy .free hmixP (by kernel_rfl) ?_
  refine G_q rfl (zae (av:= .row 2 zal l) rfl ?_)
  refine G_q rfl (zaw (by kernel_rfl) rfl ?_)
  refine G_q rfl (zae (av:= .exact (.int .i64 0)) rfl ?_)
  refine zay ?_
  refine zad ?_
  refine zas ?_
  refine k_loop (α:=Nat×(Int->Option Value)×List (Int×Value×List Int)) (λ x=>AF.put (AF.put (AF.put (AF.put AF0 (some 4) (.exact (.map (some b)))) (some 12) (.row 2 zal l)) (some 13) (.exact (.int .i64 (l.length:Int)))) (some 14) (.exact (.int .i64 (x.1:Int)))) (λ x=>mapS Tryz.prog 3 b x.1 x.2.1::rowsI Tryz.prog 23 1 zbf x.2.2) (λ x=>x.1≤l.length/\GCons x.2.1 x.2.2 (cG (l.take x.1))/\(∀p∈l.take x.1,cVis p.1/\cVis p.2)/\ ∀k,(x.2.1 k).isSome=true->cVis k) (λ x=>l.length - x.1) (0,λ _=>none,[]) ⟨Nat.zero_le _,gcons_emp,λ p hp=>by(rw[List.take_zero]at hp;cases hp),λ k hk=>by(cases hk)⟩ ?_ (λ x hx=> ?_)
  . exact Sub.of_le (AF.le_put (AV.le_eq rfl) (AF.le_put (AV.le_eq rfl) (AF.le_put (AV.le_eq rfl) (AF.le_put (AV.le_eq rfl) (AF.le_top _)))))
  obtain⟨i,f,R⟩:=x
  obtain⟨hi,hG,hv,hfv⟩:=hx
  dsimp only at hi hG hv hfv⊢
  refine zau ?_
  refine zfy .free hmixP (by kernel_rfl) ?_
  refine G_q rfl (zby rfl rfl ?_)
  refine zay ?_
  refine zad ?_
  refine zau ?_
  refine k_cond_d (p:=(i:Int)<(l.length:Int)) rfl (λ hc=> ?_) (λ hc=> ?_)
  . have hil:i<l.length:=by omega
    have hp:=gi_get (xs:=l) (i:=(i:Int)) (by omega) (by omega)
    simp only[Int.toNat_natCast]at hp
    have hpm:gi l (i:Int)∈l:=List.mem_of_getElem? hp
    have htk:l.take (i+1)=l.take i++[gi l (i:Int)]:=by rw[List.take_add_one,hp];rfl
    generalize hpe:gi l (i:Int)=p at*
    refine zaq ?_
    refine zad ?_
    refine zau ?_
    refine zas ?_
    refine zau ?_
    refine zfy .free hmixP (by kernel_rfl) ?_
    refine G_q rfl (zaj (by kernel_rfl) rfl rfl (by omega) (by omega) ?_)
    refine G_q rfl (zke (m:=2) (c':=zal (gi l (i:Int))) (by kernel_rfl) rfl rfl rfl ?_)
    rw[hpe]
    refine G_l rfl (op_alloc (c:=[.exact (.int .i64 (((0:Int),(0:Int)).1)), .exact (.int .i64 (((0:Int),(0:Int)).2))]) rfl (LEs.cons (AV.le_eq rfl) (LEs.cons (AV.le_eq rfl) LEs.nil)) (λ b1=> ?_))
    refine G_l rfl (op_store_box (c':=[.exact (.int .i64 p.1), .exact (.int .i64 p.2)]) (c3:=[.exact (.int .i64 p.1), .exact (.int .i64 p.2)]) rfl rfl CellsOf.agg (LEs.cons (AV.le_eq rfl) (LEs.cons (AV.le_eq rfl) LEs.nil)) (zmz _) (by kernel_rfl) (Nat.le_of_ble_eq_true rfl) rfl ?_)
    refine zay ?_
    refine zad ?_
    refine awp_sub (SubU.to (SubU.freezeBox (s:=6) rfl)) ?_
    refine zau ?_
    refine zau ?_
    refine zfy .free hmixP (by kernel_rfl) ?_
    refine G_q rfl (zav (o:=0) (c':=(List.drop 0 (zal p))) (by kernel_rfl) rfl rfl ?_)
    refine G_q rfl (zap (a:= .exact (.int .i64 p.1)) (by kernel_rfl) rfl rfl ?_)
    refine G_q rfl (zai (m_alphabet_visible_ok _ _ (visZ p.1)) func172 (by kernel_rfl) (LEs.cons (AV.le_eq rfl) LEs.nil) ?_)
    refine G_q rfl (op_not_d (p:=cVis p.1) rfl ?_)
    refine G_q rfl (zae (av:= .exact (.bool (decide (¬cVis p.1)))) rfl ?_)
    refine zcm (p:= ¬cVis p.1) 22 rfl (λ hv1=> ?_) (λ hv1=> ?_)
    . have hrr:=hbad ⟨p,hpm,λ h=>hv1 h.1⟩
      subst hrr
      refine G_n rfl rfl ?_
      refine G_n rfl rfl ?_
      refine G_n rfl rfl ?_
      refine G_n rfl rfl ?_
      refine G_q rfl (zat rfl (av:= .exact (.bool true)) rfl ?_)
      refine zay ?_
      refine zad ?_
      refine k_cond_t rfl ?_
      refine zau ?_
      refine zfy .free hmixP (by kernel_rfl) ?_
      refine G_q rfl (zba (av:= .exact (.slice none 0 0)) rfl ?_)
      refine G_q rfl (zba (av:= .exact (.int .i64 1)) rfl ?_)
      refine zay ?_
      refine zad ?_
      refine zax ?_
      repeat (first|refine zaz ?_|refine zbe ?_|refine zbr ?_)
      refine kP_any (endN (af':=AF.put (AF.put AF0 (some 2) (.row 2 zal [])) (some 3) (.exact (.int .i64 1))) (σ':=[]) _ rfl ?_ ⟨rfl,rfl⟩)
      refine Sub.trans (SubU.to SubU.dropAll) ?_
      exact Sub.of_le (AF.le_put (AV.le_eq rfl) (AF.le_put (zep (by omega)) (AF.le_top _)))
    . have hv1':cVis p.1:=Classical.not_not.1 hv1
      refine Gy_q rfl rfl rfl (zav (o:=1) (c':=(List.drop 1 (zal p))) (by kernel_rfl) rfl rfl ?_)
      refine Gy_q rfl rfl rfl (zap (a:= .exact (.int .i64 p.2)) (by kernel_rfl) rfl rfl ?_)
      refine Gy_q rfl rfl rfl (zai (m_alphabet_visible_ok _ _ (visZ p.2)) func172 (by kernel_rfl) (LEs.cons (AV.le_eq rfl) LEs.nil) ?_)
      refine Gy_q rfl rfl rfl (op_not_d (p:=cVis p.2) rfl ?_)
      refine G_q rfl (zao rfl (av:= .exact (.bool (decide (¬cVis p.2)))) rfl ?_)
      refine zay ?_
      refine zad ?_
      refine k_cond_d (p:= ¬cVis p.2) rfl (λ hv2=> ?_) (λ hv2=> ?_)
      . have hrr:=hbad ⟨p,hpm,λ h=>hv2 h.2⟩
        subst hrr
        refine zau ?_
        refine zfy .free hmixP (by kernel_rfl) ?_
        refine G_q rfl (zba (av:= .exact (.slice none 0 0)) rfl ?_)
        refine G_q rfl (zba (av:= .exact (.int .i64 1)) rfl ?_)
        refine zay ?_
        refine zad ?_
        refine zax ?_
        repeat (first|refine zaz ?_|refine zbe ?_|refine zbr ?_)
        refine kP_any (endN (af':=AF.put (AF.put AF0 (some 2) (.row 2 zal [])) (some 3) (.exact (.int .i64 1))) (σ':=[]) _ rfl ?_ ⟨rfl,rfl⟩)
        refine Sub.trans (SubU.to SubU.dropAll) ?_
        exact Sub.of_le (AF.le_put (AV.le_eq rfl) (AF.le_put (zep (by omega)) (AF.le_top _)))
      . have hv2':cVis p.2:=Classical.not_not.1 hv2
        refine zaq ?_
        refine zad ?_
        obtain⟨R0,hsub,hG'⟩:=rows_split (P:=Tryz.prog) (kt:=3) (t:=23) (n:=1) (enc:=zbf) (b:=b) (N:=i) hG p.1
        refine awp_sub (SubU.to (hsub _)) ?_
        refine zdy [] [(0,0),(0,1),(0,2),(0,3),(0,4),(0,5),(0,7),(0,8),(0,9),(1,6),(2,10),(2,11)] hmixP (by kernel_rfl) ?_
        refine P_q zdf rfl (zae (av:= .exact (.map (some b))) rfl ?_)
        refine P_q zdf rfl (zav (o:=0) (c':=(List.drop 0 (zal p))) (by kernel_rfl) rfl rfl ?_)
        refine P_q zdf rfl (zap (a:= .exact (.int .i64 p.1)) (by kernel_rfl) rfl rfl ?_)
        refine P_q zdf rfl (zae (av:= .exact (.map (some b))) rfl ?_)
        refine P_q zdf rfl (zav (o:=0) (c':=(List.drop 0 (zal p))) (by kernel_rfl) rfl rfl ?_)
        refine P_q zdf rfl (zap (a:= .exact (.int .i64 p.1)) (by kernel_rfl) rfl rfl ?_)
        refine P_q zdf rfl (zav (o:=1) (c':=(List.drop 1 (zal p))) (by kernel_rfl) rfl rfl ?_)
        refine P_q zdf rfl (zap (a:= .exact (.int .i64 p.2)) (by kernel_rfl) rfl rfl ?_)
        refine P_q zdf rfl (zcf (n:=1) (enc:=zbf) [p.2] (CellsAll.cons rfl CellsOf.int CellsAll.nil) rfl (by kernel_rfl) (LEss.cons (LEs.cons (AV.le_eq rfl) LEs.nil) LEss.nil) ?_)
        refine P_r rfl (opR_f1 (op_lookup underlying151 underlying3 zero_ints rfl rfl (cVis_wf hv1') ?_))
        have hgl:(cG (l.take i) p.1).length+[p.2].length≤137438953472:=by
          have:=cG_len (l.take i) p.1
          simp only[List.length_take,List.length_cons,List.length_nil]at*
          omega
        refine P_l rfl (zeb (by kernel_rfl) rfl rfl oc_c_int hgl (λ v'=> ?_))
        refine P_l rfl (opB_f1 (op_mapUpdate (v:=v') underlying151 underlying3 rfl rfl rfl (cVis_wf hv1') (by simp only[maxLen];omega) ?_))
        refine zdu ?_
        refine zar ?_
        refine zad ?_
        refine zfy .free hmixP (by kernel_rfl) ?_
        refine G_q rfl (zbx (r:=((i+1:Nat):Int)) rfl rfl (by rw[wrap_i64 _ (by omega)];omega) ?_)
        refine G_q rfl (zae (av:= .exact (.int .i64 ((i+1:Nat):Int))) rfl ?_)
        refine zay ?_
        have hG2:=hG' v' (cG (l.take i) p.1++[p.2])
        have hG3:GCons (updM f p.1 v') ((p.1,v',cG (l.take i) p.1++[p.2])::R0) (cG (l.take (i+1))):=by
          rw[htk,cG_app];exact hG2
        refine zab ⟨(i+1,updM f p.1 v',(p.1,v',cG (l.take i) p.1++[p.2])::R0),⟨by dsimp only;omega,hG3,λ q hq=> ?_,λ k hk=> ?_⟩,by dsimp only;omega, ?_⟩
        . dsimp only at hq
          rw[htk]at hq
          rcases List.mem_append.1 hq with hq|hq
          . exact hv q hq
          . simp only[List.mem_singleton]at hq
            subst hq;exact⟨hv1',hv2'⟩
        . dsimp only[updM]at hk
          by_cases hkp:k=p.1
          . rw[hkp];exact hv1'
          . rw[if_neg hkp]at hk;exact hfv k hk
        . exact Sub.of_le (AF.le_put (AV.le_eq rfl) (AF.le_put (AV.le_eq rfl) (AF.le_put (AV.le_eq rfl) (AF.le_put (AV.le_eq rfl) (AF.le_top _)))))
  . obtain rfl:i=l.length:=by omega
    rw[List.take_length]at hG hv
    obtain⟨hall,htot,hcyc,hnc⟩:=hrest hv
    refine zcl ?_
    repeat (first|refine zbo ?_|refine zbu ?_)
    refine zbn ?_
    refine zad ?_
    refine zau ?_
    refine zfy .free hmixP (by kernel_rfl) ?_
    refine G_q rfl (zba (av:= .exact (.slice none 0 0)) rfl ?_)
    refine zay ?_
    refine zad ?_
    repeat (refine zau ?_)
    refine zfy .free hmixP (by kernel_rfl) ?_
    refine G_q rfl (zae (av:= .exact (.map (some b))) rfl ?_)
    refine G_l rfl (op_range (left:=R.map (λ x=>x.1)) underlying151 underlying3 rfl (λ k=> ?_) (λ rr=> ?_))
    . constructor
      . intro hk
        obtain⟨v,hv'⟩:=Option.isSome_iff_exists.1 hk
        exact List.mem_map.2 ⟨_,hG.at_ k v hv',rfl⟩
      . intro hk
        obtain⟨x,hx,rfl⟩:=List.mem_map.1 hk
        rw[(hG.keys x hx).1];rfl
    refine zay ?_
    refine zad ?_
    repeat (first|refine zau ?_|refine zas ?_)
    refine k_loop (α:=List Int×Option (Int×Value)×List Int×Value) (λ x=>AF.put (AF.put (AF.put AF0 (some 4) (.exact (.map (some b)))) (some 7) (.exact x.2.2.2)) (some 41) (pA rr 0)) (λ x=>vecT Tryz.prog 25 2 zal x.2.2.2 (cQ l x.2.2.1)::itS Tryz.prog 3 b rr l.length f x.1 x.2.1::rowsI Tryz.prog 23 1 zbf R) (λ x=>x.2.2.1.Nodup/\(∀k∈x.2.2.1,k∉x.1)/\(∀k,(f k).isSome=true↔k∈x.2.2.1∨k∈x.1)/\ ∀k∈x.2.2.1,k∉cRd l k) (λ x=>x.1.length) (R.map (λ x=>x.1),none,[], .slice none 0 0) ⟨List.nodup_nil,λ k hk=>by(cases hk),λ k=> ?_,λ k hk=>by(cases hk)⟩ ?_ (λ x hx=> ?_)
    . constructor
      . intro hk
        obtain⟨v,hv'⟩:=Option.isSome_iff_exists.1 hk
        exact .inr (List.mem_map.2 ⟨_,hG.at_ k v hv',rfl⟩)
      . rintro (hk|hk)
        . cases hk
        . obtain⟨x,hx,rfl⟩:=List.mem_map.1 hk
          rw[(hG.keys x hx).1];rfl
    . refine Sub.trans (SubU.to (SubU.nilT (P:=Tryz.prog) (t:=25) (n:=2) (enc:=zal))) ?_
      exact Sub.of_le (AF.le_put (AV.le_eq rfl) (AF.le_put (AV.le_eq rfl) (AF.le_put (AV.le_eq rfl) (AF.le_top _))))
    obtain⟨left,lst,ks,v7⟩:=x
    obtain⟨hkn,hkl,hkf,hkc⟩:=hx
    dsimp only at hkn hkl hkf hkc⊢
    have hkv: ∀k∈ks,cVis k:=λ k hk=>hfv k ((hkf k).2 (.inl hk))
    repeat (refine zau ?_)
    refine zfy .free hmixP (by kernel_rfl) ?_
    refine G_l rfl (opB_f1 (op_next underlying3 rfl (λ hle=> ?_) (λ k v left' hk hfk hlf hln hkw=> ?_)))
    . refine G_q rfl (op_extractX (v:= .bool false) rfl rfl ?_)
      refine zay ?_
      refine zad ?_
      repeat (refine zau ?_)
      refine k_cond_f rfl ?_
      refine zcl ?_
      repeat (first|refine zbo ?_|refine zbu ?_)
      refine zbn ?_
      refine zad ?_
      have hf0: ∀k,k∉ks->cRd l k=[]:=λ k hk=>by
        refine cRd_emp (hG.none k ?_)
        cases hf:f k with
        |none=>rfl
        |some v=>
          rcases(hkf k).1 (by rw[hf];rfl)with h|h
          . exact absurd h hk
          . rw[hle]at h;cases h
      have hno: ¬ ∃k,k∈cRd l k:=by
        rintro ⟨k,hk⟩
        by_cases hm:k∈ks
        . exact hkc k hm hk
        . rw[hf0 k hm]at hk;cases hk
      have hrr:=hnc hno
      subst hrr
      have hperm:(cQ l ks).Perm (cP l):=perm_of_nodupZ (cQ_nodup l hkn) (cQ_nodup l cKeys_nodup) (λ p=>by
        show p∈cQ l ks↔p∈cQ l cKeys
        rw[cQ_mem,cQ_mem]
        constructor
        . rintro ⟨h1,h2⟩;exact⟨cKeys_mem.2 (hkv _ h1),h2⟩
        . rintro ⟨h1,h2⟩
          refine⟨Classical.byContradiction λ hn=> ?_,h2⟩
          rw[hf0 _ hn]at h2;cases h2)
      have hsort:m_sortby zes (cQ l ks)=some (sortC pcmp (cP l)):=by
        rw[cmpAbove,m_sortby_eq (by have:=cQ_sub (l:=l) hkn hkv;omega) pcmp_ok,sortC_pcmp_perm hperm]
      refine zau ?_
      refine zfy .free hmixP (by kernel_rfl) ?_
      refine G_q rfl (zae (av:= .exact v7) rfl ?_)
      refine G_l rfl (opB_f1 (zbc (m_sort_api_Above_ok m_alphabet_compareAbove_ok _ _ hsort) func174 (by kernel_rfl) (LEs.cons (AV.le_eq rfl) (LEs.cons (AV.le_eq rfl) LEs.nil)) ?_))
      refine zay ?_
      refine zad ?_
      refine zau ?_
      refine zfy .free hmixP (by kernel_rfl) ?_
      refine G_q rfl (zae (av:= .exact v7) rfl ?_)
      refine G_l rfl (op_fun_1_0_0 (m_slices_Clip_L_api_Above_api_Above_ok _ _ (clipZ _)) func176 (by kernel_rfl) (LEs.cons (AV.le_eq rfl) LEs.nil) ?_)
      refine G_q rfl (zba (av:= .row 2 zal (sortC pcmp (cP l))) rfl ?_)
      refine G_q rfl (zba (av:= .exact (.int .i64 0)) rfl ?_)
      refine zay ?_
      refine zad ?_
      refine zax ?_
      refine kP_any (endN (af':=AF.put (AF.put AF0 (some 2) (.row 2 zal (sortC pcmp (cP l)))) (some 3) (.exact (.int .i64 0))) (σ':=[]) _ rfl ?_ ⟨rfl,rfl⟩)
      refine Sub.trans (SubU.to SubU.dropAll) ?_
      exact Sub.of_le (AF.le_put (AV.le_eq rfl) (AF.le_put (AV.le_eq rfl) (AF.le_top _)))
    . have hkvis:cVis k:=hfv k (by rw[hfk];rfl)
      have hknk:k∉ks:=λ h=>hkl k h hk
      obtain⟨Rk,hRk⟩:=Option.isSome_iff_exists.1 (hall k)
      have hRd:cRd l k=Rk:=by unfold cRd;rw[hRk];rfl
      refine G_q rfl (op_extractX (v:= .bool true) rfl rfl ?_)
      refine zay ?_
      refine zad ?_
      repeat (refine zau ?_)
      refine k_cond_t rfl ?_
      refine zaq ?_
      refine zad ?_
      repeat (first|refine zau ?_|refine zas ?_)
      refine zfy .free hmixP (by kernel_rfl) ?_
      refine G_r rfl (op_entry rfl ?_)
      refine G_q rfl (op_extractX (v:= .int .i64 k) rfl rfl ?_)
      refine G_q rfl (zba (av:= .exact (.int .i64 k)) rfl ?_)
      refine zay ?_
      refine zad ?_
      repeat (refine zau ?_)
      refine zfy .free hmixP (by kernel_rfl) ?_
      refine G_q rfl (zae (av:= .exact (.map (some b))) rfl ?_)
      refine G_q rfl (zae (av:= .exact (.int .i64 k)) rfl ?_)
      refine G_l rfl (op_fun (reach_ok (R:=R) (G:=cG l) List.mem_cons_self MapLike.it hG (λ x hx=>List.mem_cons_of_mem _ (List.mem_cons_of_mem _ hx)) (cG_vis hv) k hkvis (Nat.le_trans (cG_len l k) hl) Rk hRk) func173 (by kernel_rfl) (LEs.cons (AV.le_eq rfl) (LEs.cons (AV.le_eq rfl) LEs.nil)) ?_)
      rintro av s ⟨z,rfl,rfl⟩
      refine G_r rfl (zeg (by kernel_rfl) rfl ?_)
      refine G_q rfl (zae (av:= .exact (.int .i64 0)) rfl ?_)
      refine zay ?_
      refine zad ?_
      refine awp_sub (SubU.to (SubU.freezeT (s:=48) rfl zgy)) ?_
      repeat (first|refine zau ?_|refine zas ?_)
      refine k_loop (α:=Nat×Value) (λ x=>AF.put (AF.put (AF.put (AF.put (AF.put (AF.put (AF.put AF0 (some 4) (.exact (.map (some b)))) (some 7) (.exact x.2)) (some 8) (.exact (.int .i64 k))) (some 41) (pA rr 0)) (some 48) (.row 1 zbf Rk)) (some 49) (.exact (.int .i64 (Rk.length:Int)))) (some 50) (.exact (.int .i64 (x.1:Int)))) (λ x=>vecT Tryz.prog 25 2 zal x.2 (cQ l ks++(Rk.take x.1).map (λ e=>(k,e)))::itS Tryz.prog 3 b rr l.length f left' (some (k,v))::rowsI Tryz.prog 23 1 zbf R) (λ x=>x.1≤Rk.length/\ ∀e∈Rk.take x.1,e≠k) (λ x=>Rk.length - x.1) (0,v7) ⟨Nat.zero_le _,λ e he=>by(rw[List.take_zero]at he;cases he)⟩ ?_ (λ x hx=> ?_)
      . refine Sub.trans (SubU.to SubU.f1) ?_
        dsimp only
        rw[List.take_zero,List.map_nil,List.append_nil]
        exact Sub.of_le (AF.le_put (AV.le_eq rfl) (AF.le_put (AV.le_eq rfl) (AF.le_put (AV.le_eq rfl) (AF.le_put (AV.le_eq rfl) (AF.le_put (AV.le_eq rfl) (AF.le_put (AV.le_eq rfl) (AF.le_put (AV.le_eq rfl) (AF.le_top _))))))))
      obtain⟨j,v8⟩:=x
      obtain⟨hj,hje⟩:=hx
      dsimp only at hj hje⊢
      have hks':(ks++[k]).Nodup:=by
        rw[List.nodup_append]
        refine⟨hkn,by simp,λ a ha c hc'=> ?_⟩
        simp at hc';subst hc'
        exact λ e=>hknk (e ▸ ha)
      have hkv': ∀k'∈ks++[k],cVis k':=λ k' hk'=>by
        rcases List.mem_append.1 hk' with h|h
        . exact hkv _ h
        . simp only[List.mem_singleton]at h;rw[h];exact hkvis
      have htot':(cQ l ks).length+Rk.length≤137438953472:=by
        have:=cQ_sub (l:=l) hks' hkv'
        rw[cQ_snoc,hRd]at this
        simp only[List.length_append,List.length_map]at this
        omega
      repeat (refine zau ?_)
      refine zfy .free hmixP (by kernel_rfl) ?_
      refine G_q rfl (zby rfl rfl ?_)
      refine zay ?_
      refine zad ?_
      repeat (refine zau ?_)
      refine k_cond_d (p:=(j:Int)<(Rk.length:Int)) rfl (λ hc=> ?_) (λ hc=> ?_)
      . have hp:=gi_get (xs:=Rk) (i:=(j:Int)) (by omega) (by omega)
        simp only[Int.toNat_natCast]at hp
        have hem:gi Rk (j:Int)∈Rk:=List.mem_of_getElem? hp
        have htk:Rk.take (j+1)=Rk.take j++[gi Rk (j:Int)]:=by rw[List.take_add_one,hp];rfl
        refine zaq ?_
        refine zad ?_
        repeat (first|refine zau ?_|refine zas ?_)
        refine zfy .free hmixP (by kernel_rfl) ?_
        refine G_q rfl (zaj (by kernel_rfl) rfl rfl (by omega) (by omega) ?_)
        refine G_q rfl (zap (a:= .exact (.int .i64 (gi Rk (j:Int)))) (by kernel_rfl) rfl rfl ?_)
        refine G_q rfl (zba (av:= .exact (.int .i64 (gi Rk (j:Int)))) rfl ?_)
        refine zay ?_
        refine zad ?_
        generalize hee:gi Rk (j:Int)=e at*
        repeat (refine zau ?_)
        refine zfy .free hmixP (by kernel_rfl) ?_
        refine G_q rfl (zae (av:= .exact (.int .i64 e)) rfl ?_)
        refine G_q rfl (zae (av:= .exact (.int .i64 k)) rfl ?_)
        refine G_q rfl (zbi rfl rfl ?_)
        refine zay ?_
        refine zad ?_
        repeat (refine zau ?_)
        refine k_cond_d (p:=e=k) rfl (λ hek=> ?_) (λ hek=> ?_)
        . have hrr:=hcyc ⟨k,by rw[hRd, ←hek];exact hem⟩
          subst hrr
          refine zau ?_
          refine zfy .free hmixP (by kernel_rfl) ?_
          refine G_q rfl (zba (av:= .exact (.slice none 0 0)) rfl ?_)
          refine G_q rfl (zba (av:= .exact (.int .i64 14)) rfl ?_)
          refine zay ?_
          refine zad ?_
          refine zax ?_
          repeat (first|refine zaz ?_|refine zbe ?_|refine zbr ?_)
          refine kP_any (endN (af':=AF.put (AF.put AF0 (some 2) (.row 2 zal [])) (some 3) (.exact (.int .i64 14))) (σ':=[]) _ rfl ?_ ⟨rfl,rfl⟩)
          refine Sub.trans (SubU.to SubU.dropAll) ?_
          exact Sub.of_le (AF.le_put (AV.le_eq rfl) (AF.le_put (zep (by omega)) (AF.le_top _)))
        . refine zaq ?_
          refine zad ?_
          repeat (refine zau ?_)
          refine zfy .free hmixP (by kernel_rfl) ?_
          refine G_q rfl (zae (av:= .exact v8) rfl ?_)
          refine G_q rfl (zae (av:= .exact (.int .i64 k)) rfl ?_)
          refine G_q rfl (zae (av:= .exact (.int .i64 e)) rfl ?_)
          refine G_q rfl (op_bld (c':=zal (k,e)) (CellsAll.cons rfl CellsOf.int (CellsAll.cons rfl CellsOf.int CellsAll.nil)) rfl (LEs.cons (AV.le_eq rfl) (LEs.cons (AV.le_eq rfl) LEs.nil)) ?_)
          refine G_q rfl (zcf (n:=2) (enc:=zal) [(k,e)] (CellsAll.cons rfl CellsOf.agg CellsAll.nil) rfl (by kernel_rfl) (LEss.cons (LEs.cons (AV.le_eq rfl) (LEs.cons (AV.le_eq rfl) LEs.nil)) LEss.nil) ?_)
          have hlen:(cQ l ks++(Rk.take j).map (λ e=>(k,e))).length+[(k,e)].length≤137438953472:=by
            simp only[List.length_append,List.length_map,List.length_take,List.length_cons,List.length_nil];omega
          refine G_l rfl (zeb (by kernel_rfl) rfl rfl zmz hlen (λ v8'=> ?_))
          refine G_q rfl (zba (av:= .exact v8') rfl ?_)
          refine zay ?_
          refine zar ?_
          refine zad ?_
          refine zfy .free hmixP (by kernel_rfl) ?_
          refine G_q rfl (zbx (r:=((j+1:Nat):Int)) rfl rfl (by rw[wrap_i64 _ (by omega)];omega) ?_)
          refine G_q rfl (zae (av:= .exact (.int .i64 ((j+1:Nat):Int))) rfl ?_)
          refine zay ?_
          refine zab ⟨(j+1,v8'),⟨by dsimp only;omega,λ e' he'=> ?_⟩,by dsimp only;omega, ?_⟩
          . dsimp only at he'
            rw[htk]at he'
            rcases List.mem_append.1 he' with h|h
            . exact hje _ h
            . simp only[List.mem_singleton]at h
              rw[h];exact hek
          . dsimp only
            rw[htk,List.map_append, ←List.append_assoc]
            exact Sub.of_le (AF.le_put (AV.le_eq rfl) (AF.le_put (AV.le_eq rfl) (AF.le_put (AV.le_eq rfl) (AF.le_put (AV.le_eq rfl) (AF.le_put (AV.le_eq rfl) (AF.le_put (AV.le_eq rfl) (AF.le_put (AV.le_eq rfl) (AF.le_top _))))))))
      . obtain rfl:j=Rk.length:=by omega
        rw[List.take_length]at hje⊢
        refine zcl ?_
        repeat (first|refine zbo ?_|refine zbu ?_)
        refine zbn ?_
        repeat (first|refine zar ?_|refine zad ?_)
        refine zab ⟨(left',some (k,v),ks++[k],v8),⟨hks',λ k' hk'=> ?_,λ k'=> ?_,λ k' hk'=> ?_⟩,hln, ?_⟩
        . dsimp only at hk'⊢
          rcases List.mem_append.1 hk' with h|h
          . exact λ hm=>hkl k' h ((hlf k').1 hm).1
          . simp only[List.mem_singleton]at h
            rw[h];exact λ hm=>((hlf k).1 hm).2 rfl
        . dsimp only
          rw[hkf k',List.mem_append,List.mem_singleton,hlf k']
          constructor
          . rintro (h|h)
            . exact .inl (.inl h)
            . by_cases e:k'=k
              . exact .inl (.inr e)
              . exact .inr ⟨h,e⟩
          . rintro ((h|h)|h)
            . exact .inl h
            . exact .inr (h ▸ hk)
            . exact .inr h.1
        . dsimp only at hk'
          rcases List.mem_append.1 hk' with h|h
          . exact hkc _ h
          . simp only[List.mem_singleton]at h
            rw[h,hRd];exact λ hm=>hje _ hm rfl
        . dsimp only
          rw[cQ_snoc,hRd]
          exact Sub.of_le (AF.le_put (AV.le_eq rfl) (AF.le_put (AV.le_eq rfl) (AF.le_put (AV.le_eq rfl) (AF.le_top _))))
end
end Go.Proofs.YtloigebekdkijaaGreat
