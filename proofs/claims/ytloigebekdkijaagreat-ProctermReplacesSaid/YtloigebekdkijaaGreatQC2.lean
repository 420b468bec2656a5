/- Parts, merged. -/
import Derived.Test.YtloigebekdkijaaGreatQC1
namespace Go.Proofs.YtloigebekdkijaaGreat
noncomputable section
attribute [local irreducible] FU
def raw (c:UInt8) (l:List (List UInt8)):List UInt8:=c::u8i ((l.length / 256:Nat):Int)::u8i ((l.length:Nat):Int)::l.flatten
theorem raw_len (c:UInt8) (l:List (List UInt8)):(raw c l).length=l.flatten.length+3:=rfl
theorem raw_count {l:List (List UInt8)} (h:l.length≤65535):l.length=(u8i ((l.length / 256:Nat):Int)).toNat*256+(u8i ((l.length:Nat):Int)).toNat:=by
 rw[u8i_nat,u8i_nat];omega
def cmpd (c:UInt8) (l:List (List UInt8)):List UInt8:=by
 classical exact if l.length≤65535/\(∀x∈l,Vd x)/\Vd (raw c l)then raw c l else[]
theorem cmpd_yes {c:UInt8} {l:List (List UInt8)} (h:l.length≤65535/\(∀x∈l,Vd x)/\Vd (raw c l)):cmpd c l=raw c l:=by unfold cmpd;rw[if_pos h]
theorem cmpd_no {c:UInt8} {l:List (List UInt8)} (h: ¬(l.length≤65535/\(∀x∈l,Vd x)/\Vd (raw c l))):cmpd c l=[]:=by unfold cmpd;rw[if_neg h]
theorem cmpd_ne {c:UInt8} {l:List (List UInt8)}:cmpd c l≠[]↔(l.length≤65535/\(∀x∈l,Vd x)/\Vd (raw c l)):=by
 constructor
 .intro h
  exact Classical.byContradiction λ hn=>h (cmpd_no hn)
 .intro h;rw[cmpd_yes h];simp[raw]
theorem prt_raw {c:UInt8} {l:List (List UInt8)} (hc:3≤c.toNat/\c.toNat≤9) (hl:l.length≤65535) (hv: ∀x∈l,Vd x):prt (raw c l)=l:=prt_comp hc (raw_count hl) (λ x h=>(hv x h).1.sh) (by omega)
theorem indexFunc_eq (f:List UInt8->Option Bool) (p:List UInt8->Bool) (hf: ∀x,f x=some (p x)) (l:List (List UInt8)) (hl:l.length≤1099511627776):zct l f=some (l.any p):=by
 have hFU:=zeo
 unfold zct zdz
 rw[zbq]
 have loop: ∀(m i n:Nat),i+m=l.length->m<n-> ∃r,zcd l f (λ _=>some (-1)) n i=some r/\decide (0≤r)=(l.drop i).any p:=by
  intro m
  induction m with
  |zero=>
   intro i n hi hn
   obtain⟨n,rfl⟩: ∃k,n=k+1:=⟨n - 1,by omega⟩
   refine⟨-1,by rw[zcd,zcs,if_neg (by omega)], ?_⟩
   rw[List.drop_eq_nil_of_le (by omega)];rfl
  |succ m ih=>
   intro i n hi hn
   obtain⟨n,rfl⟩: ∃k,n=k+1:=⟨n - 1,by omega⟩
   have hil:i<l.length:=by omega
   rw[zcd,zcs,if_pos (by omega),zah (by omega),zbv hil,hf,zaf,List.drop_eq_getElem_cons hil,List.any_cons]
   cases hp:p l[i]with
   |true=>exact⟨i,rfl,by simp⟩
   |false=>
    rw[if_neg (by simp),zbl (by omega)]
    obtain⟨r,h1,h2⟩:=ih (i+1) n (by omega) (by omega)
    exact⟨r,h1,by rw[h2];simp⟩
 obtain⟨r,h1,h2⟩:=loop l.length 0 FU (by omega) (by omega)
 rw[Int.natCast_zero]at h1
 rw[h1,zaf,h2,List.drop_zero]
theorem vChecked (b:List UInt8):m_value_checked b=some (if vldB b=true then b else[]):=by
 unfold m_value_checked
 rw[vValid,zaf]
 cases vldB b <;>rfl
theorem rChecked (b:List UInt8):m_ref9_checked b=some (if vldB b=true then b else[]):=by
 unfold m_ref9_checked
 rw[rValid,zaf]
 cases vldB b <;>rfl
theorem vCompound (c:UInt8) (l:List (List UInt8)) (hx: ∀x∈l,x.length≤1099511627776):zlt (c.toNat:Int) l=some (cmpd c l):=by
 have hFU:=zeo
 unfold zlt
 by_cases hl:(65535:Int)<l.length
 .rw[if_pos hl,cmpd_no (λ h=>by have:=h.1;omega)]
 .rw[if_neg hl,u8i_toNat]
  have e16:IntKind.u16.wrap (l.length:Int)=(l.length:Int):=by
   unfold IntKind.wrap IntKind.bits IntKind.signed
   simp;omega
  have e8:Int.fdiv (l.length:Int) (2^min (Int.toNat 8) IntKind.u16.bits)=((l.length / 256:Nat):Int):=by
   rw[show(2:Int)^min (Int.toNat 8) IntKind.u16.bits=256 from rfl,Int.fdiv_eq_ediv_of_nonneg _ (by omega)];omega
  unfold m_value_append16
  rw[e16,e8,zah (by simp),zaf,zbq]
  have loop: ∀(K:List UInt8->Option (List UInt8)) (m i n:Nat) (b:List UInt8),i+m=l.length->m<n->b.length≤131072->
    ((∀x∈l.drop i,x≠[])/\b.length+(l.drop i).flatten.length≤131072/\zgh l K n b i=K (b++(l.drop i).flatten))∨(¬((∀x∈l.drop i,x≠[])/\b.length+(l.drop i).flatten.length≤131072)/\zgh l K n b i=some []):=by
   intro K m
   induction m with
   |zero=>
    intro i n b hi hn hb
    obtain⟨n,rfl⟩: ∃k,n=k+1:=⟨n - 1,by omega⟩
    rw[List.drop_eq_nil_of_le (by omega)]
    refine .inl ⟨by simp,by simpa using hb, ?_⟩
    rw[zgh,zkw,if_neg (by omega)];simp
   |succ m ih=>
    intro i n b hi hn hb
    obtain⟨n,rfl⟩: ∃k,n=k+1:=⟨n - 1,by omega⟩
    have hil:i<l.length:=by omega
    have hxi:=hx _ (List.getElem_mem hil)
    rw[zgh,zkw,if_pos (by omega),zah (by omega)]
    simp only[zbq]
    rw[zbv hil,List.drop_eq_getElem_cons hil]
    by_cases he:l[i]=[]
    .rw[if_pos he,if_pos trivial]
     exact .inr ⟨λ h=>h.1 _ List.mem_cons_self he,rfl⟩
    .have e1:i64 ((b.length:Int)+(l[i].length:Int))=((b.length+l[i].length:Nat):Int):=by rw[zfn (by omega)];omega
     rw[if_neg he,e1]
     by_cases hs:(131072:Int)<((b.length+l[i].length:Nat):Int)
     .rw[if_pos (decide_eq_true hs)]
      exact .inr ⟨λ h=>by have:=h.2;simp only[List.flatten_cons,List.length_append]at this;omega,rfl⟩
     .rw[if_neg (λ h=>hs (of_decide_eq_true h)),zah (by omega),zbl (by omega)]
      have hlb:(b++l[i]).length=b.length+l[i].length:=List.length_append
      rcases ih (i+1) n (b++l[i]) (by omega) (by omega) (by omega)with⟨h1,h2,h3⟩|⟨h1,h2⟩
      .refine .inl ⟨λ x h=> ?_, ?_, ?_⟩
       .rcases List.mem_cons.1 h with rfl|h
        .exact he
        .exact h1 x h
       .rw[hlb]at h2;simp only[List.flatten_cons,List.length_append];omega
       .rw[h3,List.append_assoc,List.flatten_cons]
      .refine .inr ⟨λ h=>h1 ⟨λ x hx'=>h.1 x (List.mem_cons_of_mem _ hx'), ?_⟩,h2⟩
       have:=h.2
       simp only[List.flatten_cons,List.length_append]at this
       rw[hlb];omega
  have hraw:[c]++[u8i ((l.length / 256:Nat):Int),u8i ((l.length:Nat):Int)]++l.flatten=raw c l:=rfl
  rcases loop _ l.length 0 FU ([c]++[u8i ((l.length / 256:Nat):Int),u8i ((l.length:Nat):Int)]) (by omega) (by omega) (by simp)with⟨h1,h2,h3⟩|⟨h1,h2⟩
  .rw[Int.natCast_zero,List.drop_zero,hraw]at h3
   rw[List.drop_zero]at h1 h2
   rw[h3,indexFunc_eq zmq (λ x=> !vldB x) (λ x=>by unfold zmq;rw[vValid,zaf]) l (by omega),zaf]
   cases hall:l.any (λ x=> !vldB x)with
   |true=>
    rw[if_neg (by simp),cmpd_no]
    intro h
    obtain⟨x,hx,hv⟩:=List.any_eq_true.1 hall
    rw[zdm.2 (h.2.1 x hx)]at hv;cases hv
   |false=>
    have hv: ∀x∈l,Vd x:=λ x hx=>by
     have:=List.any_eq_false.1 hall x hx
     simp at this;exact zdm.1 this
    rw[if_pos (show(!false)=true from rfl),vChecked,zaf]
    by_cases hr:Vd (raw c l)
    .rw[if_pos (zdm.2 hr),cmpd_yes ⟨by omega,hv,hr⟩]
    .rw[if_neg (λ h=>hr (zdm.1 h)),cmpd_no (λ h=>hr h.2.2)]
  .rw[Int.natCast_zero]at h2
   rw[h2,cmpd_no]
   intro h
   rw[List.drop_zero]at h1
   refine h1 ⟨λ x hx=>(h.2.1 x hx).ne, ?_⟩
   have:=h.2.2.2
   rw[raw_len]at this
   simp;simp at this;omega
theorem rCompound (c:UInt8) (hc:3≤c.toNat/\c.toNat≤9) (l:List (List UInt8)) (hv: ∀x∈l,Vd x):znl (c.toNat:Int) l=some (cmpd c l):=by
 have hFU:=zeo
 unfold znl
 by_cases hl:(65535:Int)<l.length
 .rw[if_pos hl,cmpd_no (λ h=>by have:=h.1;omega)]
 .rw[if_neg hl,u8i_toNat]
  have e8:Int.fdiv (l.length:Int) (2^min (Int.toNat 8) IntKind.i64.bits)=((l.length / 256:Nat):Int):=by
   rw[show(2:Int)^min (Int.toNat 8) IntKind.i64.bits=256 from rfl,Int.fdiv_eq_ediv_of_nonneg _ (by omega)];omega
  unfold m_ref9_two
  rw[e8,zaf,zah (by simp),zbq]
  have hraw:[c]++[u8i ((l.length / 256:Nat):Int),u8i ((l.length:Nat):Int)]++l.flatten=raw c l:=rfl
  have hK: ∀s:List UInt8,s.length≤1000000->(131072<s.length∨s=raw c l)->bnd1 (m_ref9_read s 32) (λ y122=>jn (λ(a:Bool)=>if a then(some ([]:List UInt8))else(bnd1 (m_ref9_checked s) (λ y124=>some y124))) (λ k123=>if¬y122.1=(List.length s:Int)then(k123 true)else(k123 (decide (¬(List.length y122.2.1:Int)=(List.length l:Int))))))=some (if 131072<s.length then[]else cmpd c l):=by
   intro s hs hcase
   unfold m_ref9_read m_ref9_walk
   have h:=rWalk 32 (Nat.le_refl _) FU (by omega) s (by omega)
   rw[show((32:Nat):Int)=32 from rfl]at h
   simp only[zbq,rChecked,zaf]
   by_cases hlong:131072<s.length
   .rw[if_pos hlong]
    have hno:vldB s=false:=vldB_no (λ h=>by have:=h.2;omega)
    rcases h with⟨w,r,d,e,hv',h⟩|⟨_,h⟩
    .rw[h,zaf,zaf,hno]
     simp only[]
     split
     .rfl
     .split <;>rfl
    .rw[h,zaf,zaf,hno]
     simp only[]
     split
     .rfl
     .split <;>rfl
   .have hs':s=raw c l:=hcase.resolve_left hlong
    rw[if_neg hlong]
    rcases h with⟨w,r,d,e,hv',h⟩|⟨hno,h⟩
    .rw[h,zaf,zaf]
     simp only[]
     by_cases hr:r=[]
     .subst hr
      rw[List.append_nil]at e
      subst e
      have hvr:Vd (raw c l):=by rw[←hs'];exact⟨hv',by omega⟩
      rw[if_neg (λ h=>h rfl),hs',prt_raw hc (by omega) hv,if_neg (by simp),if_pos (zdm.2 hvr),cmpd_yes ⟨by omega,hv,hvr⟩]
     .have hlr:0<r.length:=List.length_pos_iff.2 hr
      rw[if_pos (by rw[e];simp;omega),if_pos trivial,cmpd_no]
      intro hh
      have:=(hv'.sh.uniq hh.2.2.1.sh r [] (by rw[List.append_nil, ←e,hs'])).2
      exact hr this
    .rw[h,zaf,zaf]
     simp only[]
     have h3:3≤s.length:=by rw[hs',raw_len];omega
     rw[if_pos (by omega),if_pos trivial,cmpd_no (λ hh=>hno s [] (by simp) (by rw[hs'];exact hh.2.2.1))]
  have loop: ∀(K:List UInt8->Option (List UInt8)) (m i n:Nat) (b:List UInt8),i+m=l.length->m<n->b.length≤262144->
    (∃s,s.length≤262144/\(131072<s.length∨s=b++(l.drop i).flatten)/\(b.length≤s.length)/\(131072<s.length->131072<(b++(l.drop i).flatten).length)/\zhf l K n b i=K s)∨(131072<(b++(l.drop i).flatten).length/\zhf l K n b i=some []):=by
   intro K m
   induction m with
   |zero=>
    intro i n b hi hn hb
    obtain⟨n,rfl⟩: ∃k,n=k+1:=⟨n - 1,by omega⟩
    rw[List.drop_eq_nil_of_le (by omega)]
    refine .inl ⟨b,hb, .inr (by simp),Nat.le_refl _,λ h=>by simpa using h, ?_⟩
    rw[zhf,zmk,if_neg (by omega)]
   |succ m ih=>
    intro i n b hi hn hb
    obtain⟨n,rfl⟩: ∃k,n=k+1:=⟨n - 1,by omega⟩
    have hil:i<l.length:=by omega
    have hvi:=hv _ (List.getElem_mem hil)
    rw[zhf,zmk,if_pos (by omega)]
    simp only[zbq]
    rw[zah (by omega),zbv hil,List.drop_eq_getElem_cons hil,if_neg hvi.ne]
    by_cases hs:(131072:Int)<(b.length:Int)
    .rw[if_pos (decide_eq_true hs)]
     exact .inr ⟨by simp;omega,rfl⟩
    .have hvl:=hvi.2
     rw[if_neg (λ h=>hs (of_decide_eq_true h)),zah (by omega),zah (by omega),zbl (by omega)]
     have hlb:(b++l[i]).length=b.length+l[i].length:=List.length_append
     have hap:(b++l[i])++(l.drop (i+1)).flatten=b++(l[i]::l.drop (i+1)).flatten:=by simp only[List.flatten_cons,List.append_assoc]
     rcases ih (i+1) n (b++l[i]) (by omega) (by omega) (by omega)with⟨s,h1,h2,h3,h4,h5⟩|⟨h1,h2⟩
     .rw[hap]at h2 h4
      exact .inl ⟨s,h1,h2,by omega,h4,h5⟩
     .rw[hap]at h1
      exact .inr ⟨h1,h2⟩
  rcases loop _ l.length 0 FU ([c]++[u8i ((l.length / 256:Nat):Int),u8i ((l.length:Nat):Int)]) (by omega) (by omega) (by simp)with⟨s,h1,h2,_,h4,h5⟩|⟨h1,h2⟩
  .rw[Int.natCast_zero]at h5
   rw[List.drop_zero,hraw]at h2 h4
   rw[h5,hK s (by omega) h2]
   split
   .rename_i hlong
    have:=h4 hlong
    rw[cmpd_no (λ h=>by have:=h.2.2.2;omega)]
   .rfl
  .rw[Int.natCast_zero]at h2
   rw[List.drop_zero,hraw]at h1
   rw[h2,cmpd_no (λ h=>by have:=h.2.2.2;omega)]
theorem rAll (l:List (List UInt8)) (hl:l.length≤1099511627776):m_ref9_all l=some (l.all vldB):=by
 unfold m_ref9_all
 rw[zbq]
 have h:=loop_all l (by omega) (λ n (_:Unit) i=>zmf l (λ _=>some true) n i) (λ s x k=>if !vldB x then some false else k s) (λ _=>some true) (λ n s i hi=>by
   show zmf l _ (n+1) i=_
   rw[zmf,m_ref9_all_B2]
   simp(disch:=omega) only[if_pos,zah,zbv,rValid,zaf,zbl]) (λ n s=>by
   show zmf l _ (n+1) _=_
   rw[zmf,m_ref9_all_B2,if_neg (by omega)]) ()
 refine h.trans ?_
 rw[foldK_any]
 cases h:l.all vldB with
 |true=>rw[if_neg];simp at h ⊢;exact h
 |false=>rw[if_pos];simp at h ⊢;exact h
theorem rMake (c:UInt8) (hc:3≤c.toNat/\c.toNat≤9) (l:List (List UInt8)) (hl:l.length≤1099511627776):m_ref9_Make (c.toNat:Int) l=some (cmpd c l):=by
 unfold m_ref9_Make
 rw[rAll l hl,zaf]
 cases h:l.all vldB with
 |true=>
  simp at h
  rw[if_neg (by simp),rCompound c hc l (λ x hx=>zdm.1 (h x hx)),zaf]
 |false=>
  rw[if_pos (show(!false)=true from rfl),cmpd_no]
  intro hh
  simp at h
  obtain⟨x,hx,hv⟩:=h
  rw[zdm.2 (hh.2.1 x hx)]at hv;cases hv
def setW (l:List (List UInt8)):List UInt8:=cmpd 5 (sortW l)
theorem vSet (l:List (List UInt8)) (hl:l.length≤10000000) (hx: ∀x∈l,x.length≤1099511627776):m_value_Set l=some (setW l):=by
 unfold m_value_Set setW
 have:=vCompound 5 (sortW l) (λ x h=>hx x ((sortW_spec l).2.1 x |>.1 h))
 rw[show((5:UInt8).toNat:Int)=5 from rfl]at this
 rw[vSort l (by omega),zaf,this,zaf]
theorem rSet (l:List (List UInt8)) (hl:l.length≤10000000000):m_ref9_Set l=some (setW l):=by
 unfold m_ref9_Set setW
 rw[rAll l (by omega),zaf]
 have hmem:=(sortW_spec l).2.1
 cases h:l.all vldB with
 |true=>
  simp at h
  have:=rCompound 5 (by decide) (sortW l) (λ x hx=>zdm.1 (h x ((hmem x).1 hx)))
  rw[show((5:UInt8).toNat:Int)=5 from rfl]at this
  rw[if_neg (by simp),rSort l hl,zaf,this,zaf]
 |false=>
  rw[if_pos (show(!false)=true from rfl),cmpd_no]
  intro hh
  simp at h
  obtain⟨x,hx,hv⟩:=h
  rw[zdm.2 (hh.2.1 x ((hmem x).2 hx))]at hv;cases hv
end
noncomputable section
attribute [local irreducible] FU
theorem cmpC_val {a b:List UInt8} (ha:Vd a) (hb:Vd b):cmpC a b=cmpW a b:=by unfold cmpC;rw[if_pos ⟨zdm.2 ha,zdm.2 hb⟩]
theorem ascB_SLC: ∀{ps:List (List UInt8)},(∀p∈ps,Vd p)->ascB ps=true->SLC ps
 |[],_,_=>List.Pairwise.nil
 |[x],_,_=>by simp[SLC]
 |x::y::t,hv,h=>by
  simp only[ascB,Bool.and_eq_true,decide_eq_true_eq]at h
  have ih:=ascB_SLC (ps:=y::t) (λ p hp=>hv p (List.mem_cons_of_mem _ hp)) h.2
  have hxy:cmpC x y<0:=by rw[cmpC_val (hv x (by simp)) (hv y (by simp))];exact h.1
  refine List.pairwise_cons.2 ⟨λ z hz=> ?_,ih⟩
  rcases List.mem_cons.1 hz with rfl|hz
  .exact hxy
  .exact cmpC_trans hxy ((List.pairwise_cons.1 ih).1 z hz)
theorem flat_mem {ps:List (List UInt8)} {p:List UInt8} (h:p∈ps):p.length≤ps.flatten.length:=by
 obtain⟨a,b,rfl⟩:=List.append_of_mem h
 simp;omega
theorem znq (v:List UInt8):(∀x∈prtW v,Vd x)/\(prtW v).length≤65535/\(prtW v).flatten.length≤v.length/\(prtW v).flatten.length≤131072/\(3≤kindW v->kindW v≤9->formedB (gi v 0) (prtW v)=true/\v=raw (gi v 0) (prtW v)):=by
 unfold prtW kindW
 cases h0:vldB v with
 |false=>simp
 |true=>
  obtain⟨hv,hl⟩:=zdm.1 h0
  simp only[if_true]
  cases hv with
  |int k b h=>simp[prt,gi_0]
  |bool k b h=>simp[prt,gi_0]
  |name k h l=>simp[prt,gi_0]
  |comp k c h l ps hc hn hp hf=>
   rw[prt_comp hc hn (λ p hp'=>(hp p hp').sh) (by omega),gi_0]
   simp only[List.length_cons]at hl⊢
   have hh:=UInt8.toNat_lt h
   have hh':=UInt8.toNat_lt l
   refine⟨λ x hx=>⟨(hp x hx).mono,by have:=flat_mem hx;omega⟩,by omega,by omega,by omega,λ _ _=>⟨hf, ?_⟩⟩
   have e1:u8i ((ps.length / 256:Nat):Int)=h:=u8_inj (by rw[u8i_nat];omega)
   have e2:u8i ((ps.length:Nat):Int)=l:=u8_inj (by rw[u8i_nat];omega)
   unfold raw
   rw[e1,e2]
def isSet (v:List UInt8):Bool:=decide (kindW v=5)
theorem kind_gi {v:List UInt8} {c:UInt8} (h:kindW v=(c.toNat:Int)) (hc:c≠0):gi v 0=c:=by
 unfold kindW at h
 split at h
 .exact u8_inj (by omega)
 .exact absurd (u8_inj (a:=c) (b:=0) (by rw[show((0:UInt8).toNat)=0 from rfl];omega)) hc
theorem prtW_SLC {v:List UInt8} (h:isSet v=true):SLC (prtW v):=by
 have hk:kindW v=5:=of_decide_eq_true h
 obtain⟨h1,_,_,_,h3⟩:=znq v
 have h0:gi v 0=5:=kind_gi (by rw[hk];rfl) (by decide)
 have:=(h3 (by omega) (by omega)).1
 rw[h0]at this
 exact ascB_SLC h1 (by simpa[formedB]using this)
theorem sortW_congr {l l':List (List UInt8)} (h: ∀x,x∈l↔x∈l'):sortW l=sortW l':=
 slc_ext (sortW_spec l).1 (sortW_spec l').1 (λ x=>by rw[(sortW_spec l).2.1,(sortW_spec l').2.1,h])
theorem setW_congr {l l':List (List UInt8)} (h: ∀x,x∈l↔x∈l'):setW l=setW l':=by unfold setW;rw[sortW_congr h]
def MS (F:Bool->Bool->Bool) (A B r:List (List UInt8)):Prop:=SLC r/\ ∀y,y∈r↔F (decide (y∈A)) (decide (y∈B))=true/\(y∈A∨y∈B)
theorem MS.push {F:Bool->Bool->Bool} {x:List UInt8} {A B r:List (List UInt8)} (fa fb:Bool) (hor:(fa ||fb)=true) (hxA: ∀y∈A,cmpC x y<0) (hxB: ∀y∈B,cmpC x y<0) (h:MS F A B r):
  MS F ((if fa then[x]else[])++A) ((if fb then[x]else[])++B) ((if F fa fb then[x]else[])++r):=by
 obtain⟨hr,hm⟩:=h
 have hA:x∉A:=λ hh=>by have:=hxA x hh;rw[cmpC_self]at this;omega
 have hB:x∉B:=λ hh=>by have:=hxB x hh;rw[cmpC_self]at this;omega
 refine⟨?_,λ y=> ?_⟩
 .split
  .refine List.pairwise_cons.2 ⟨λ y hy=> ?_,hr⟩
   rcases((hm y).1 hy).2 with h|h
   .exact hxA y h
   .exact hxB y h
  .exact hr
 .by_cases hy:y=x
  .subst hy
   have hnr:y∉r:=λ hh=>by rcases((hm y).1 hh).2 with h|h;exact hA h;exact hB h
   cases fa <;>cases fb <;>simp_all <;>split <;>simp_all
  .have e1:(y∈(if fa=true then[x]else[])++A)↔y∈A:=by cases fa <;>simp[hy]
   have e2:(y∈(if fb=true then[x]else[])++B)↔y∈B:=by cases fb <;>simp[hy]
   have e3:(y∈(if F fa fb=true then[x]else[])++r)↔y∈r:=by cases F fa fb <;>simp[hy]
   rw[e3,hm]
   simp only[e1,e2]
theorem nodup_len {α:Type}: ∀{r l:List α},r.Nodup->(∀x∈r,x∈l)->r.length≤l.length
 |[],_,_,_=>by simp
 |x::r,l,hn,hs=>by
  obtain⟨s,t,rfl⟩:=List.append_of_mem (hs x (by simp))
  obtain⟨h1,h2⟩:=List.nodup_cons.1 hn
  have:=nodup_len (r:=r) (l:=s++t) h2 (λ y hy=>by
   have h:=hs y (List.mem_cons_of_mem _ hy)
   have hne:y≠x:=λ e=>h1 (e ▸ hy)
   simpa[hne]using h)
  simp only[List.length_append,List.length_cons]at this⊢
  omega
theorem slc_nodup {r:List (List UInt8)} (h:SLC r):r.Nodup:=h.imp (λ {a b} hab he=>by subst he;rw[cmpC_self]at hab;omega)
theorem MS.len {F:Bool->Bool->Bool} {A B r:List (List UInt8)} (h:MS F A B r):r.length≤A.length+B.length:=by
 have:=nodup_len (l:=A++B) (slc_nodup h.1) (λ x hx=>by rcases((h.2 x).1 hx).2 with h|h <;>simp[h])
 simpa using this
end
noncomputable section
attribute [local irreducible] FU
theorem gi2_0 {α:Type} [Inhabited α] (x y:α):gi [x,y] 0=x:=rfl
theorem gi2_1 {α:Type} [Inhabited α] (x y:α):gi [x,y] 1=y:=rfl
end
noncomputable section
attribute [local irreducible] FU
end
noncomputable section
attribute [local irreducible] FU
theorem u64_nat {n:Nat} (h:n≤4611686018427387904):IntKind.u64.wrap (n:Int)=(n:Int):=by
 unfold IntKind.wrap IntKind.bits IntKind.signed
 simp;omega
end
noncomputable section
attribute [local irreducible] FU
def byD (w:Nat):Nat->List UInt8
 |0=>[]
 |k+1=>u8i ((w / 2^(8*k):Nat):Int)::byD w k
theorem byD_len (w:Nat): ∀k,(byD w k).length=k
 |0=>rfl
 |k+1=>by simp[byD,byD_len w k]
theorem beNat_cons (b:UInt8) (l:List UInt8):beNat (b::l)=b.toNat*256^l.length+beNat l:=by
 have key: ∀(l:List UInt8) (a:Nat),l.foldl (λ n b=>n*256+b.toNat) a=a*256^l.length+beNat l:=by
  intro l
  induction l with
  |nil=>intro a;simp[beNat]
  |cons x l ih=>
   intro a
   have e:beNat (x::l)=x.toNat*256^l.length+beNat l:=by
    have:=ih (0*256+x.toNat)
    simpa[beNat]using this
   rw[List.foldl_cons,ih,e,List.length_cons,Nat.pow_succ,Nat.add_mul,Nat.mul_assoc,Nat.mul_comm 256]
   omega
 have:=key l b.toNat
 simpa[beNat]using this
theorem pow8 (k:Nat):256^k=2^(8*k):=by rw[Nat.pow_mul]
theorem beNat_byD (w:Nat): ∀k,beNat (byD w k)=w % 2^(8*k)
 |0=>by simp[byD,beNat,Nat.mod_one]
 |k+1=>by
  rw[byD,beNat_cons,byD_len,u8i_nat,beNat_byD w k,pow8,show 8*(k+1)=8*k+8 by omega,Nat.pow_add,Nat.mod_mul,Nat.mul_comm,Nat.add_comm,Nat.mul_comm]
def wOf (n:Int):Nat:=(n % 18446744073709551616).toNat
theorem u64_mod (x:Int):IntKind.u64.wrap x=(wOf x:Int):=by rw[wrap_u64];unfold wOf;omega
theorem fdiv_pow (w k:Nat) (hk:8*k≤64):Int.fdiv (w:Int) (2^min (Int.toNat ((8*k:Nat):Int)) IntKind.u64.bits)=((w / 2^(8*k):Nat):Int):=by
 rw[Int.toNat_natCast,show IntKind.u64.bits=64 from rfl,Nat.min_eq_left hk]
 have:(2:Int)^(8*k)=((2^(8*k):Nat):Int):=by simp
 rw[this,Int.fdiv_eq_ediv_of_nonneg _ (Int.natCast_nonneg _)]
 rfl
def intW (n:Int):List UInt8:=1::byD (wOf n) 8
theorem vAppend64 (w:Nat) (K:List UInt8->Option (List UInt8)): ∀(k n:Nat) (out:List UInt8),k≤8->k<n->out.length+k≤100->zii w K n out (8*(k:Int) - 8)=K (out++byD w k):=by
 intro k
 induction k with
 |zero=>
  intro n out hk hn ho
  obtain⟨n,rfl⟩: ∃q,n=q+1:=⟨n - 1,by omega⟩
  rw[zii,zln,if_neg (by omega)]
  simp[byD]
 |succ k ih=>
  intro n out hk hn ho
  obtain⟨n,rfl⟩: ∃q,n=q+1:=⟨n - 1,by omega⟩
  have e:8*((k+1:Nat):Int) - 8=((8*k:Nat):Int):=by omega
  have e2:i64 (((8*k:Nat):Int) - 8)=8*(k:Int) - 8:=by rw[zfn (by omega)];omega
  rw[e,zii,zln,if_pos (by omega),zah (by omega),fdiv_pow w k (by omega),zah (by simp;omega),e2,ih n _ (by omega) (by omega) (by simp;omega)]
  simp[byD]
theorem vInt (n:Int):m_value_Int n=some (intW n):=by
 have hFU:=zeo
 unfold m_value_Int m_value_append64
 have h:=vAppend64 (wOf n) (λ x=>some x) 8 FU [1] (by omega) (by omega) (by simp)
 rw[show 8*((8:Nat):Int) - 8=56 from rfl]at h
 rw[u64_mod,zbq]
 rw[h,zaf];rfl
theorem set_byD (w k:Nat) (hk:k<8):List.set (List.replicate (8 - k) (0:UInt8)++byD w k) (7 - k) (u8i ((w / 2^(8*k):Nat):Int))=List.replicate (8 - (k+1)) (0:UInt8)++byD w (k+1):=by
 rw[show 8 - k=(8 - (k+1))+1 by omega,List.replicate_succ',List.append_assoc,List.set_append_right _ _ (by simp)]
 have:7 - k - (List.replicate (8 - (k+1)) (0:UInt8)).length=0:=by simp
 rw[this];rfl
theorem rEight_loop (n0:Int) (K:List UInt8->Option (List UInt8)): ∀(m k n:Nat),k+m=8->m<n->m_ref9_eight_L2 n0 K n (List.replicate (8 - k) (0:UInt8)++byD (wOf n0) k) k=K (byD (wOf n0) 8):=by
 intro m
 induction m with
 |zero=>
  intro k n hk hn
  obtain⟨n,rfl⟩: ∃q,n=q+1:=⟨n - 1,by omega⟩
  obtain rfl:k=8:=by omega
  rw[m_ref9_eight_L2,m_ref9_eight_B2,if_neg (by omega)]
  simp
 |succ m ih=>
  intro k n hk hn
  obtain⟨n,rfl⟩: ∃q,n=q+1:=⟨n - 1,by omega⟩
  have e1:i64 (8*(k:Int))=((8*k:Nat):Int):=by rw[zfn (by omega)];omega
  have e2:i64 (7 - (k:Int))=((7 - k:Nat):Int):=by rw[zfn (by omega)];omega
  rw[m_ref9_eight_L2,m_ref9_eight_B2,if_pos (by omega),e1,u64_nat (by omega),zah (by omega),e2,zah (by simp[byD_len];omega),Int.toNat_natCast (7 - k),u64_mod,fdiv_pow _ k (by omega),zbl (by omega)]
  rw[set_byD (wOf n0) k (by omega)]
  exact ih (k+1) n (by omega) (by omega)
theorem rInt (n:Int):zic n=some (intW n):=by
 have hFU:=zeo
 unfold zic m_ref9_eight
 have h:=rEight_loop n (λ x=>some x) 8 0 FU (by omega) (by omega)
 rw[Int.natCast_zero]at h
 rw[zah (by omega),zbq]
 rw[show List.replicate (Int.toNat 8) (0:UInt8)=List.replicate (8 - 0) (0:UInt8)++byD (wOf n) 0 from rfl,h,zaf,zah (by simp[byD_len])]
 rfl
theorem intW_IsV (n:Int) (k:Nat):IsV (k+1) (intW n):= .int k _ (byD_len _ 8)
theorem intW_len (n:Int):(intW n).length=9:=by simp[intW,byD_len]
theorem numV_intW {n:Int} (h: -9223372036854775808≤n/\n≤9223372036854775807):numV (intW n)=n:=by
 unfold numV intW
 rw[List.drop_succ_cons,List.drop_zero,beNat_byD]
 have e:wOf n % 2^(8*8)=wOf n:=Nat.mod_eq_of_lt (by unfold wOf;omega)
 rw[e]
 unfold wOf i64
 rw[show(((n % 18446744073709551616).toNat:Nat):Int)=n % 18446744073709551616 by omega]
 unfold IntKind.wrap IntKind.bits IntKind.signed
 simp;split <;>omega
end
noncomputable section
attribute [local irreducible] FU
end
noncomputable section
attribute [local irreducible] FU
theorem comp_ok {c:UInt8} (hc:3≤c.toNat/\c.toNat≤9) {l:List (List UInt8)} {k:Nat} (hk:k≤31) (hv: ∀x∈l,IsV k x) (hn:l.length≤65535) (hl:l.flatten.length≤131069) (hf:formedB c l=true):
  cmpd c l=raw c l/\IsV (k+1) (raw c l)/\prtW (raw c l)=l/\kindW (raw c l)=(c.toNat:Int)/\Vd (raw c l):=by
 have hV: ∀x∈l,Vd x:=λ x hx=>⟨(hv x hx).le (by omega),by have:=flat_mem hx;omega⟩
 have hI:IsV (k+1) (raw c l):= .comp k c _ _ l hc (raw_count hn) hv hf
 have hVr:Vd (raw c l):=⟨hI.le (by omega),by rw[raw_len];omega⟩
 refine⟨cmpd_yes ⟨hn,hV,hVr⟩,hI, ?_, ?_,hVr⟩
 .unfold prtW;rw[if_pos (zdm.2 hVr)];exact prt_raw hc hn hV
 .unfold kindW;rw[if_pos (zdm.2 hVr)];rfl
theorem gi2_00 {α:Type} [Inhabited α] (x:α) (l:List α):gi (x::l) 0=x:=rfl
def PV (k c:Nat) (v:List UInt8):Prop:=IsV k v/\v.length≤c
theorem PV.le {k c k' c':Nat} {v:List UInt8} (h:PV k c v) (hk:k≤k') (hc:c≤c'):PV k' c' v:=⟨h.1.le hk,Nat.le_trans h.2 hc⟩
end
noncomputable section
attribute [local irreducible] FU cKeys keyF
def LtQ (p q:Int×Int):Prop:=p.1<q.1∨(p.1=q.1/\p.2<q.2)
theorem LtQ.irr (p:Int×Int): ¬LtQ p p:=λ h=>by unfold LtQ at h;omega
theorem LtQ.tr {a b c:Int×Int} (h1:LtQ a b) (h2:LtQ b c):LtQ a c:=by unfold LtQ at *;omega
def pVis (p:Int×Int):Prop:=cVis p.1/\cVis p.2
instance (p:Int×Int):Decidable (pVis p):=inferInstanceAs (Decidable (_/\_))
def pKeys:List (Int×Int):=cKeys.flatMap (λ k=>cKeys.map (λ e=>(k,e)))
theorem pKeys_mem {p:Int×Int}:p∈pKeys↔pVis p:=by
 unfold pKeys pVis
 rw[List.mem_flatMap]
 constructor
 .rintro ⟨k,hk,hp⟩
  obtain⟨e,he,rfl⟩:=List.mem_map.1 hp
  exact⟨cKeys_mem.1 hk,cKeys_mem.1 he⟩
 .rintro ⟨h1,h2⟩
  exact⟨_,cKeys_mem.2 h1,List.mem_map.2 ⟨_,cKeys_mem.2 h2,rfl⟩⟩
theorem pKeys_asc:pKeys.Pairwise LtQ:=by
 unfold pKeys
 rw[List.pairwise_flatMap]
 refine⟨λ k _=> ?_,cKeys_asc.imp (λ {a b} hab=> ?_)⟩
 .rw[List.pairwise_map];exact cKeys_asc.imp (λ h=> .inr ⟨rfl,h⟩)
 .intro x hx y hy
  obtain⟨e,_,rfl⟩:=List.mem_map.1 hx
  obtain⟨e',_,rfl⟩:=List.mem_map.1 hy
  exact .inl hab
theorem flat_len_le {α β:Type} {h:α->List β} {B:Nat}: ∀{l:List α},(∀x∈l,(h x).length≤B)->(l.flatMap h).length≤B*l.length
 |[],_=>by simp
 |x::l,hb=>by
  have h1:=hb x List.mem_cons_self
  have h2:=flat_len_le (l:=l) (λ y hy=>hb y (List.mem_cons_of_mem _ hy))
  rw[List.flatMap_cons,List.length_append,List.length_cons,Nat.mul_succ]
  omega
theorem pKeys_len:pKeys.length≤1048576:=by
 have:=flat_len_le (l:=cKeys) (h:=λ k=>cKeys.map (λ e=>(k,e))) (B:=1024) (λ x _=>by rw[List.length_map,cKeys_len];exact Nat.le_refl _)
 rw[cKeys_len]at this
 exact this
attribute [local irreducible] pKeys
def relF (p:Int×Int->Bool):List (Int×Int):=pKeys.filter p
theorem relF_mem {p:Int×Int->Bool} {x:Int×Int}:x∈relF p↔pVis x/\p x=true:=by unfold relF;rw[List.mem_filter,pKeys_mem]
theorem relF_asc (p:Int×Int->Bool):(relF p).Pairwise LtQ:=by unfold relF;exact pKeys_asc.filter _
theorem relF_len (p:Int×Int->Bool):(relF p).length≤1048576:=by
 unfold relF;exact Nat.le_trans (List.length_filter_le _ _) pKeys_len
theorem asc_relF {l:List (Int×Int)} {p:Int×Int->Bool} (h:l.Pairwise LtQ) (hm: ∀x,x∈l↔pVis x/\p x=true):l=relF p:=
 SL_ext LtQ.irr LtQ.tr h (relF_asc p) (λ x=>by rw[hm,relF_mem])
attribute [local irreducible] relF
theorem relF_congr {p q:Int×Int->Bool} (h: ∀x,pVis x->p x=q x):relF p=relF q:=
 asc_relF (relF_asc p) (λ x=>by
  rw[relF_mem]
  constructor
  .rintro ⟨h1,h2⟩;exact⟨h1,by rw[←h x h1];exact h2⟩
  .rintro ⟨h1,h2⟩;exact⟨h1,by rw[h x h1];exact h2⟩)
def relZ (a:List (Int×Int)):List (Int×Int):=relF (λ x=>decide (x∈a))
theorem relZ_mem {a:List (Int×Int)} {x:Int×Int}:x∈relZ a↔pVis x/\x∈a:=by unfold relZ;rw[relF_mem,decide_eq_true_iff]
theorem relZ_asc (a:List (Int×Int)):(relZ a).Pairwise LtQ:=relF_asc _
theorem relZ_len (a:List (Int×Int)):(relZ a).length≤1048576:=relF_len _
theorem relZ_congr {a b:List (Int×Int)} (h: ∀x,pVis x->(x∈a↔x∈b)):relZ a=relZ b:=relF_congr (λ x hx=>by simp only[h x hx])
theorem relZ_relZ (a:List (Int×Int)):relZ (relZ a)=relZ a:=relZ_congr (λ x hx=>by rw[relZ_mem];exact⟨λ h=>h.2,λ h=>⟨hx,h⟩⟩)
theorem pClip (l:List (Int×Int)):zdi l=some l:=by
 unfold zdi
 rw[zah (by omega),Int.toNat_natCast,List.take_length]
theorem sEqualA (a b:List (Int×Int)) (ha:a.length≤1099511627776):zdp a b=some (decide (a=b)):=by
 have hFU:=zeo
 unfold zdp
 by_cases hl:a.length=b.length
 .rw[if_neg (λ h=>h (by omega)),zbq]
  have loop: ∀(m i n:Nat),i+m=a.length->m<n->zcq a b (λ _=>some true) n i=some (decide (a.drop i=b.drop i)):=by
   intro m
   induction m with
   |zero=>
    intro i n hi hn
    obtain⟨n,rfl⟩: ∃q,n=q+1:=⟨n - 1,by omega⟩
    rw[zcq,zde,if_neg (by omega),List.drop_eq_nil_of_le (by omega),List.drop_eq_nil_of_le (by omega)];rfl
   |succ m ih=>
    intro i n hi hn
    obtain⟨n,rfl⟩: ∃q,n=q+1:=⟨n - 1,by omega⟩
    have h1:i<a.length:=by omega
    have h2:i<b.length:=by omega
    rw[zcq,zde,if_pos (by omega),zah (by omega),zah (by omega),zbv h1,zbv h2,List.drop_eq_getElem_cons h1,List.drop_eq_getElem_cons h2]
    by_cases he:a[i]=b[i]
    .rw[if_neg (λ h=>h he),zbl (by omega),ih (i+1) n (by omega) (by omega),he];simp only[List.cons.injEq,true_and]
    .rw[if_pos he,decide_eq_false (λ e=>he (List.cons.inj e).1)]
  have:=loop a.length 0 FU (by omega) (by omega)
  rw[Int.natCast_zero,List.drop_zero,List.drop_zero]at this
  exact this
 .rw[if_pos (λ h=>hl (by omega)),decide_eq_false (λ e=>hl (by rw[e]))]
theorem sortP_mem {l:List (Int×Int)} {x:Int×Int}:x∈sortC pcmp l↔x∈l:=by
 unfold sortC;exact(List.mergeSort_perm l _).mem_iff
theorem sortP_asc (l:List (Int×Int)):(sortC pcmp l).Pairwise (λ a b=>a=b∨LtQ a b):=by
 unfold sortC
 refine(List.pairwise_mergeSort (λ a b c h1 h2=> ?_) (λ a b=> ?_) l).imp (λ {a b} h=> ?_)
 .rw[le_pcmp]at *;omega
 .rw[Bool.or_eq_true,le_pcmp,le_pcmp];omega
 .rw[le_pcmp]at h
  by_cases e:a=b
  .exact .inl e
  .refine .inr ?_
   unfold LtQ
   have: ¬(a.1=b.1/\a.2=b.2):=λ h'=>e (Prod.ext h'.1 h'.2)
   omega
instance (p q:Int×Int):Decidable (LtQ p q):=inferInstanceAs (Decidable (_∨_))
theorem rBefore (p q:Int×Int):zmx p q=some (decide (LtQ p q)):=by
 unfold zmx LtQ
 simp only[zbq]
 by_cases h1:p.1<q.1 <;>by_cases h2:p.1=q.1 <;>simp[h1,h2]
theorem ins_eqZ {α:Type} (out:List α) (j:Nat) (hj:j≤out.length) (z x:α):
  (List.take (j+1) (out++[z])++List.take (Nat.min ((out++[z]).length - j) ((out++[z]).length - (j+1))) (List.drop j (out++[z]))++List.drop (j+1+Nat.min ((out++[z]).length - j) ((out++[z]).length - (j+1))) (out++[z])).length=out.length+1∧
  List.set (List.take (j+1) (out++[z])++List.take (Nat.min ((out++[z]).length - j) ((out++[z]).length - (j+1))) (List.drop j (out++[z]))++List.drop (j+1+Nat.min ((out++[z]).length - j) ((out++[z]).length - (j+1))) (out++[z])) j x=out.take j++[x]++out.drop j:=by
 have hm:Nat.min ((out++[z]).length - j) ((out++[z]).length - (j+1))=out.length - j:=by
  have:Nat.min ((out++[z]).length - j) ((out++[z]).length - (j+1))=min ((out++[z]).length - j) ((out++[z]).length - (j+1)):=rfl
  rw[this];simp;omega
 rw[hm]
 have h1:List.drop (j+1+(out.length - j)) (out++[z])=[]:=List.drop_eq_nil_of_le (by simp;omega)
 have h2:List.take (out.length - j) (List.drop j (out++[z]))=out.drop j:=by
  rw[List.drop_append_of_le_length hj,List.take_left' (by simp)]
 rw[h1,h2,List.append_nil]
 refine⟨by simp;omega, ?_⟩
 obtain⟨y,hy⟩: ∃y,List.take (j+1) (out++[z])=out.take j++[y]:=by
  by_cases h:j<out.length
  .exact⟨out[j],by rw[List.take_append_of_le_length (by omega),List.take_append_getElem h]⟩
  .have:j=out.length:=by omega
   subst this
   exact⟨z,by rw[List.take_of_length_le (by simp),List.take_length]⟩
 rw[hy,List.append_assoc,List.append_assoc,List.set_append_right _ _ (by simp;omega)]
 congr 1
 have:j - (out.take j).length=0:=by simp;omega
 rw[this];rfl
theorem insNeed {α ρ:Type} {p:Prop} [Decidable p] (hp:p) (out:List α) (hl:out.length≤100000000000) (j:Nat) (hj:j≤out.length) (z x:α) (k:List α->Option ρ):
  need (List.length out+List.length [z]≤137438953472) (need ((0:Int)≤i64 ((j:Int)+1)/\(i64 ((j:Int)+1))≤(List.length (out++[z]):Int)/\(List.length (out++[z]):Int)≤(List.length (out++[z]):Int)) (need ((0:Int)≤(j:Int)/\(j:Int)≤(List.length (out++[z]):Int)/\(List.length (out++[z]):Int)≤(List.length (out++[z]):Int)) (need p (need ((0:Int)≤(j:Int)/\(j:Int)<(List.length (List.take (Int.toNat (i64 ((j:Int)+1))) (out++[z])++List.take (Nat.min (Int.toNat (List.length (out++[z]):Int) - Int.toNat (j:Int)) (Int.toNat (List.length (out++[z]):Int) - Int.toNat (i64 ((j:Int)+1)))) (List.drop (Int.toNat (j:Int)) (out++[z]))++List.drop (Int.toNat (i64 ((j:Int)+1))+(Nat.min (Int.toNat (List.length (out++[z]):Int) - Int.toNat (j:Int)) (Int.toNat (List.length (out++[z]):Int) - Int.toNat (i64 ((j:Int)+1))))) (out++[z])):Int)) (k (List.set (List.take (Int.toNat (i64 ((j:Int)+1))) (out++[z])++List.take (Nat.min (Int.toNat (List.length (out++[z]):Int) - Int.toNat (j:Int)) (Int.toNat (List.length (out++[z]):Int) - Int.toNat (i64 ((j:Int)+1)))) (List.drop (Int.toNat (j:Int)) (out++[z]))++List.drop (Int.toNat (i64 ((j:Int)+1))+(Nat.min (Int.toNat (List.length (out++[z]):Int) - Int.toNat (j:Int)) (Int.toNat (List.length (out++[z]):Int) - Int.toNat (i64 ((j:Int)+1))))) (out++[z])) (Int.toNat (j:Int)) x))))))=k (out.take j++[x]++out.drop j):=by
 have e2:i64 ((j:Int)+1)=((j+1:Nat):Int):=by rw[zfn (by omega)];omega
 obtain⟨q1,q2⟩:=ins_eqZ out j hj z x
 have hlo:(out++[z]).length=out.length+1:=by simp
 rw[zah (by simp;omega)]
 simp only[e2,Int.toNat_natCast]
 rw[zah (by rw[hlo];omega),zah (by rw[hlo];omega),zah hp,zah (by rw[q1];omega),q2]
theorem rRel_place (l out:List (Int×Int)) (i:Nat) (hi:i<l.length) (hl:l.length≤60000000000) (ho:out.length≤60000000000) (K:Int->Option (List (Int×Int))): ∀(k j n:Nat),j+k=out.length->k<n->(∀q (h:q<out.length),q<j->LtQ out[q] l[i])->
  ∃j':Nat,j'≤out.length/\zhk l out i K n j=K j'/\(∀q (h:q<out.length),q<j'->LtQ out[q] l[i])/\(∀h:j'<out.length, ¬LtQ out[j'] l[i]):=by
 intro k
 induction k with
 |zero=>
  intro j n h1 h2 h3
  obtain⟨n,rfl⟩: ∃q,n=q+1:=⟨n - 1,by omega⟩
  refine⟨j,by omega, ?_,h3,λ h=>by omega⟩
  rw[zhk,zki]
  simp only[zbq]
  rw[if_neg (by omega),if_neg (by simp)]
 |succ k ih=>
  intro j n h1 h2 h3
  obtain⟨n,rfl⟩: ∃q,n=q+1:=⟨n - 1,by omega⟩
  have hj:j<out.length:=by omega
  rw[zhk,zki]
  simp only[zbq]
  rw[if_pos (by omega),zah (by omega),zah (by omega),zbv hj,zbv hi,rBefore,zaf]
  by_cases hc:LtQ out[j] l[i]
  .rw[if_pos (decide_eq_true hc),zbl (by omega)]
   refine ih (j+1) n (by omega) (by omega) (λ q h hq=> ?_)
   by_cases e:q=j
   .subst e;exact hc
   .exact h3 q h (by omega)
  .rw[if_neg (λ h=>hc (of_decide_eq_true h))]
   exact⟨j,by omega,rfl,h3,λ _=>hc⟩
theorem rRel_loop (l:List (Int×Int)) (hl:l.length≤60000000000) (K:List (Int×Int)->Option (List (Int×Int))): ∀(m i n:Nat) (out:List (Int×Int)),i+m=l.length->m<n->out.Pairwise LtQ->out.length≤i->(∀x,x∈out↔pVis x/\x∈l.take i)->
  ∃s,zdw l K n out i=K s/\s.Pairwise LtQ/\(∀x,x∈s↔pVis x/\x∈l):=by
 have hFU:=zeo
 intro m
 induction m with
 |zero=>
  intro i n out hi hn hs ho hm
  obtain⟨n,rfl⟩: ∃q,n=q+1:=⟨n - 1,by omega⟩
  refine⟨out,by rw[zdw,zkh,if_neg (by omega)],hs,λ x=> ?_⟩
  rw[hm,show i=l.length by omega,List.take_length]
 |succ m ih=>
  intro i n out hi hn hs ho hm
  obtain⟨n,rfl⟩: ∃q,n=q+1:=⟨n - 1,by omega⟩
  have hil:i<l.length:=by omega
  have hmem: ∀x,x∈l.take (i+1)↔x∈l.take i∨x=l[i]:=λ x=>by
   rw[←List.take_append_getElem hil];simp only[List.mem_append,List.mem_singleton]
  have skip: ¬pVis l[i]∨l[i]∈out-> ∃s,zdw l K n out ((i+1:Nat):Int)=K s/\s.Pairwise LtQ/\(∀x,x∈s↔pVis x/\x∈l):=λ h=>by
   refine ih (i+1) n out (by omega) (by omega) hs (by omega) (λ x=> ?_)
   rw[hmem,hm]
   constructor
   .exact λ h=>⟨h.1, .inl h.2⟩
   .rintro ⟨h1,h2|h2⟩
    .exact⟨h1,h2⟩
    .subst h2
     rcases h with h|h
     .exact absurd h1 h
     .exact⟨h1,((hm _).1 h).2⟩
  rw[zdw,zkh,if_pos (by omega)]
  simp only[zbq]
  rw[zah (by omega),zbv hil,rvisZ,rvisZ,zaf,zah (by omega),zaf,zbl (by omega)]
  by_cases h1:cVis l[i].1
  .rw[decide_eq_true h1]
   simp only[Bool.not_true,Bool.false_eq_true,if_false]
   by_cases h2:cVis l[i].2
   .rw[decide_eq_true h2]
    simp only[Bool.not_true,Bool.false_eq_true,if_false]
    obtain⟨j,j1,j2,j3,j4⟩:=rRel_place l out i hil hl (by omega) _ out.length 0 FU (by omega) (by omega) (λ q h h'=>by omega)
    rw[Int.natCast_zero]at j2
    rw[j2]
    have hpw:=List.pairwise_iff_getElem.1 hs
    have ins: ∀hne:(∀h:j<out.length,out[j]≠l[i]), ∃s,zdw l K n (out.take j++[l[i]]++out.drop j) ((i+1:Nat):Int)=K s/\s.Pairwise LtQ/\(∀x,x∈s↔pVis x/\x∈l):=λ hne=>by
     refine ih (i+1) n _ (by omega) (by omega) ?_ (by simp;omega) (λ x=> ?_)
     .have hsp:(out.take j++out.drop j).Pairwise LtQ:=by rw[List.take_append_drop];exact hs
      obtain⟨p1,p2,p3⟩:=List.pairwise_append.1 hsp
      have hB: ∀b∈out.drop j,LtQ l[i] b:=λ b hb=>by
       obtain⟨q,hq,rfl⟩:=List.getElem_of_mem hb
       rw[List.getElem_drop]
       simp only[List.length_drop]at hq
       have hjl:j<out.length:=by omega
       have h0:LtQ l[i] out[j]:=by
        have n1:=j4 hjl
        have n2:=hne hjl
        unfold LtQ at*
        have: ¬(out[j].1=l[i].1/\out[j].2=l[i].2):=λ h=>n2 (Prod.ext h.1 h.2)
        omega
       by_cases e:q=0
       .subst e;exact h0
       .exact h0.tr (hpw j (j+q) hjl (by omega) (by omega))
      rw[List.append_assoc,List.pairwise_append]
      refine⟨p1, ?_,λ a ha b hb=> ?_⟩
      .simp only[List.singleton_append,List.pairwise_cons]
       exact⟨hB,p2⟩
      .simp only[List.singleton_append,List.mem_cons]at hb
       rcases hb with rfl|hb
       .obtain⟨q,hq,rfl⟩:=List.getElem_of_mem ha
        simp only[List.length_take]at hq
        rw[List.getElem_take]
        exact j3 q (by omega) (by omega)
       .exact p3 a ha b hb
     .rw[hmem]
      have:x∈out↔x∈out.take j∨x∈out.drop j:=by rw[←List.mem_append,List.take_append_drop]
      rw[hm]at this
      simp only[List.append_assoc,List.mem_append,List.mem_singleton]
      constructor
      .rintro (h|h|h)
       .have:=this.2 (.inl h);exact⟨this.1, .inl this.2⟩
       .subst h;exact⟨⟨h1,h2⟩, .inr rfl⟩
       .have:=this.2 (.inr h);exact⟨this.1, .inl this.2⟩
      .rintro ⟨h,h'|h'⟩
       .rcases this.1 ⟨h,h'⟩with h|h
        .exact .inl h
        .exact .inr (.inr h)
       .exact .inr (.inl h')
    by_cases hjl:j<out.length
    .rw[if_pos (by omega),zah (by omega),zah (by omega),zbv hjl]
     by_cases he:out[j]=l[i]
     .rw[if_pos (decide_eq_true he)]
      exact skip (.inr (he ▸ List.getElem_mem hjl))
     .rw[if_neg (λ h=>he (of_decide_eq_true h))]
      obtain⟨s,s1,s2⟩:=ins (λ _=>he)
      exact⟨s,(insNeed (p:=(0:Int)≤(i:Int)/\(i:Int)<(l.length:Int)) (by omega) out (by omega) j j1 (0,0) l[i] (λ z=>zdw l K n z ((i+1:Nat):Int))).trans s1,s2⟩
    .rw[if_neg (by omega)]
     obtain⟨s,s1,s2⟩:=ins (λ h=>absurd h hjl)
     exact⟨s,(insNeed (p:=(0:Int)≤(i:Int)/\(i:Int)<(l.length:Int)) (by omega) out (by omega) j j1 (0,0) l[i] (λ z=>zdw l K n z ((i+1:Nat):Int))).trans s1,s2⟩
   .rw[decide_eq_false h2]
    simp only[Bool.not_false,if_true]
    exact skip (.inl λ h=>h2 h.2)
  .rw[decide_eq_false h1]
   simp only[Bool.not_false,if_true]
   exact skip (.inl λ h=>h1 h.1)
theorem rRel (a:List (Int×Int)) (ha:a.length≤60000000000):zcu a=some (relZ a):=by
 have hFU:=zeo
 unfold zcu
 rw[zbq]
 obtain⟨s,e,h1,h2⟩:=rRel_loop a ha (λ x=>some x) a.length 0 FU [] (by omega) (by omega) List.Pairwise.nil (Nat.le_refl _) (λ x=>by rw[List.take_zero];simp)
 rw[Int.natCast_zero]at e
 rw[e]
 congr 1
 exact asc_relF h1 (λ x=>by rw[h2,decide_eq_true_iff])
def RunQ (a:List (Int×Int)) (i:Nat):Prop:= ∀j,i≤j-> ∀h:j<a.length,pVis a[j]/\(0<j->LtQ a[j - 1] a[j])
theorem rValidRel_loop (a:List (Int×Int)) (ha:a.length≤1000000000): ∀(m i n:Nat),i+m=a.length->m<n-> ∃b,zfb a (λ _=>some true) n i=some b/\(b=true↔RunQ a i):=by
 intro m
 induction m with
 |zero=>
  intro i n hi hn
  obtain⟨n,rfl⟩: ∃q,n=q+1:=⟨n - 1,by omega⟩
  exact⟨true,by rw[zfb,zgo,if_neg (by omega)],⟨λ _ j h1 h2=>by omega,λ _=>rfl⟩⟩
 |succ m ih=>
  intro i n hi hn
  obtain⟨n,rfl⟩: ∃q,n=q+1:=⟨n - 1,by omega⟩
  have h1:i<a.length:=by omega
  obtain⟨b,e,hb⟩:=ih (i+1) n (by omega) (by omega)
  rw[zfb,zgo,if_pos (by omega),zbq,zah (by omega),zbv h1,rvisZ,rvisZ,zaf,zbl (by omega),e]
  have hstep:RunQ a i↔(pVis a[i]/\(0<i->LtQ a[i - 1] a[i]))/\RunQ a (i+1):=by
   constructor
   .intro h;exact⟨h i (Nat.le_refl _) h1,λ j hj hl=>h j (by omega) hl⟩
   .rintro ⟨h2,h3⟩ j hj hl
    rcases Nat.eq_or_lt_of_le hj with e|e
    .subst e;exact h2
    .exact h3 j e hl
  by_cases hv:cVis a[i].1
  .rw[decide_eq_true hv,if_neg (by simp),zah (by omega),zaf]
   by_cases hv2:cVis a[i].2
   .rw[decide_eq_true hv2,if_neg (by simp)]
    by_cases h0:(0:Int)<(i:Int)
    .rw[if_pos h0,i64_sub1 (by omega),zah (by omega),zah (by omega)]
     have g:gi a ((i:Int) - 1)=a[i - 1]:=by
      rw[show(i:Int) - 1=((i - 1:Nat):Int)by omega,zbv (by omega)]
     rw[g,rBefore,zaf]
     by_cases hle:LtQ a[i - 1] a[i]
     .rw[decide_eq_true hle]
      refine⟨b,by simp, ?_⟩
      rw[hb,hstep]
      exact⟨λ h=>⟨⟨⟨hv,hv2⟩,λ _=>hle⟩,h⟩,λ h=>h.2⟩
     .rw[decide_eq_false hle]
      refine⟨false,by simp, ?_⟩
      simp only[Bool.false_eq_true,false_iff]
      intro h
      exact hle ((hstep.1 h).1.2 (by omega))
    .rw[if_neg h0]
     refine⟨b,by simp, ?_⟩
     rw[hb,hstep]
     exact⟨λ h=>⟨⟨⟨hv,hv2⟩,λ _=>by omega⟩,h⟩,λ h=>h.2⟩
   .rw[decide_eq_false hv2]
    refine⟨false,by simp, ?_⟩
    simp only[Bool.false_eq_true,false_iff]
    intro h
    exact hv2 (hstep.1 h).1.1.2
  .rw[decide_eq_false hv]
   refine⟨false,by simp, ?_⟩
   simp only[Bool.false_eq_true,false_iff]
   intro h
   exact hv (hstep.1 h).1.1.1
theorem steps_pw {α:Type} {lt:α->α->Prop} (ht: ∀{a b c},lt a b->lt b c->lt a c) {a:List α} (h: ∀j (h:j<a.length),0<j->lt a[j - 1] a[j]):a.Pairwise lt:=by
 rw[List.pairwise_iff_getElem]
 intro i j hi hj hij
 have: ∀k, ∀h:i+k<a.length,0<k->lt a[i] a[i+k]:=by
  intro k
  induction k with
  |zero=>intro _ h;omega
  |succ k ih=>
   intro h1 _
   have h2:=h (i+(k+1)) h1 (by omega)
   have e:i+(k+1) - 1=i+k:=by omega
   simp only[e]at h2
   rcases Nat.eq_zero_or_pos k with hk|hk
   .subst hk;simpa using h2
   .exact ht (ih (by omega) hk) h2
 have h3:=this (j - i) (by omega) (by omega)
 have e:i+(j - i)=j:=by omega
 simpa[e]using h3
theorem run_rel {a:List (Int×Int)}:RunQ a 0↔a=relZ a:=by
 constructor
 .intro h
  refine asc_relF (steps_pw (lt:=LtQ) (λ h1 h2=>h1.tr h2) (λ j hj h0=>(h j (Nat.zero_le _) hj).2 h0)) (λ x=> ?_)
  rw[decide_eq_true_iff]
  constructor
  .intro hx
   obtain⟨i,hi,rfl⟩:=List.getElem_of_mem hx
   exact⟨(h i (Nat.zero_le _) hi).1,hx⟩
  .exact λ h=>h.2
 .intro h j _ hj
  refine⟨(relZ_mem.1 (by rw[←h];exact List.getElem_mem hj)).1,λ h0=> ?_⟩
  have hp:a.Pairwise LtQ:=by rw[h];exact relZ_asc _
  exact List.pairwise_iff_getElem.1 hp (j - 1) j (by omega) hj (by omega)
theorem rValidRel (a:List (Int×Int)) (ha:a.length≤1000000000):zgp a=some (decide (a=relZ a)):=by
 have hFU:=zeo
 unfold zgp
 rw[zbq]
 obtain⟨b,e,hb⟩:=rValidRel_loop a ha a.length 0 FU (by omega) (by omega)
 rw[Int.natCast_zero]at e
 rw[e]
 rw[run_rel]at hb
 cases b with
 |true=>rw[decide_eq_true (hb.1 rfl)]
 |false=>rw[decide_eq_false (λ h=>by have:=hb.2 h;cases this)]
end
noncomputable section
attribute [local irreducible] FU cKeys keyF pKeys relF
def GSZ (l:List Int) (i:Int):Prop:=0≤i/\i≤l.length/\l.length≤9223372036854775807
end
noncomputable section
attribute [local irreducible] FU cKeys keyF pKeys relF
inductive TCr (l:List (Int×Int)):Int->Int->Prop
 |one {x y:Int}:(x,y)∈l->TCr l x y
 |snoc {x y z:Int}:TCr l x y->(y,z)∈l->TCr l x z
theorem cG_mem {l:List (Int×Int)} {x y:Int}:y∈cG l x↔(x,y)∈l:=by
 unfold cG
 rw[List.mem_map]
 constructor
 .rintro ⟨p,hp,rfl⟩
  obtain⟨h1,h2⟩:=List.mem_filter.1 hp
  have h2:=of_decide_eq_true h2
  rw[←h2];exact h1
 .intro h;exact⟨(x,y),List.mem_filter.2 ⟨h,decide_eq_true rfl⟩,rfl⟩
def rest (l:List (Int×Int)) (out:List Int):Nat:=(l.filter (λ p=>decide (p.1∉out))).length
theorem rest_step (l:List (Int×Int)) (out:List Int) (e:Int) (he:e∉out):rest l (out++[e])+(cG l e).length≤rest l out:=by
 unfold rest cG
 rw[List.length_map]
 induction l with
 |nil=>simp
 |cons p l ih=>
  by_cases h1:p.1=e
  .have h2:p.1∉out:=by rw[h1];exact he
   rw[List.filter_cons_of_neg (p:=λ p:Int×Int=>decide (p.1∉out++[e])) (by simp[h1]),List.filter_cons_of_pos (p:=λ p:Int×Int=>decide (p.1=e)) (by simp[h1]),List.filter_cons_of_pos (p:=λ p:Int×Int=>decide (p.1∉out)) (by simpa using h2),List.length_cons,List.length_cons]
   omega
  .rw[List.filter_cons_of_neg (p:=λ p:Int×Int=>decide (p.1=e)) (by simp[h1])]
   by_cases h2:p.1∈out
   .rw[List.filter_cons_of_neg (p:=λ p:Int×Int=>decide (p.1∉out++[e])) (by simp[h2]),List.filter_cons_of_neg (p:=λ p:Int×Int=>decide (p.1∉out)) (by simp[h2])]
    exact ih
   .rw[List.filter_cons_of_pos (p:=λ p:Int×Int=>decide (p.1∉out++[e])) (by simp[h1,h2]),List.filter_cons_of_pos (p:=λ p:Int×Int=>decide (p.1∉out)) (by simp[h2]),List.length_cons,List.length_cons]
    omega
theorem reach_spec (l:List (Int×Int)) (hl:l.length≤1000000000) (k:Int): ∀(n:Nat) (out q:List Int),q.length+rest l out<n->out.length+q.length+rest l out≤2000000000->
  (∀x,x∈out∨x∈q->TCr l k x)->(∀x∈out, ∀y,(x,y)∈l->y∈out∨y∈q)->(∀y,(k,y)∈l->y∈out∨y∈q)->
  ∃r,cReach (cG l) n out q=some r/\ ∀x,x∈r↔TCr l k x
 |0,_,_,h,_,_,_,_=>by omega
 |n+1,out,[],h,_,h1,h2,h3=>⟨out,rfl,λ x=>⟨λ hx=>h1 x (.inl hx),λ hx=>by
   induction hx with
   |one h=>exact(h3 _ h).resolve_right (by simp)
   |snoc _ h ih=>exact(h2 _ ih _ h).resolve_right (by simp)⟩⟩
 |n+1,out,e::q,h,hb,h1,h2,h3=>by
  rw[cReach]
  simp only[List.length_cons]at h hb
  have hk:TCr l k e:=h1 e (.inr List.mem_cons_self)
  by_cases he:e∈out
  .rw[if_pos he]
   refine reach_spec l hl k n out q (by omega) (by omega) (λ x hx=>h1 x (hx.imp id (List.mem_cons_of_mem _))) (λ x hx y hy=> ?_) (λ y hy=> ?_)
   .rcases h2 x hx y hy with h|h
    .exact .inl h
    .rcases List.mem_cons.1 h with h|h
     .rw[h];exact .inl he
     .exact .inr h
   .rcases h3 y hy with h|h
    .exact .inl h
    .rcases List.mem_cons.1 h with h|h
     .rw[h];exact .inl he
     .exact .inr h
  .have hr:=rest_step l out e he
   rw[if_neg he,zah (by omega)]
   refine reach_spec l hl k n (out++[e]) (q++cG l e) (by rw[List.length_append];omega) (by rw[List.length_append,List.length_append];simp only[List.length_cons,List.length_nil];omega) (λ x hx=> ?_) (λ x hx y hy=> ?_) (λ y hy=> ?_)
   .rcases hx with hx|hx
    .rcases List.mem_append.1 hx with hx|hx
     .exact h1 x (.inl hx)
     .rw[List.mem_singleton.1 hx];exact hk
    .rcases List.mem_append.1 hx with hx|hx
     .exact h1 x (.inr (List.mem_cons_of_mem _ hx))
     .exact hk.snoc (cG_mem.1 hx)
   .rcases List.mem_append.1 hx with hx|hx
    .rcases h2 x hx y hy with h|h
     .exact .inl (List.mem_append_left _ h)
     .rcases List.mem_cons.1 h with h|h
      .exact .inl (by rw[h];simp)
      .exact .inr (List.mem_append_left _ h)
    .rw[List.mem_singleton.1 hx]at hy
     exact .inr (List.mem_append_right _ (cG_mem.2 hy))
   .rcases h3 y hy with h|h
    .exact .inl (List.mem_append_left _ h)
    .rcases List.mem_cons.1 h with h|h
     .exact .inl (by rw[h];simp)
     .exact .inr (List.mem_append_left _ h)
theorem cR_spec (l:List (Int×Int)) (hl:l.length≤1000000000) (k:Int): ∃r,cR l k=some r/\ ∀x,x∈r↔TCr l k x:=by
 have hFU:=zeo
 have h1:(cG l k).length≤l.length:=by unfold cG;rw[List.length_map];exact List.length_filter_le _ _
 have h2:rest l []≤l.length:=List.length_filter_le _ _
 exact reach_spec l hl k FU [] (cG l k) (by omega) (by simp only[List.length_nil];omega) (λ x hx=> .one (cG_mem.1 (hx.resolve_left (by simp)))) (λ x hx=>by cases hx) (λ y hy=> .inr (cG_mem.2 hy))
theorem cRd_spec {l:List (Int×Int)} (hl:l.length≤1000000000) {k x:Int}:x∈cRd l k↔TCr l k x:=by
 obtain⟨r,h1,h2⟩:=cR_spec l hl k
 unfold cRd;rw[h1];exact h2 x
theorem TCr.vis {l:List (Int×Int)} (hv: ∀p∈l,cVis p.1/\cVis p.2) {x y:Int} (h:TCr l x y):cVis x/\cVis y:=by
 induction h with
 |one h=>exact hv _ h
 |snoc _ h ih=>exact⟨ih.1,(hv _ h).2⟩
theorem TCr.trans {l:List (Int×Int)} {x y z:Int} (h1:TCr l x y) (h2:TCr l y z):TCr l x z:=by
 induction h2 with
 |one h=>exact h1.snoc h
 |snoc _ h ih=>exact ih.snoc h
theorem TCr.sub {l:List (Int×Int)} {S:Int->Int->Prop} (h0: ∀p∈l,S p.1 p.2) (h1: ∀x y z,S x y->S y z->S x z) {x y:Int} (h:TCr l x y):S x y:=by
 induction h with
 |one h=>exact h0 _ h
 |snoc _ h ih=>exact h1 _ _ _ ih (h0 _ h)
def ordL (l:List (Int×Int)):List (Int×Int):=by
 classical exact relF (λ p=>decide (TCr l p.1 p.2))
theorem ordL_mem {l:List (Int×Int)} (hv: ∀p∈l,cVis p.1/\cVis p.2) {p:Int×Int}:p∈ordL l↔TCr l p.1 p.2:=by
 classical
 unfold ordL
 rw[relF_mem,decide_eq_true_iff]
 exact⟨λ h=>h.2,λ h=>⟨h.vis hv,h⟩⟩
theorem ordL_len (l:List (Int×Int)):(ordL l).length≤1048576:=by unfold ordL;exact relF_len _
def closeL (l:List (Int×Int)):List (Int×Int)×Int:=by
 classical exact if∃p∈l, ¬pVis p then([],1)else if∃k,TCr l k k then([],14)else(ordL l,0)
theorem vClose (l:List (Int×Int)) (hl:l.length≤1000000000):m_close l=some (closeL l):=by
 classical
 unfold m_close closeL
 rw[if_pos (by omega)]
 by_cases hb: ∃p∈l, ¬pVis p
 .rw[if_pos (show∃p∈l, ¬(cVis p.1/\cVis p.2)from hb),if_pos hb]
 .have hv: ∀p∈l,cVis p.1/\cVis p.2:=λ p hp=>Classical.byContradiction λ h=>hb ⟨p,hp,h⟩
  have hmem: ∀p:Int×Int,p∈cP l↔TCr l p.1 p.2:=λ p=>by
   have h:=cQ_mem (l:=l) (ks:=cKeys) (p:=p)
   rw[cKeys_mem,cRd_spec hl]at h
   exact⟨λ hp=>(h.1 hp).2,λ hp=>h.2 ⟨(hp.vis hv).1,hp⟩⟩
  have hnd:(cP l).Nodup:=cQ_nodup l cKeys_nodup
  have hlen:(cP l).length≤1048576:=Nat.le_trans (nodup_leZ hnd (λ p hp=>pKeys_mem.2 (((hmem p).1 hp).vis hv))) pKeys_len
  rw[if_neg (show¬ ∃p∈l, ¬(cVis p.1/\cVis p.2)from hb),if_neg hb,if_pos ⟨λ k=>by obtain⟨r,h1,_⟩:=cR_spec l hl k;rw[h1];rfl,by omega⟩]
  by_cases hc: ∃k,TCr l k k
  .rw[if_pos hc,if_pos (by obtain⟨k,hk⟩:=hc;exact⟨k,(cRd_spec hl).2 hk⟩)]
  .rw[if_neg hc,if_neg (by rintro ⟨k,hk⟩;exact hc ⟨k,(cRd_spec hl).1 hk⟩)]
   congr 2
   unfold ordL
   refine asc_relF ?_ (λ x=> ?_)
   .have hs:(sortC pcmp (cP l)).Nodup:=by unfold sortC;exact(List.mergeSort_perm (cP l) _).nodup_iff.2 hnd
    refine List.Pairwise.imp₂ (λ a b h1 h2=> ?_) (sortP_asc (cP l)) (List.nodup_iff_pairwise_ne.1 hs)
    exact h1.resolve_left h2
   .rw[sortP_mem,hmem,decide_eq_true_iff]
    exact⟨λ h=>⟨h.vis hv,h⟩,λ h=>h.2⟩
def OrdOk (o:List (Int×Int)):Prop:=(∀p∈o,pVis p)/\(¬ ∃k,TCr o k k)/\o=ordL o
def ordB (o:List (Int×Int)):Bool:=by classical exact decide (OrdOk o)
theorem vValidOrder (o:List (Int×Int)) (hl:o.length≤1000000000):zfk o=some (ordB o):=by
 classical
 unfold zfk
 rw[vClose o hl,zaf,zbq]
 unfold closeL ordB
 by_cases hb: ∃p∈o, ¬pVis p
 .rw[if_pos hb,if_neg (by simp),decide_eq_false]
  rintro ⟨h,_⟩
  obtain⟨p,hp,hn⟩:=hb
  exact hn (h p hp)
 .rw[if_neg hb]
  by_cases hc: ∃k,TCr o k k
  .rw[if_pos hc,if_neg (by simp),decide_eq_false]
   exact λ h=>h.2.1 hc
  .rw[if_neg hc,if_pos rfl,sEqualA _ _ (by omega),zaf]
   congr 1
   have hv: ∀p∈o,pVis p:=λ p hp=>Classical.byContradiction λ h=>hb ⟨p,hp,h⟩
   by_cases he:o=ordL o
   .have hok:OrdOk o:=⟨hv,hc,he⟩
    rw[decide_eq_true he,decide_eq_true hok]
   .rw[decide_eq_false he,decide_eq_false (λ h:OrdOk o=>he h.2.2)]
end
noncomputable section
attribute [local irreducible] FU cKeys keyF pKeys relF
end
noncomputable section
attribute [local irreducible] FU cKeys keyF pKeys relF
theorem rStep_mem {R:List (Int×Int)} {p:Int×Int}:p∈rStep R↔ ∃y,(p.1,y)∈R/\(y,p.2)∈R:=by
 unfold rStep rFrom
 rw[List.mem_flatMap]
 constructor
 .rintro ⟨q,hq,hp⟩
  obtain⟨s,hs,rfl⟩:=List.mem_map.1 hp
  obtain⟨h1,h2⟩:=List.mem_filter.1 hs
  have h2:=of_decide_eq_true h2
  exact⟨q.2,hq,by rw[h2];exact h1⟩
 .rintro ⟨y,h1,h2⟩
  exact⟨(p.1,y),h1,List.mem_map.2 ⟨(y,p.2),List.mem_filter.2 ⟨h2,decide_eq_true rfl⟩,rfl⟩⟩
theorem pw_nodup {l:List (Int×Int)} (h:l.Pairwise LtQ):l.Nodup:=by
 rw[List.nodup_iff_pairwise_ne]
 refine h.imp (λ {a b} hab e=> ?_)
 rw[e]at hab
 exact LtQ.irr b hab
theorem relZ_nodup (a:List (Int×Int)):(relZ a).Nodup:=pw_nodup (relZ_asc a)
theorem rFrom_len {R:List (Int×Int)} (hR:R=relZ R) (p:Int×Int):(rFrom R p).length≤1024:=by
 unfold rFrom
 rw[List.length_map]
 have hf:((R.filter (λ q=>decide (p.2=q.1))).map (λ q=>q.2)).Nodup:=by
  rw[List.nodup_iff_pairwise_ne,List.pairwise_map]
  have hn:(R.filter (λ q=>decide (p.2=q.1))).Nodup:=by rw[hR];exact(relZ_nodup R).filter _
  refine(List.nodup_iff_pairwise_ne.1 hn).imp_of_mem (λ {a b} ha hb hab e=>hab ?_)
  have h1:=of_decide_eq_true (List.mem_filter.1 ha).2
  have h2:=of_decide_eq_true (List.mem_filter.1 hb).2
  exact Prod.ext (h1.symm.trans h2) e
 have:=nodup_leZ (m:=cKeys) hf (λ x hx=>by
  obtain⟨q,hq,rfl⟩:=List.mem_map.1 hx
  have:q∈relZ R:=by rw[←hR];exact(List.mem_filter.1 hq).1
  exact cKeys_mem.2 (relZ_mem.1 this).1.2)
 rw[List.length_map,cKeys_len]at this
 exact this
theorem rIter_spec (l:List (Int×Int)): ∀(m n:Nat) (R:List (Int×Int)),R=relZ R->R.length+m=1048576->m<n->(∀x y,TCr R x y↔TCr l x y)-> ∃N,rIter zcu n R=some N/\N=relZ N/\N.length≤1048576/\ ∀x y,(x,y)∈N↔TCr l x y:=by
 intro m
 induction m using Nat.strongRecOn with
 |_ m ih=>
 intro n R hR hl hn htc
 obtain⟨n,rfl⟩: ∃q,n=q+1:=⟨n - 1,by omega⟩
 have hRl:R.length≤1048576:=by omega
 have hsl:(rStep R).length≤1024*R.length:=flat_len_le (λ p _=>rFrom_len hR p)
 have hRv: ∀p∈R,pVis p:=λ p hp=>by rw[hR]at hp;exact(relZ_mem.1 hp).1
 rw[rIter,zah (by rw[List.length_append];omega),rRel _ (by rw[List.length_append];omega),zaf]
 have hN1:=relZ_len (R++rStep R)
 have hsub: ∀p∈R,p∈relZ (R++rStep R):=λ p hp=>relZ_mem.2 ⟨hRv p hp,List.mem_append_left _ hp⟩
 have hstep: ∀p∈rStep R,p∈relZ (R++rStep R):=λ p hp=>by
  obtain⟨y,h1,h2⟩:=rStep_mem.1 hp
  exact relZ_mem.2 ⟨⟨(hRv _ h1).1,(hRv _ h2).2⟩,List.mem_append_right _ hp⟩
 have htc1: ∀x y,TCr (relZ (R++rStep R)) x y↔TCr l x y:=λ x y=>by
  rw[←htc]
  constructor
  .intro h
   refine h.sub (S:=TCr R) (λ p hp=> ?_) (λ a b c h1 h2=>h1.trans h2)
   rcases List.mem_append.1 (relZ_mem.1 hp).2 with hp|hp
   .exact .one hp
   .obtain⟨y,h1,h2⟩:=rStep_mem.1 hp
    exact(TCr.one h1).snoc h2
  .intro h
   exact h.sub (S:=TCr (relZ (R++rStep R))) (λ p hp=> .one (hsub p hp)) (λ a b c h1 h2=>h1.trans h2)
 by_cases hlt:R.length<(relZ (R++rStep R)).length
 .rw[if_pos hlt]
  exact ih (1048576 - (relZ (R++rStep R)).length) (by omega) n _ (relZ_relZ _).symm (by omega) (by omega) htc1
 .rw[if_neg hlt]
  have hRn:R.Nodup:=by rw[hR];exact relZ_nodup R
  have hmem: ∀p,p∈relZ (R++rStep R)↔p∈R:=λ p=>by
   refine⟨λ hp=>Classical.byContradiction λ hn=> ?_,hsub p⟩
   have h1:(p::R).length≤(relZ (R++rStep R)).length:=nodup_leZ (List.nodup_cons.2 ⟨hn,hRn⟩) (λ x hx=>by
    rcases List.mem_cons.1 hx with rfl|hx
    .exact hp
    .exact hsub x hx)
   simp only[List.length_cons]at h1
   omega
  refine⟨_,rfl,(relZ_relZ _).symm,hN1,λ x y=> ?_⟩
  rw[←htc1]
  constructor
  .exact λ h=> .one h
  .intro h
   induction h with
   |one h=>exact h
   |snoc _ h ih=>
    exact hstep _ (rStep_mem.2 ⟨_,(hmem _).1 ih,(hmem _).1 h⟩)
theorem rClose (l:List (Int×Int)) (hl:l.length≤1000000000):m_rclose zcu l=some (closeL l):=by
 classical
 have hFU:=zeo
 unfold m_rclose closeL
 rw[zah (by omega)]
 by_cases hb: ∃p∈l, ¬pVis p
 .rw[if_pos (show∃p∈l, ¬(cVis p.1/\cVis p.2)from hb),if_pos hb]
 .have hv: ∀p∈l,pVis p:=λ p hp=>Classical.byContradiction λ h=>hb ⟨p,hp,h⟩
  rw[if_neg (show¬ ∃p∈l, ¬(cVis p.1/\cVis p.2)from hb),if_neg hb,rRel l (by omega),zaf]
  have hR:=relZ_len l
  obtain⟨N,e,hN,hNl,hNt⟩:=rIter_spec l (1048576 - (relZ l).length) FU (relZ l) (relZ_relZ l).symm (by omega) (by omega) (λ x y=>by
   constructor
   .intro h;exact h.sub (S:=TCr l) (λ p hp=> .one (relZ_mem.1 hp).2) (λ a b c h1 h2=>h1.trans h2)
   .intro h;exact h.sub (S:=TCr (relZ l)) (λ p hp=> .one (relZ_mem.2 ⟨hv p hp,hp⟩)) (λ a b c h1 h2=>h1.trans h2))
  have hNo:N=ordL l:=by
   unfold ordL
   refine asc_relF (by rw[hN];exact relZ_asc N) (λ p=> ?_)
   rw[decide_eq_true_iff, ←hNt]
   constructor
   .intro hp;refine⟨?_,hp⟩;rw[hN]at hp;exact(relZ_mem.1 hp).1
   .exact λ h=>h.2
  rw[e,zaf,zah (by omega)]
  by_cases hc: ∃k,TCr l k k
  .rw[if_pos hc,if_pos]
   obtain⟨k,hk⟩:=hc
   exact⟨(k,k),(hNt k k).2 hk,rfl⟩
  .rw[if_neg hc,if_neg,hNo]
   rintro ⟨p,hp,e⟩
   refine hc ⟨p.1, ?_⟩
   have:=(hNt p.1 p.2).1 hp
   rwa [←e]at this
theorem rGreater (o:List (Int×Int)) (x y:Int) (ho:o.length≤1000000000):m_ref16_greater o x y=some (decide ((x,y)∈o)):=by
 unfold m_ref16_greater
 rw[zbq]
 have h:=loop_all o (by omega) (λ n (_:Unit) i=>zjr o x y (λ _=>some false) n i) (λ u p k=>if decide (p=(x,y))then some true else k u) (λ _=>some false) (λ n u i hi=>by
  rw[zjr,zmd,if_pos (by omega)]
  simp only[zbq]
  rw[zah (by omega),zbv hi,zbl (by omega)]
  by_cases h1:o[i].1=x
  .rw[if_pos h1,zah (by omega)]
   by_cases h2:o[i].2=y
   .rw[decide_eq_true h2,if_pos rfl,if_pos (decide_eq_true (Prod.ext h1 h2))]
   .rw[decide_eq_false h2,if_neg Bool.false_ne_true,if_neg (λ h=>h2 (by rw[of_decide_eq_true h]))]
  .rw[if_neg h1,if_neg Bool.false_ne_true,if_neg (λ h=>h1 (by rw[of_decide_eq_true h]))]) (λ n u=>by rw[zjr,zmd,if_neg (by omega)]) ()
 rw[h,foldK_any (λ p:Int×Int=>decide (p=(x,y)))]
 by_cases hm:(x,y)∈o
 .rw[decide_eq_true hm,if_pos (List.any_eq_true.2 ⟨_,hm,decide_eq_true rfl⟩)]
 .rw[decide_eq_false hm,if_neg]
  intro h
  obtain⟨p,hp,e⟩:=List.any_eq_true.1 h
  exact hm (by rw[←of_decide_eq_true e];exact hp)
def RunO (a:List (Int×Int)) (i:Nat):Prop:= ∀j,i≤j-> ∀h:j<a.length,pVis a[j]/\a[j].1≠a[j].2/\(0<j->LtQ a[j - 1] a[j])
theorem rOrd_loop (a:List (Int×Int)) (ha:a.length≤1000000000) (K:Unit->Option Bool): ∀(m i n:Nat),i+m=a.length->m<n-> ∃b,zgn a K n i=(if b then K ()else some false)/\(b=true↔RunO a i):=by
 intro m
 induction m with
 |zero=>
  intro i n hi hn
  obtain⟨n,rfl⟩: ∃q,n=q+1:=⟨n - 1,by omega⟩
  exact⟨true,by rw[zgn,zir,if_neg (by omega),if_pos rfl],⟨λ _ j h1 h2=>by omega,λ _=>rfl⟩⟩
 |succ m ih=>
  intro i n hi hn
  obtain⟨n,rfl⟩: ∃q,n=q+1:=⟨n - 1,by omega⟩
  have h1:i<a.length:=by omega
  obtain⟨b,e,hb⟩:=ih (i+1) n (by omega) (by omega)
  have hstep:RunO a i↔(pVis a[i]/\a[i].1≠a[i].2/\(0<i->LtQ a[i - 1] a[i]))/\RunO a (i+1):=by
   constructor
   .intro h;exact⟨h i (Nat.le_refl _) h1,λ j hj hl=>h j (by omega) hl⟩
   .rintro ⟨h2,h3⟩ j hj hl
    rcases Nat.eq_or_lt_of_le hj with e|e
    .subst e;exact h2
    .exact h3 j e hl
  have no: ¬(pVis a[i]/\a[i].1≠a[i].2/\(0<i->LtQ a[i - 1] a[i]))-> ∃b,some false=(if b then K ()else some false)/\(b=true↔RunO a i):=λ h=>⟨false,by simp,by
   simp only[Bool.false_eq_true,false_iff];exact λ h'=>h (hstep.1 h').1⟩
  have yes:pVis a[i]/\a[i].1≠a[i].2/\(0<i->LtQ a[i - 1] a[i])-> ∃b',(if b then K ()else some false)=(if b' then K ()else some false)/\(b'=true↔RunO a i):=λ h=>⟨b,rfl,by rw[hb,hstep];exact⟨λ h'=>⟨h,h'⟩,λ h'=>h'.2⟩⟩
  rw[zgn,zir,if_pos (by omega),zah (by omega)]
  simp only[zbq]
  rw[zbv h1,rvisZ,rvisZ,zaf,zbl (by omega),e]
  by_cases hv:cVis a[i].1
  .rw[decide_eq_true hv,if_neg (by simp),zaf]
   by_cases hv2:cVis a[i].2
   .rw[decide_eq_true hv2,if_neg (by simp)]
    by_cases hne:a[i].1=a[i].2
    .rw[if_pos hne,if_pos trivial];exact no (λ h=>h.2.1 hne)
    .rw[if_neg hne]
     by_cases h0:(0:Int)<(i:Int)
     .have g:gi a ((i:Int) - 1)=a[i - 1]:=by
       rw[show(i:Int) - 1=((i - 1:Nat):Int)by omega,zbv (by omega)]
      rw[if_pos h0,i64_sub1 (by omega),zah (by omega),zah (by omega),g,rBefore,zaf]
      by_cases hle:LtQ a[i - 1] a[i]
      .rw[decide_eq_true (show LtQ (a[i - 1].1,a[i - 1].2) (a[i].1,a[i].2)from hle),if_neg (by simp)]
       exact yes ⟨⟨hv,hv2⟩,hne,λ _=>hle⟩
      .rw[decide_eq_false (show¬LtQ (a[i - 1].1,a[i - 1].2) (a[i].1,a[i].2)from hle),if_pos (by simp)]
       exact no (λ h=>hle (h.2.2 (by omega)))
     .rw[if_neg h0,if_neg Bool.false_ne_true]
      exact yes ⟨⟨hv,hv2⟩,hne,λ h=>by omega⟩
   .rw[decide_eq_false hv2,if_pos (by simp),if_pos trivial]
    exact no (λ h=>hv2 h.1.2)
  .rw[decide_eq_false hv,if_pos (by simp),if_pos trivial]
   exact no (λ h=>hv h.1.1)
def trB (o:List (Int×Int)):Bool:= !o.any (λ p=>o.any (λ q=>decide (p.2=q.1) && !decide ((p.1,q.2)∈o)))
theorem trB_iff {o:List (Int×Int)}:trB o=true↔ ∀x y z,(x,y)∈o->(y,z)∈o->(x,z)∈o:=by
 unfold trB
 rw[Bool.not_eq_true', ←Bool.not_eq_true,List.any_eq_true]
 constructor
 .intro h x y z h1 h2
  refine Classical.byContradiction λ hn=>h ⟨(x,y),h1,List.any_eq_true.2 ⟨(y,z),h2, ?_⟩⟩
  rw[decide_eq_true rfl,decide_eq_false hn];rfl
 .rintro h ⟨p,hp,hq⟩
  obtain⟨q,hq,e⟩:=List.any_eq_true.1 hq
  rw[Bool.and_eq_true]at e
  have e1:=of_decide_eq_true e.1
  have e2:(p.1,q.2)∉o:=by simpa using e.2
  exact e2 (h p.1 p.2 q.2 hp (by rw[e1];exact hq))
theorem ord_iff {o:List (Int×Int)}:OrdOk o↔RunO o 0/\ ∀x y z,(x,y)∈o->(y,z)∈o->(x,z)∈o:=by
 classical
 constructor
 .rintro ⟨h1,h2,h3⟩
  have hm: ∀p,p∈o↔TCr o p.1 p.2:=λ p=>by
   have:=ordL_mem (l:=o) h1 (p:=p)
   rwa [←h3]at this
  have hp:o.Pairwise LtQ:=by rw[h3];unfold ordL;exact relF_asc _
  refine⟨λ j _ hj=>⟨h1 _ (List.getElem_mem hj),λ e=> ?_,λ h0=>List.pairwise_iff_getElem.1 hp (j - 1) j (by omega) hj (by omega)⟩,λ x y z a b=> ?_⟩
  .have:=(hm _).1 (List.getElem_mem hj)
   rw[←e]at this
   exact h2 ⟨_,this⟩
  .exact(hm (x,z)).2 (((hm (x,y)).1 a).trans ((hm (y,z)).1 b))
 .rintro ⟨h1,h2⟩
  have hv: ∀p∈o,pVis p:=λ p hp=>by
   obtain⟨j,hj,rfl⟩:=List.getElem_of_mem hp
   exact(h1 j (Nat.zero_le _) hj).1
  have hm: ∀x y,TCr o x y↔(x,y)∈o:=λ x y=>⟨λ h=>h.sub (S:=λ x y=>(x,y)∈o) (λ p hp=>hp) (λ a b c=>h2 a b c), .one⟩
  refine⟨hv, ?_, ?_⟩
  .rintro ⟨k,hk⟩
   rw[hm]at hk
   obtain⟨j,hj,e⟩:=List.getElem_of_mem hk
   exact(h1 j (Nat.zero_le _) hj).2.1 (by rw[e])
  .unfold ordL
   refine asc_relF (steps_pw (lt:=LtQ) (λ h1 h2=>h1.tr h2) (λ j hj h0=>(h1 j (Nat.zero_le _) hj).2.2 h0)) (λ p=> ?_)
   rw[decide_eq_true_iff,hm]
   exact⟨λ h=>⟨hv p h,h⟩,λ h=>h.2⟩
theorem rValidOrder (o:List (Int×Int)) (ho:o.length≤1000000000):zmu o=some (ordB o):=by
 classical
 have hFU:=zeo
 unfold zmu
 rw[zbq]
 obtain⟨b,e,hb⟩:=rOrd_loop o ho (λ _=>jn (λ(_:Unit)=>some true) (λ k165=>zek o k165 FU 0)) o.length 0 FU (by omega) (by omega)
 rw[Int.natCast_zero]at e
 rw[e]
 have inner: ∀(i:Nat) (hi:i<o.length) (K:Unit->Option Bool),zex o i K FU 0=if o.any (λ q=>decide (o[i].2=q.1) && !decide ((o[i].1,q.2)∈o))then some false else K ():=λ i hi K=>by
  have h:=loop_all o (by omega) (λ n (_:Unit) j=>zex o i K n j) (λ u q k=>if decide (o[i].2=q.1) && !decide ((o[i].1,q.2)∈o)then some false else k u) (λ _=>K ()) (λ n u j hj=>by
   rw[zex,zia,if_pos (by omega)]
   simp only[zbq]
   rw[zah (by omega),zah (by omega),zbv hi,zbv hj,zbl (by omega)]
   by_cases h1:o[i].2=o[j].1
   .rw[if_pos h1,zah (by omega),zah (by omega),rGreater o _ _ ho,zaf,decide_eq_true h1,Bool.true_and]
   .rw[if_neg h1,decide_eq_false h1];simp) (λ n u=>by rw[zex,zia,if_neg (by omega)]) ()
  rw[h,foldK_any (λ q:Int×Int=>decide (o[i].2=q.1) && !decide ((o[i].1,q.2)∈o))]
 have outer:jn (λ(_:Unit)=>some true) (λ k165=>zek o k165 FU 0)=some (trB o):=by
  rw[zbq]
  have h:=loop_all o (by omega) (λ n (_:Unit) j=>zek o (λ _=>some true) n j) (λ u p k=>if o.any (λ q=>decide (p.2=q.1) && !decide ((p.1,q.2)∈o))then some false else k u) (λ _=>some true) (λ n u j hj=>by
   rw[zek,zhu,if_pos (by omega),zbq,inner j hj,zbl (by omega)]) (λ n u=>by rw[zek,zhu,if_neg (by omega)]) ()
  rw[h,foldK_any (λ p:Int×Int=>o.any (λ q=>decide (p.2=q.1) && !decide ((p.1,q.2)∈o)))]
  unfold trB
  cases o.any (λ p=>o.any (λ q=>decide (p.2=q.1) && !decide ((p.1,q.2)∈o))) <;>rfl
 unfold ordB
 cases b with
 |true=>
  rw[if_pos rfl]
  refine outer.trans ?_
  congr 1
  by_cases ht:trB o=true
  .have hok:OrdOk o:=ord_iff.2 ⟨hb.1 rfl,trB_iff.1 ht⟩
   rw[ht,decide_eq_true hok]
  .have hno: ¬OrdOk o:=λ h=>ht (trB_iff.2 (ord_iff.1 h).2)
   have ht':trB o=false:=by simpa using ht
   rw[ht',decide_eq_false hno]
 |false=>
  have hno: ¬OrdOk o:=λ h=>by have:=hb.2 (ord_iff.1 h).1;cases this
  rw[if_neg Bool.false_ne_true,decide_eq_false hno]
end
noncomputable section
set_option maxRecDepth 100000
attribute [local irreducible] FU cKeys keyF pKeys relF
def Up (l:List (Int×Int)):Prop:=(∀p∈l,pVis p/\p.1<p.2)/\l.length≤10
theorem Up.tc {l:List (Int×Int)} (h:Up l) {x y:Int} (ht:TCr l x y):x<y:=
 ht.sub (S:=λ x y=>x<y) (λ p hp=>(h.1 p hp).2) (λ a b c h1 h2=>by omega)
theorem Up.ok {l:List (Int×Int)} (h:Up l):closeL l=(ordL l,0)/\(∀p∈l,pVis p)/\OrdOk (ordL l):=by
 classical
 have hv: ∀p∈l,pVis p:=λ p hp=>(h.1 p hp).1
 have hc: ¬ ∃k,TCr l k k:=by rintro ⟨k,hk⟩;have:=h.tc hk;omega
 have hm: ∀p,p∈ordL l↔TCr l p.1 p.2:=λ p=>ordL_mem hv
 refine⟨?_,hv, ?_⟩
 .unfold closeL;rw[if_neg (by rintro ⟨p,hp,hn⟩;exact hn (hv p hp)),if_neg hc]
 .rw[ord_iff]
  have ha:(ordL l).Pairwise LtQ:=by unfold ordL;exact relF_asc _
  refine⟨λ j _ hj=>⟨?_,λ e=> ?_,λ h0=>List.pairwise_iff_getElem.1 ha (j - 1) j (by omega) hj (by omega)⟩,λ x y z h1 h2=> ?_⟩
  .exact((hm _).1 (List.getElem_mem hj)).vis hv
  .have:=h.tc ((hm _).1 (List.getElem_mem hj));omega
  .exact(hm (x,z)).2 (((hm (x,y)).1 h1).trans ((hm (y,z)).1 h2))
theorem Up.snoc {l:List (Int×Int)} (h:Up l) {x y:Int} (hx:2≤x/\x<6) (hy:2≤y/\y<6) (hne:x≠y) (hl:l.length<10):Up (l++[(min x y,max x y)]):=by
 refine⟨λ p hp=> ?_,by rw[List.length_append];simp;omega⟩
 rcases List.mem_append.1 hp with hp|hp
 .exact h.1 p hp
 .rw[List.mem_singleton]at hp
  subst hp
  refine⟨⟨?_, ?_⟩, ?_⟩
  .show 2≤min x y/\min x y<1026;omega
  .show 2≤max x y/\max x y<1026;omega
  .show min x y<max x y;omega
end
end Go.Proofs.YtloigebekdkijaaGreat
