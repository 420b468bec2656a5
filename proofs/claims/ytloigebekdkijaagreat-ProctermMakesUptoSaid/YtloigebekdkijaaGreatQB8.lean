/- Parts, merged. -/
import Derived.Test.YtloigebekdkijaaGreatQB2
import Derived.Test.YtloigebekdkijaaGreatQB4
import Derived.Test.YtloigebekdkijaaGreatQB7
namespace Go.Proofs.YtloigebekdkijaaGreat
open _root_.Go.Proofs.Tryz
noncomputable section
attribute [local irreducible] FU
abbrev Vl:=List UInt8
theorem kind_vd {v:Vl} (h:kindW v≠0):Vd v:=by
 unfold kindW at h
 split at h
 .rename_i hv;exact zdg.1 hv
 .exact absurd rfl h
theorem kind_g0 {v:Vl} (h:kindW v≠0):kindW v=((gi v 0).toNat:Int):=by
 have hv:=kind_vd h
 unfold kindW;rw[if_pos (zdg.2 hv)]
theorem kind_shape {v:Vl} (h:kindW v≠0):(kindW v=1/\ ∃b,b.length=8/\v=1::b)∨(kindW v=2/\ ∃b:UInt8,b.toNat≤1/\v=[2,b])∨(kindW v=10/\ ∃h l,v=[10,h,l])∨(3≤kindW v/\kindW v≤9):=by
 have hk:=kind_g0 h
 obtain⟨hv,_⟩:=kind_vd h
 cases hv with
 |int k b hb=>exact .inl ⟨by rw[hk];rfl,b,hb,rfl⟩
 |bool k b hb=>exact .inr (.inl ⟨by rw[hk];rfl,b,hb,rfl⟩)
 |name k a b=>exact .inr (.inr (.inl ⟨by rw[hk];rfl,a,b,rfl⟩))
 |comp k c a b ps hc hn hp hf=>exact .inr (.inr (.inr (by rw[hk,gi_0];omega)))
def numW (v:Vl):Int:=if kindW v=1 then numV v else if kindW v=2 then((gi v 1).toNat:Int)else if kindW v=10 then(((gi v 1).toNat*256+(gi v 2).toNat:Nat):Int)else 0
theorem vNum (v:Vl):zkb v=some (numW v):=by
 unfold zkb numW
 rw[vKind,zaf]
 by_cases h1:kindW v=1
 .rcases kind_shape (v:=v) (by omega)with⟨_,b,hb,rfl⟩|⟨h,_⟩|⟨h,_⟩|h
  .rw[if_pos h1,if_pos h1,vInteger _ (by simp[hb]),zaf,numV,List.take_of_length_le (by simp[hb])]
  .omega
  .omega
  .omega
 rw[if_neg h1,if_neg h1]
 by_cases h2:kindW v=2
 .rcases kind_shape (v:=v) (by omega)with⟨h,_⟩|⟨_,b,hb,rfl⟩|⟨h,_⟩|h
  .omega
  .rw[if_pos h2,if_pos h2,zak (by simp)]
  .omega
  .omega
 rw[if_neg h2,if_neg h2]
 by_cases h3:kindW v=10
 .rcases kind_shape (v:=v) (by omega)with⟨h,_⟩|⟨h,_⟩|⟨_,a,b,rfl⟩|h
  .omega
  .omega
  .rw[if_pos h3,if_pos h3,zak (by simp),zak (by simp),i64_step]
  .omega
 rw[if_neg h3,if_neg h3]
end
noncomputable section
attribute [local irreducible] FU keyF relF pKeys cKeys
theorem rNum (v:Vl):zid v=some (numW v):=by
 unfold zid numW
 rw[rKind,zaf]
 by_cases h1:kindW v=1
 .rcases kind_shape (v:=v) (by omega)with⟨_,b,hb,rfl⟩|⟨h,_⟩|⟨h,_⟩|h
  .rw[if_pos h1,if_pos h1,zak (by simp[hb]),rNumber _ (by simp[hb]),zaf,numV,List.take_of_length_le (by simp[hb])];rfl
  .omega
  .omega
  .omega
 rw[if_neg h1,if_neg h1]
 by_cases h2:kindW v=2
 .rcases kind_shape (v:=v) (by omega)with⟨h,_⟩|⟨_,b,hb,rfl⟩|⟨h,_⟩|h
  .omega
  .rw[if_pos h2,if_pos h2,zak (by simp)]
  .omega
  .omega
 rw[if_neg h2,if_neg h2]
 by_cases h3:kindW v=10
 .rcases kind_shape (v:=v) (by omega)with⟨h,_⟩|⟨h,_⟩|⟨_,a,b,rfl⟩|h
  .omega
  .omega
  .rw[if_pos h3,if_pos h3,zak (by simp),zak (by simp),i64_step]
  .omega
 rw[if_neg h3,if_neg h3]
theorem vTupleL (l:List (List UInt8)) (hx: ∀x∈l,x.length≤1099511627776):m_value_Tuple l=some (cmpd 3 l):=by
 unfold m_value_Tuple
 have:=vCompound 3 l hx
 rw[show((3:UInt8).toNat:Int)=3 from rfl]at this
 rw[this,zaf]
theorem rNumberedX (c:UInt8) (hc:3≤c.toNat/\c.toNat≤9) (k:Int) (l:List (List UInt8)) (hl:l.length≤1000000000):zii (c.toNat:Int) k l=some (cmpd c (intW k::l)):=by
 unfold zii
 rw[rInt,zaf,zak (by simp;omega),rMake c hc _ (by simp;omega),zaf];rfl
theorem vProcL (k:Int) (l:List (List UInt8)) (hl:l.length≤1000000000) (hx: ∀x∈l,x.length≤1099511627776):m_value_Proc k l=some (cmpd 9 (intW k::l)):=by
 unfold m_value_Proc
 have h1:=vCompound 9 ([intW k]++l) (λ x h=>by
  rcases List.mem_cons.1 h with rfl|h
  .rw[intW_len];omega
  .exact hx x h)
 rw[show((9:UInt8).toNat:Int)=9 from rfl]at h1
 rw[vInt,zaf,zak (by simp;omega),h1,zaf];rfl
theorem kind_intW (k:Int):kindW (intW k)=1:=by
 have hV:Vd (intW k):=⟨(intW_IsV k 0).le (by omega),by rw[intW_len];omega⟩
 unfold kindW;rw[if_pos (zdg.2 hV)];rfl
theorem num_intW {n:Int} (h: -9223372036854775808≤n/\n≤9223372036854775807):numW (intW n)=n:=by
 unfold numW;rw[kind_intW,if_pos rfl,numV_intW h]
def evB (v:Vl):Bool:=decide (kindW v=1) && decide (cVis (numW v))
theorem vEvent (v:Vl):zhj v=some (numW v,evB v):=by
 unfold zhj evB
 rw[vNum,zaf]
 simp only[zbx]
 rw[vKind,zaf]
 by_cases h1:kindW v=1
 .by_cases h2:2≤numW v
  .rw[if_pos h1,if_pos h2,decide_eq_true h1,Bool.true_and]
   congr 2;exact decide_eq_decide.2 ⟨λ h=>⟨h2,h⟩,λ h=>h.2⟩
  .rw[if_pos h1,if_neg h2,decide_eq_false (p:=cVis (numW v)) (λ h=>h2 h.1),Bool.and_false]
 .rw[if_neg h1,decide_eq_false h1,Bool.false_and]
def setOk (v:Vl):Bool:=decide (kindW v=5) && (prtW v).all evB
theorem vEvSet (v:Vl):m_procterm_events v=some (if setOk v=true then((prtW v).map numW,true)else([],false)):=by
 have hFU:=zeu
 have hpl:=(prtW_spec v).2.1
 unfold m_procterm_events setOk
 rw[vKind,zaf]
 by_cases h5:kindW v=5
 .rw[if_neg (λ h=>h h5),decide_eq_true h5,Bool.true_and,zbx,vPartsW,zaf]
  generalize prtW v=y at hpl
  have loop: ∀(m i n:Nat) (out:List Int),i+m=y.length->m<n->out.length+m≤1000000->zhh (λ x=>bnd1 (zfh x) (λ y30=>some (y30,true))) y n out i=some (if(y.drop i).all evB=true then(out++(y.drop i).map numW,true)else([],false)):=by
   intro m
   induction m with
   |zero=>
    intro i n out hi hn ho
    obtain⟨n,rfl⟩: ∃q,n=q+1:=⟨n - 1,by omega⟩
    rw[zhh,zjp,if_neg (by omega),List.drop_eq_nil_of_le (by omega),iClip,zaf];simp
   |succ m ih=>
    intro i n out hi hn ho
    obtain⟨n,rfl⟩: ∃q,n=q+1:=⟨n - 1,by omega⟩
    have hil:i<y.length:=by omega
    rw[zhh,zjp,if_pos (by omega),zak (by omega),zcf hil,vEvent,zaf,List.drop_eq_getElem_cons hil,List.all_cons,List.map_cons]
    dsimp only
    cases evB y[i]with
    |true=>rw[if_neg (by simp),zak (by simp;omega),zbr (by omega),ih (i+1) n _ (by omega) (by omega) (by simp;omega),Bool.true_and,List.append_assoc];rfl
    |false=>rfl
  have:=loop y.length 0 FU [] (by omega) (by omega) (by simp;omega)
  rw[Int.natCast_zero,List.drop_zero,List.nil_append]at this
  exact this
 .rw[if_pos h5,decide_eq_false h5,Bool.false_and];rfl
def clipN (n:Int):Int:=if n< -1∨1073741824<n then -1 else n
theorem clip_vis {n:Int}:cVis (clipN n)↔cVis n:=by
 unfold clipN;split
 .constructor <;>intro h <;>(have:=h.1;have:=h.2;omega)
 .rfl
theorem clip_id {n:Int} (h:cVis n):clipN n=n:=by
 unfold clipN;rw[if_neg];have:=h.1;have:=h.2;omega
def numsW (l:List Vl):List Int×Bool:=if l.all (λ x=>decide (kindW x=1))=true then(l.map (λ x=>clipN (numW x)),true)else([],false)
theorem rNumbers (l:List Vl) (hl:l.length≤1000000000):m_ref16_numbers l=some (numsW l):=by
 have hFU:=zeu
 unfold m_ref16_numbers numsW
 rw[zbx]
 have loop: ∀(m i n:Nat) (out:List Int),i+m=l.length->m<n->out.length+m≤10000000000->zgv l (λ x=>some (x,true)) n out i=some (if(l.drop i).all (λ x=>decide (kindW x=1))=true then(out++(l.drop i).map (λ x=>clipN (numW x)),true)else([],false)):=by
  intro m
  induction m with
  |zero=>
   intro i n out hi hn ho
   obtain⟨n,rfl⟩: ∃q,n=q+1:=⟨n - 1,by omega⟩
   rw[zgv,zlv,if_neg (by omega),List.drop_eq_nil_of_le (by omega)];simp
  |succ m ih=>
   intro i n out hi hn ho
   obtain⟨n,rfl⟩: ∃q,n=q+1:=⟨n - 1,by omega⟩
   have hil:i<l.length:=by omega
   rw[zgv,zlv,if_pos (by omega),zak (by omega),zcf hil,rKind,zaf,List.drop_eq_getElem_cons hil,List.all_cons,List.map_cons]
   by_cases h1:kindW l[i]=1
   .rw[if_neg (λ h=>h h1),zak (by omega),rNum,zaf,decide_eq_true h1,Bool.true_and]
    simp only[zbx]
    have go: ∀z:Int,z=clipN (numW l[i])->need (List.length out+List.length [z]≤137438953472) (zgv l (λ x=>some (x,true)) n (out++[z]) (i64 ((i:Int)+1)))=some (if(l.drop (i+1)).all (λ x=>decide (kindW x=1))=true then(out++clipN (numW l[i])::(l.drop (i+1)).map (λ x=>clipN (numW x)),true)else([],false)):=λ z hz=>by
     rw[zak (by simp;omega),zbr (by omega),ih (i+1) n _ (by omega) (by omega) (by simp;omega),List.append_assoc,hz];rfl
    by_cases h2:numW l[i]< -1
    .rw[if_pos h2,if_pos trivial];exact go _ (by unfold clipN;rw[if_pos (.inl h2)])
    .rw[if_neg h2]
     by_cases h3:1073741824<numW l[i]
     .rw[if_pos (decide_eq_true h3)];exact go _ (by unfold clipN;rw[if_pos (.inr h3)])
     .rw[if_neg (λ h=>h3 (of_decide_eq_true h))];exact go _ (by unfold clipN;rw[if_neg (λ h=>h.elim h2 h3)])
   .rw[if_pos h1,decide_eq_false h1,Bool.false_and,if_neg Bool.false_ne_true]
 have:=loop l.length 0 FU [] (by omega) (by omega) (by simp;omega)
 rw[Int.natCast_zero,List.drop_zero,List.nil_append]at this
 exact this
theorem int_cmp {a b:Vl} (ha:kindW a=1) (hb:kindW b=1):cmpC a b=sgn (numW a) (numW b):=by
 have va:=kind_vd (v:=a) (by omega)
 have vb:=kind_vd (v:=b) (by omega)
 have ga:gi a 0=1:=kind_gi (c:=1) (by rw[ha];rfl) (by decide)
 have gb:gi b 0=1:=kind_gi (c:=1) (by rw[hb];rfl) (by decide)
 rw[cmpC_val va vb]
 unfold cmpW numW
 rw[if_pos ha,if_pos hb,cmpV]
 by_cases e:a=b
 .rw[if_pos e,e];exact((TO_sgn).self _ trivial).symm
 .rw[if_neg e,if_neg (by rw[ga,gb];simp),if_pos ga]
theorem sgn_lt {x y:Int}:sgn x y<0↔x<y:=by
 unfold sgn;split
 .simp;omega
 .split <;>simp <;>omega
theorem set_asc {v:Vl} (h5:kindW v=5) (h1: ∀x∈prtW v,kindW x=1):((prtW v).map numW).Pairwise (λ a b=>a<b):=by
 have hs:=prtW_SLC (v:=v) (decide_eq_true h5)
 generalize prtW v=l at hs h1
 induction l with
 |nil=>simp
 |cons x l ih=>
  rw[SLC,List.pairwise_cons]at hs
  rw[List.map_cons,List.pairwise_cons]
  refine⟨λ y hy=> ?_,ih hs.2 (λ z hz=>h1 z (by simp[hz]))⟩
  obtain⟨z,hz,rfl⟩:=List.mem_map.1 hy
  have:=hs.1 z hz
  rw[int_cmp (h1 x (by simp)) (h1 z (by simp[hz])),sgn_lt]at this
  exact this
theorem setZ_of {l:List Int} (ha:l.Pairwise (λ a b=>a<b)) (hv: ∀x∈l,cVis x):l=setZ l:=asc_keyF ha (λ x=>⟨λ h=>⟨hv x h,decide_eq_true h⟩,λ h=>of_decide_eq_true h.2⟩)
theorem rEventsS (v:Vl): ∃r,m_ref16_events v=some (r,setOk v)/\(setOk v=true->r=(prtW v).map numW):=by
 have hpl:=(prtW_spec v).2.1
 unfold m_ref16_events
 rw[rPartsW,zaf,rNumbers _ (by omega),zaf]
 simp only[zbx]
 unfold numsW
 by_cases hk:(prtW v).all (λ x=>decide (kindW x=1))=true
 .have hk': ∀x∈prtW v,kindW x=1:=λ x hx=>of_decide_eq_true (List.all_eq_true.1 hk x hx)
  rw[if_pos hk]
  dsimp only
  rw[if_pos rfl,rKind,zaf]
  by_cases h5:kindW v=5
  .rw[if_pos h5,rValidSetI _ (by rw[List.length_map];omega),zaf]
   refine⟨(prtW v).map (λ x=>clipN (numW x)), ?_,λ hs=> ?_⟩
   .have:decide ((prtW v).map (λ x=>clipN (numW x))=setZ ((prtW v).map (λ x=>clipN (numW x))))=setOk v:=by
     unfold setOk
     rw[decide_eq_true h5,Bool.true_and,Bool.eq_iff_iff,decide_eq_true_eq,List.all_eq_true]
     constructor
     .intro he x hx
      have hm:clipN (numW x)∈(prtW v).map (λ x=>clipN (numW x)):=List.mem_map_of_mem (f:=λ x=>clipN (numW x)) hx
      rw[he]at hm
      have:=clip_vis.1 (setZ_mem.1 hm).1
      unfold evB;rw[decide_eq_true (hk' x hx),decide_eq_true this];rfl
     .intro hev
      have hvis: ∀x∈prtW v,cVis (numW x):=λ x hx=>by
       have:=hev x hx
       unfold evB at this
       simp only[Bool.and_eq_true]at this
       exact of_decide_eq_true this.2
      have e:(prtW v).map (λ x=>clipN (numW x))=(prtW v).map numW:=List.map_congr_left (λ x hx=>clip_id (hvis x hx))
      rw[e]
      exact setZ_of (set_asc h5 hk') (λ y hy=>by obtain⟨x,hx,rfl⟩:=List.mem_map.1 hy;exact hvis x hx)
    rw[this]
   .refine List.map_congr_left (λ x hx=>clip_id ?_)
    unfold setOk at hs
    simp only[Bool.and_eq_true,List.all_eq_true]at hs
    have:=hs.2 x hx
    unfold evB at this
    simp only[Bool.and_eq_true]at this
    exact of_decide_eq_true this.2
  .have:setOk v=false:=by unfold setOk;rw[decide_eq_false h5,Bool.false_and]
   rw[if_neg h5,this]
   exact⟨_,rfl,λ h=>by cases h⟩
 .have:setOk v=false:=by
   unfold setOk
   rw[Bool.and_eq_false_iff];right
   refine Bool.eq_false_iff.2 (λ hc=>hk (List.all_eq_true.2 (λ x hx=> ?_)))
   have:=List.all_eq_true.1 hc x hx
   unfold evB at this
   simp only[Bool.and_eq_true]at this
   exact this.1
  rw[if_neg hk,this]
  dsimp only
  rw[if_neg Bool.false_ne_true]
  exact⟨_,rfl,λ h=>by cases h⟩
end
noncomputable section
attribute [local irreducible] FU keyF relF pKeys cKeys
theorem raw_inv {c:UInt8} {l:List Vl} (hc:3≤c.toNat/\c.toNat≤9) (hl:l.length≤65535) (hx: ∀x∈l,Vd x) (h:Vd (raw c l)): ∀x∈l,IsV 31 x:=by
 have hp:=prt_raw hc hl hx
 obtain⟨hv,_⟩:=h
 unfold raw at hv hp
 generalize u8i ((l.length / 256:Nat):Int)=a at hv hp
 generalize u8i ((l.length:Nat):Int)=b at hv hp
 generalize hw:c::a::b::l.flatten=w at hv hp
 cases hv with
 |int k q hb=>injection hw with e;subst e;simp at hc
 |bool k q hb=>injection hw with e;subst e;simp at hc
 |name k h l=>injection hw with e;subst e;simp at hc
 |comp k c' h' l' ps hc' hn hps hf=>
  rw[prt_comp hc' hn (λ p hp'=>(hps p hp').sh) (by omega)]at hp
  subst hp
  exact hps
theorem tup_cmp {L L':List Vl} (g1:L.length≤65535) (g2: ∀x∈L,Vd x) (g3:Vd (raw 3 L)) (k1:L'.length≤65535) (k2: ∀x∈L',Vd x) (k3:Vd (raw 3 L')):cmpC (raw 3 L) (raw 3 L')=lexCmp cmpC L L':=by
 have i1:=raw_inv (by decide) g1 g2 g3
 have i2:=raw_inv (by decide) k1 k2 k3
 have hl:lexCmp cmpC L L'=lexCmp (cmpV 31) L L':=lexCmp_congr (λ x hx y hy=>by
  unfold cmpC
  rw[if_pos ⟨zdg.2 (g2 x hx),zdg.2 (k2 y hy)⟩]
  exact(cmpW_eq (i1 x hx).sh (i2 y hy).sh (by omega)).symm)
 rw[hl]
 unfold cmpC
 rw[if_pos ⟨zdg.2 g3,zdg.2 k3⟩]
 show cmpV 32 _ _=_
 rw[cmpV]
 by_cases he:raw 3 L=raw 3 L'
 .have:L=L':=by rw[←prt_raw (c:=3) (by decide) g1 g2,he,prt_raw (by decide) k1 k2]
  subst this
  rw[if_pos rfl]
  exact(((cmpV_TO 31).lex).self L (λ x hx=>(i1 x hx).sh)).symm
 .rw[if_neg he,if_neg (by simp[raw,gi_0]),if_neg (by simp[raw,gi_0]),if_neg (by simp[raw,gi_0])]
  unfold raw
  rw[partsV_eq (raw_count g1) (λ p hp=>(i1 p hp).sh),partsV_eq (raw_count k1) (λ p hp=>(i2 p hp).sh)]
theorem cmp_of {v:Vl} {c:UInt8} (hc:3≤c.toNat/\c.toNat≤9) (h:kindW v=(c.toNat:Int)):v=raw c (prtW v)/\formedB c (prtW v)=true:=by
 have h0:gi v 0=c:=kind_gi h (by rintro rfl;simp at hc)
 have:=(prtW_spec v).2.2.2.2 (by omega) (by omega)
 rw[h0]at this
 exact⟨this.2,this.1⟩
def pairB (x:Vl):Bool:=(decide (kindW x=3) && decide ((prtW x).length=2)) && (evB (gi (prtW x) 0) && evB (gi (prtW x) 1))
def pairOf (x:Vl):Int×Int:=(numW (gi (prtW x) 0),numW (gi (prtW x) 1))
def relOk (v:Vl):Bool:=decide (kindW v=5) && (prtW v).all pairB
theorem vRelation (v:Vl):zfb v=some (if relOk v=true then((prtW v).map pairOf,true)else([],false)):=by
 have hFU:=zeu
 have hpl:=(prtW_spec v).2.1
 unfold zfb relOk
 rw[vKind,zaf]
 by_cases h5:kindW v=5
 .rw[if_neg (λ h=>h h5),decide_eq_true h5,Bool.true_and,zbx,vPartsW,zaf]
  generalize prtW v=y at hpl
  have loop: ∀(m i n:Nat) (out:List (Int×Int)),i+m=y.length->m<n->out.length+m≤1000000->zfr (λ x=>bnd1 (zdj x) (λ y30=>some (y30,true))) y n out i=some (if(y.drop i).all pairB=true then(out++(y.drop i).map pairOf,true)else([],false)):=by
   intro m
   induction m with
   |zero=>
    intro i n out hi hn ho
    obtain⟨n,rfl⟩: ∃q,n=q+1:=⟨n - 1,by omega⟩
    rw[zfr,zhq,if_neg (by omega),List.drop_eq_nil_of_le (by omega),pClip,zaf];simp
   |succ m ih=>
    intro i n out hi hn ho
    obtain⟨n,rfl⟩: ∃q,n=q+1:=⟨n - 1,by omega⟩
    have hil:i<y.length:=by omega
    rw[zfr,zhq,if_pos (by omega),zak (by omega),zcf hil,vPartsW,zaf,List.drop_eq_getElem_cons hil,List.all_cons,List.map_cons]
    simp only[zbx]
    rw[vKind,zaf]
    unfold pairB
    by_cases h3:kindW y[i]=3
    .rw[if_neg (λ h=>h h3),decide_eq_true h3,Bool.true_and]
     by_cases h2:(prtW y[i]).length=2
     .rw[if_neg (by rw[decide_eq_true_eq];omega),decide_eq_true h2,Bool.true_and,zak (by omega),vEvent,zaf,zak (by omega),vEvent,zaf]
      dsimp only
      cases evB (gi (prtW y[i]) 0)with
      |true=>
       rw[if_neg (by simp),Bool.true_and]
       cases evB (gi (prtW y[i]) 1)with
       |true=>rw[if_neg (by simp),zak (by simp;omega),zbr (by omega),ih (i+1) n _ (by omega) (by omega) (by simp;omega),Bool.true_and,List.append_assoc];rfl
       |false=>rfl
      |false=>rfl
     .rw[if_pos (by rw[decide_eq_true_eq];omega),decide_eq_false h2,Bool.false_and,Bool.false_and];rfl
    .rw[if_pos h3,if_pos trivial,decide_eq_false h3,Bool.false_and,Bool.false_and,Bool.false_and];rfl
  have:=loop y.length 0 FU [] (by omega) (by omega) (by simp;omega)
  rw[Int.natCast_zero,List.drop_zero,List.nil_append]at this
  exact this
 .rw[if_pos h5,decide_eq_false h5,Bool.false_and];rfl
def numP (x:Vl):Bool:=decide (kindW x=3) && ((numsW (prtW x)).2 && decide ((numsW (prtW x)).1.length=2))
def clipP (x:Vl):Int×Int:=(gi (numsW (prtW x)).1 0,gi (numsW (prtW x)).1 1)
theorem rPairs_loop (y:List Vl) (hpl:y.length≤65535) (K:List (Int×Int)->Option (List (Int×Int)×Bool)): ∀(m i n:Nat) (out:List (Int×Int)),i+m=y.length->m<n->out.length+m≤1000000->zlc y K n out i=if(y.drop i).all numP=true then K (out++(y.drop i).map clipP)else some ([],false):=by
 intro m
 induction m with
 |zero=>
  intro i n out hi hn ho
  obtain⟨n,rfl⟩: ∃q,n=q+1:=⟨n - 1,by omega⟩
  rw[zlc,m_ref16_pairs_B2,if_neg (by omega),List.drop_eq_nil_of_le (by omega)];simp
 |succ m ih=>
  intro i n out hi hn ho
  obtain⟨n,rfl⟩: ∃q,n=q+1:=⟨n - 1,by omega⟩
  have hil:i<y.length:=by omega
  have hp2:=(prtW_spec y[i]).2.1
  rw[zlc,m_ref16_pairs_B2,if_pos (by omega),zak (by omega),zcf hil,rPartsW,zaf,rNumbers _ (by omega),zaf,List.drop_eq_getElem_cons hil,List.all_cons,List.map_cons]
  simp only[zbx]
  rw[zak (by omega),rKind,zaf]
  unfold numP
  by_cases h3:kindW y[i]=3
  .rw[if_neg (λ h=>h h3),decide_eq_true h3,Bool.true_and]
   cases hb:(numsW (prtW y[i])).2 with
   |true=>
    rw[if_neg (by simp),Bool.true_and]
    by_cases h2:(numsW (prtW y[i])).1.length=2
    .rw[if_neg (by rw[decide_eq_true_eq];omega),decide_eq_true h2,Bool.true_and,zak (by omega),zak (by omega),zak (by simp;omega),zbr (by omega),ih (i+1) n _ (by omega) (by omega) (by simp;omega),List.append_assoc];rfl
    .rw[if_pos (by rw[decide_eq_true_eq];omega),decide_eq_false h2,Bool.false_and];rfl
   |false=>rw[if_pos (by simp),if_pos trivial,Bool.false_and,Bool.false_and,if_neg Bool.false_ne_true]
  .rw[if_pos h3,if_pos trivial,decide_eq_false h3,Bool.false_and,Bool.false_and,if_neg Bool.false_ne_true]
theorem two_list {α:Type} {l:List α} (h:l.length=2): ∃a b,l=[a,b]:=by
 match l,h with
 |[a,b],_=>exact⟨a,b,rfl⟩
theorem pair_get {x:Vl} (h:pairB x=true): ∃a b,prtW x=[a,b]/\kindW x=3/\kindW a=1/\kindW b=1/\cVis (numW a)/\cVis (numW b)/\pairOf x=(numW a,numW b)/\clipP x=(numW a,numW b)/\numP x=true:=by
 unfold pairB at h
 simp only[Bool.and_eq_true,decide_eq_true_eq]at h
 obtain⟨⟨h3,h2⟩,e0,e1⟩:=h
 obtain⟨a,b,hp⟩:=two_list h2
 rw[hp,gi2_0]at e0
 rw[hp,gi2_1]at e1
 unfold evB at e0 e1
 simp only[Bool.and_eq_true,decide_eq_true_eq]at e0 e1
 have hn:numsW [a,b]=([numW a,numW b],true):=by
  unfold numsW
  rw[if_pos (by simp[e0.1,e1.1])]
  simp[clip_id e0.2,clip_id e1.2]
 refine⟨a,b,hp,h3,e0.1,e1.1,e0.2,e1.2, ?_, ?_, ?_⟩
 .unfold pairOf;rw[hp,gi2_0,gi2_1]
 .unfold clipP;rw[hp,hn];rfl
 .unfold numP;rw[hp,hn,decide_eq_true h3];rfl
theorem num_pair {x:Vl} (h:numP x=true) (hv:pVis (clipP x)):pairB x=true:=by
 unfold numP at h
 simp only[Bool.and_eq_true,decide_eq_true_eq]at h
 obtain⟨h3,h2,hl⟩:=h
 unfold clipP at hv
 unfold numsW at h2 hl hv
 by_cases hk:(prtW x).all (λ x=>decide (kindW x=1))=true
 .rw[if_pos hk]at hl hv
  simp only[List.length_map]at hl
  obtain⟨a,b,hp⟩:=two_list hl
  rw[hp]at hk hv
  simp only[List.all_cons,List.all_nil,Bool.and_true,Bool.and_eq_true,decide_eq_true_eq]at hk
  unfold pairB evB
  rw[hp,gi2_0,gi2_1,decide_eq_true h3,decide_eq_true hk.1,decide_eq_true hk.2]
  have v0:cVis (numW a):=clip_vis.1 hv.1
  have v1:cVis (numW b):=clip_vis.1 hv.2
  rw[decide_eq_true v0,decide_eq_true v1];rfl
 .rw[if_neg hk]at h2;simp at h2
theorem pair_cmp {x y:Vl} (hx:pairB x=true) (hy:pairB y=true) (h:cmpC x y<0):LtQ (pairOf x) (pairOf y):=by
 obtain⟨a,b,p1,k1,a1,b1,_,_,q1,_,_⟩:=pair_get hx
 obtain⟨c,d,p2,k2,c1,d1,_,_,q2,_,_⟩:=pair_get hy
 have sx:=prtW_spec x
 have sy:=prtW_spec y
 have r1:=(cmp_of (c:=3) (by decide) (by rw[k1];rfl)).1
 have r2:=(cmp_of (c:=3) (by decide) (by rw[k2];rfl)).1
 have vx:=kind_vd (v:=x) (by omega)
 have vy:=kind_vd (v:=y) (by omega)
 have:=tup_cmp sx.2.1 sx.1 (by rw[←r1];exact vx) sy.2.1 sy.1 (by rw[←r2];exact vy)
 rw[←r1, ←r2,p1,p2]at this
 rw[this]at h
 simp only[lexCmp]at h
 rw[int_cmp a1 c1,int_cmp b1 d1]at h
 rw[q1,q2]
 unfold LtQ
 dsimp only
 split at h
 .exact .inl (sgn_lt.1 h)
 .rename_i h0
  have e0:sgn (numW a) (numW c)=0:=Classical.byContradiction h0
  have:numW a=numW c:=(TO_sgn.eq _ _ trivial trivial).1 e0
  split at h
  .exact .inr ⟨this,sgn_lt.1 h⟩
  .simp at h
theorem pairs_asc {v:Vl} (h5:kindW v=5) (h1: ∀x∈prtW v,pairB x=true):((prtW v).map pairOf).Pairwise LtQ:=by
 have hs:=prtW_SLC (v:=v) (decide_eq_true h5)
 generalize prtW v=l at hs h1
 induction l with
 |nil=>simp
 |cons x l ih=>
  rw[SLC,List.pairwise_cons]at hs
  rw[List.map_cons,List.pairwise_cons]
  refine⟨λ y hy=> ?_,ih hs.2 (λ z hz=>h1 z (by simp[hz]))⟩
  obtain⟨z,hz,rfl⟩:=List.mem_map.1 hy
  exact pair_cmp (h1 x (by simp)) (h1 z (by simp[hz])) (hs.1 z hz)
theorem relZ_of {l:List (Int×Int)} (ha:l.Pairwise LtQ) (hv: ∀x∈l,pVis x):l=relZ l:=asc_relF ha (λ x=>⟨λ h=>⟨hv x h,decide_eq_true h⟩,λ h=>of_decide_eq_true h.2⟩)
theorem rPairsS (v:Vl): ∃r,m_ref16_pairs v=some (r,relOk v)/\(relOk v=true->r=(prtW v).map pairOf):=by
 have hFU:=zeu
 have hpl:=(prtW_spec v).2.1
 unfold m_ref16_pairs
 rw[rKind,zaf]
 by_cases h5:kindW v=5
 .rw[if_neg (λ h=>h h5),rPartsW,zaf,zbx]
  have e:=rPairs_loop (prtW v) hpl (λ c=>bnd1 (zgo c) (λ y227=>some (c,y227))) _ 0 FU [] (Nat.zero_add _) (by omega) (by simp;omega)
  rw[Int.natCast_zero,List.drop_zero,List.nil_append]at e
  rw[e]
  by_cases hk:(prtW v).all numP=true
  .rw[if_pos hk,rValidRel _ (by rw[List.length_map];omega),zaf]
   have hd:decide ((prtW v).map clipP=relZ ((prtW v).map clipP))=relOk v:=by
    unfold relOk
    rw[decide_eq_true h5,Bool.true_and,Bool.eq_iff_iff,decide_eq_true_eq,List.all_eq_true]
    constructor
    .intro he x hx
     have hm:clipP x∈(prtW v).map clipP:=List.mem_map_of_mem hx
     rw[he]at hm
     exact num_pair (List.all_eq_true.1 hk x hx) (relZ_mem.1 hm).1
    .intro hev
     have e2:(prtW v).map clipP=(prtW v).map pairOf:=List.map_congr_left (λ x hx=>by
      obtain⟨a,b,_,_,_,_,_,_,q1,q2,_⟩:=pair_get (hev x hx)
      rw[q1,q2])
     rw[e2]
     exact relZ_of (pairs_asc h5 hev) (λ y hy=>by
      obtain⟨x,hx,rfl⟩:=List.mem_map.1 hy
      obtain⟨a,b,_,_,_,_,v1,v2,q1,_,_⟩:=pair_get (hev x hx)
      rw[q1];exact⟨v1,v2⟩)
   refine⟨(prtW v).map clipP,by rw[hd],λ hs=>List.map_congr_left (λ x hx=> ?_)⟩
   unfold relOk at hs
   simp only[Bool.and_eq_true,List.all_eq_true]at hs
   obtain⟨a,b,_,_,_,_,_,_,q1,q2,_⟩:=pair_get (hs.2 x hx)
   rw[q1,q2]
  .have:relOk v=false:=by
    unfold relOk
    rw[Bool.and_eq_false_iff];right
    refine Bool.eq_false_iff.2 (λ hc=>hk (List.all_eq_true.2 (λ x hx=> ?_)))
    obtain⟨a,b,_,_,_,_,_,_,_,_,q⟩:=pair_get (List.all_eq_true.1 hc x hx)
    exact q
   rw[if_neg hk,this]
   exact⟨_,rfl,λ h=>by cases h⟩
 .have:relOk v=false:=by unfold relOk;rw[decide_eq_false h5,Bool.false_and]
  rw[if_pos h5,this]
  exact⟨_,rfl,λ h=>by cases h⟩
theorem vOrder (l:List (Int×Int)) (hl:l.length≤1000000000):zjg l=some l:=by
 have hFU:=zeu
 unfold zjg
 rw[zbx]
 have loop: ∀(m i n:Nat) (out:List (Int×Int)),i+m=l.length->m<n->out.length+m≤10000000000->zhy l (λ x=>some x) n out i=some (out++l.drop i):=by
  intro m
  induction m with
  |zero=>
   intro i n out hi hn ho
   obtain⟨n,rfl⟩: ∃q,n=q+1:=⟨n - 1,by omega⟩
   rw[zhy,zkk,if_neg (by omega),List.drop_eq_nil_of_le (by omega),List.append_nil]
  |succ m ih=>
   intro i n out hi hn ho
   obtain⟨n,rfl⟩: ∃q,n=q+1:=⟨n - 1,by omega⟩
   have hil:i<l.length:=by omega
   rw[zhy,zkk,if_pos (by omega),zak (by omega),zcf hil,zak (by simp;omega),zbr (by omega),ih (i+1) n _ (by omega) (by omega) (by simp;omega),List.drop_eq_getElem_cons hil,List.append_assoc];rfl
 have:=loop l.length 0 FU [] (by omega) (by omega) (by simp;omega)
 rw[Int.natCast_zero,List.drop_zero,List.nil_append]at this
 exact this
theorem rAbove (l:List (Int×Int)) (hl:l.length≤1000000000):m_ref16_Above l=some l:=by
 have hFU:=zeu
 unfold m_ref16_Above
 rw[zbx]
 have loop: ∀(m i n:Nat) (out:List (Int×Int)),i+m=l.length->m<n->out.length+m≤10000000000->zlg l (λ x=>some x) n out i=some (out++l.drop i):=by
  intro m
  induction m with
  |zero=>
   intro i n out hi hn ho
   obtain⟨n,rfl⟩: ∃q,n=q+1:=⟨n - 1,by omega⟩
   rw[zlg,m_ref16_Above_B2,if_neg (by omega),List.drop_eq_nil_of_le (by omega),List.append_nil]
  |succ m ih=>
   intro i n out hi hn ho
   obtain⟨n,rfl⟩: ∃q,n=q+1:=⟨n - 1,by omega⟩
   have hil:i<l.length:=by omega
   rw[zlg,m_ref16_Above_B2,if_pos (by omega),zak (by omega),zak (by omega),zcf hil,zak (by simp;omega),zbr (by omega),ih (i+1) n _ (by omega) (by omega) (by simp;omega),List.drop_eq_getElem_cons hil,List.append_assoc];rfl
 have:=loop l.length 0 FU [] (by omega) (by omega) (by simp;omega)
 rw[Int.natCast_zero,List.drop_zero,List.nil_append]at this
 exact this
end
noncomputable section
attribute [local irreducible] FU keyF relF pKeys cKeys
abbrev Ofr:=Int×Vl
def cmpO (a b:Ofr):Int:=if sgn a.1 b.1=0 then cmpC a.2 b.2 else sgn a.1 b.1
theorem vCmpO (a b:Ofr):zdh a b=some (cmpO a b):=by
 unfold zdh
 rw[cCmpZ,zaf,vCompareW,zaf,or2Z,zaf];rfl
def prsW:List Vl->List Ofr
 |x::y::t=>(numW x,y)::prsW t
 |_=>[]
def prsChk (sb:Vl->Bool):List Vl->Bool
 |x::y::t=>(evB x && sb y) && prsChk sb t
 |_=>true
def ascO:List Ofr->Bool
 |a::b::t=>decide (cmpO a b<0) && ascO (b::t)
 |_=>true
def offB (sb:Vl->Bool) (l:List Vl):Bool:=(decide (l.length≠0) && decide (l.length % 2=0)) && (prsChk sb l && ascO (prsW l))
theorem i64_two {i:Nat} (h:i<9223372036854775806):i64 ((i:Int)+2)=((i+2:Nat):Int):=by rw[zev (by omega)];omega
theorem oClip (l:List Ofr):zde l=some l:=by
 unfold zde
 first
  |rfl
  |rw[zak (by omega),Int.toNat_natCast,List.take_length]
theorem drop_two {l:List Vl} {i:Nat} (h:i+1<l.length):l.drop i=l[i]::l[i+1]::l.drop (i+2):=by
 rw[List.drop_eq_getElem_cons (by omega:i<l.length),List.drop_eq_getElem_cons h]
theorem vPairUp (l:List Vl) (hl:l.length≤1000000) (he:l.length % 2=0):zhu l=some (prsW l):=by
 have hFU:=zeu
 unfold zhu
 rw[zbx]
 have loop: ∀(m i n:Nat) (out:List Ofr),i+2*m=l.length->m<n->out.length+m≤10000000->zhi l (λ x=>bnd1 (zde x) (λ y33=>some y33)) n out i=some (out++prsW (l.drop i)):=by
  intro m
  induction m with
  |zero=>
   intro i n out hi hn ho
   obtain⟨n,rfl⟩: ∃q,n=q+1:=⟨n - 1,by omega⟩
   rw[zhi,zjs,if_neg (by omega),List.drop_eq_nil_of_le (by omega),oClip,zaf,prsW,List.append_nil]
   intros;simp_all
  |succ m ih=>
   intro i n out hi hn ho
   obtain⟨n,rfl⟩: ∃q,n=q+1:=⟨n - 1,by omega⟩
   have h1:i+1<l.length:=by omega
   rw[zhi,zjs,if_pos (by omega),zak (by omega),zcf (by omega:i<l.length),vNum,zaf,zbr (by omega),i64_two (by omega),zak (by omega),zcf h1,zak (by simp;omega),ih (i+2) n _ (by omega) (by omega) (by simp;omega),drop_two h1,prsW,List.append_assoc];rfl
 have:=loop (l.length / 2) 0 FU [] (by omega) (by omega) (by simp;omega)
 rw[Int.natCast_zero,List.drop_zero,List.nil_append]at this
 exact this
theorem ascO_loop (o:List Ofr) (ho:o.length≤10000000) (K:Unit->Option Bool): ∀(m i n:Nat),i+m=o.length->m<n->1≤i->zfn o K n i=if ascO (o.drop (i - 1))=true then K ()else some false:=by
 intro m
 induction m with
 |zero=>
  intro i n hi hn h1
  obtain⟨n,rfl⟩: ∃q,n=q+1:=⟨n - 1,by omega⟩
  have:ascO (o.drop (i - 1))=true:=by
   rw[List.drop_eq_getElem_cons (by omega:i - 1<o.length),List.drop_eq_nil_of_le (by omega),ascO]
   intros;simp_all
  rw[zfn,zjq,if_neg (by omega),this,if_pos rfl]
 |succ m ih=>
  intro i n hi hn h1
  obtain⟨n,rfl⟩: ∃q,n=q+1:=⟨n - 1,by omega⟩
  have hil:i<o.length:=by omega
  have e1:i64 ((i:Int) - 1)=((i - 1:Nat):Int):=by rw[zev (by omega)];omega
  have e2:o.drop (i - 1)=o[i - 1]::o[i]::o.drop (i+1):=by
   rw[List.drop_eq_getElem_cons (by omega:i - 1<o.length)]
   congr 1
   rw[show i - 1+1=i by omega,List.drop_eq_getElem_cons hil]
  have e3:o.drop (i+1 - 1)=o[i]::o.drop (i+1):=by rw[show i+1 - 1=i by omega,List.drop_eq_getElem_cons hil]
  rw[zfn,zjq,if_pos (by omega),e1,zak (by omega),zak (by omega),zcf (by omega:i - 1<o.length),zcf hil,vCmpO,zaf,e2,ascO,zbr (by omega),ih (i+1) n (by omega) (by omega) (by omega),e3]
  by_cases hc:cmpO o[i - 1] o[i]<0
  .rw[if_neg (by omega),decide_eq_true hc,Bool.true_and]
  .rw[if_pos (by omega),decide_eq_false hc,Bool.false_and];rfl
theorem vOffers (self:Vl->Option Bool) (sb:Vl->Bool) (l:List Vl) (hs: ∀x∈l,self x=some (sb x)) (hl:l.length≤1000000):m_procterm_offers self l=some (offB sb l):=by
 have hFU:=zeu
 unfold m_procterm_offers offB
 rw[zbx]
 by_cases h0:l.length=0
 .rw[if_pos (by omega),decide_eq_false (p:=l.length≠0) (λ h=>h h0),Bool.false_and,Bool.false_and];rfl
 .rw[if_neg (by omega),decide_eq_true (p:=l.length≠0) h0,Bool.true_and]
  dsimp only
  by_cases he:l.length % 2=0
  .rw[if_neg (by rw[decide_eq_true_eq];exact λ h=>h ((tmod2 l.length).2 he)),decide_eq_true he,Bool.true_and,zbx]
   have loop: ∀(K:Unit->Option Bool) (m i n:Nat),i+2*m=l.length->m<n->zhb self l K n i=if prsChk sb (l.drop i)=true then K ()else some false:=by
    intro K m
    induction m with
    |zero=>
     intro i n hi hn
     obtain⟨n,rfl⟩: ∃q,n=q+1:=⟨n - 1,by omega⟩
     have:prsChk sb (l.drop i)=true:=by
      rw[List.drop_eq_nil_of_le (by omega),prsChk]
      intros;simp_all
     rw[zhb,zjm,if_neg (by omega),this,if_pos rfl]
    |succ m ih=>
     intro i n hi hn
     obtain⟨n,rfl⟩: ∃q,n=q+1:=⟨n - 1,by omega⟩
     have h1:i+1<l.length:=by omega
     rw[zhb,zjm,if_pos (by omega),zak (by omega),zcf (by omega:i<l.length),vEvent,zaf,zbx,i64_two (by omega),ih (i+2) n (by omega) (by omega),drop_two h1,prsChk]
     dsimp only
     cases evB l[i]with
     |false=>rfl
     |true=>
      rw[if_neg (by simp),zbr (by omega),zak (by omega),zcf h1,hs _ (List.getElem_mem h1),zaf,Bool.true_and]
      cases sb l[i+1]with
      |false=>rfl
      |true=>rw[if_neg (by simp),Bool.true_and]
   have e1:=loop (λ _=>bnd1 (zhu l) (λ y96=>jn (λ _=>some true) (λ k97=>zfn y96 k97 FU 1))) (l.length / 2) 0 FU (by omega) (by omega)
   rw[Int.natCast_zero,List.drop_zero]at e1
   rw[e1]
   cases prsChk sb l with
   |false=>rfl
   |true=>
    have hlen: ∀(k:Nat) (l:List Vl),l.length=2*k->(prsW l).length=k:=by
     intro k
     induction k with
     |zero=>intro l h;rw[List.eq_nil_of_length_eq_zero (by omega:l.length=0)];rfl
     |succ k ih=>
      intro l h
      match l,h with
      |x::y::t,h=>
       simp only[List.length_cons]at h
       rw[prsW,List.length_cons,ih t (by omega)]
    have hk:=hlen (l.length / 2) l (by omega)
    rw[if_pos rfl,vPairUp l hl he,zaf,zbx,Bool.true_and]
    have e2:=ascO_loop (prsW l) (by omega) (λ _=>some true) ((prsW l).length - 1) 1 FU (by omega) (by omega) (by omega)
    rw[show((1:Nat):Int)=1 from rfl,show 1 - 1=0 from rfl,List.drop_zero]at e2
    rw[e2]
    cases ascO (prsW l) <;>rfl
  .rw[if_pos (by rw[decide_eq_true_eq];exact λ h=>he ((tmod2 l.length).1 h)),decide_eq_false he,Bool.false_and]
theorem rBetween (v:Vl) (a b:Int):zij v a b=some (decide (kindW v=1) && decide (a≤numW v/\numW v≤b)):=by
 unfold zij
 rw[zbx,rKind,zaf]
 by_cases h1:kindW v=1
 .rw[if_pos h1,rNum,zaf,decide_eq_true h1,Bool.true_and]
  by_cases h2:a≤numW v
  .rw[if_pos h2,zaf];congr 1;exact decide_eq_decide.2 ⟨λ h=>⟨h2,h⟩,λ h=>h.2⟩
  .rw[if_neg h2,decide_eq_false (λ h=>h2 h.1)]
 .rw[if_neg h1,decide_eq_false h1,Bool.false_and]
theorem rBetwE (v:Vl):zij v 2 1025=some (evB v):=by
 rw[rBetween];unfold evB;congr 2
 exact decide_eq_decide.2 ⟨λ h=>⟨h.1,by omega⟩,λ h=>⟨h.1,by have:=h.2;omega⟩⟩
theorem int_inj {a b:Vl} (ha:kindW a=1) (hb:kindW b=1) (h:numW a=numW b):a=b:=by
 refine cmpC_eq.1 ?_
 rw[int_cmp ha hb,h]
 exact(TO_sgn).self _ trivial
theorem evB_kind {v:Vl} (h:evB v=true):kindW v=1:=by
 unfold evB at h;simp only[Bool.and_eq_true,decide_eq_true_eq]at h;exact h.1
theorem cmpO_lt {a b x y:Vl} (ha:kindW a=1) (hb:kindW b=1):cmpO (numW a,x) (numW b,y)<0↔ ¬(numW b<numW a∨(a=b/\0≤cmpC x y)):=by
 unfold cmpO
 dsimp only
 by_cases h:numW a=numW b
 .have e:sgn (numW a) (numW b)=0:=(TO_sgn.eq _ _ trivial trivial).2 h
  have:=int_inj ha hb h
  rw[if_pos e]
  constructor
  .rintro h1 (h2|⟨_,h2⟩) <;>omega
  .intro h1
   refine Classical.byContradiction λ h2=>h1 (.inr ⟨this,by omega⟩)
 .have e:sgn (numW a) (numW b)≠0:=λ e=>h ((TO_sgn.eq _ _ trivial trivial).1 e)
  rw[if_neg e,sgn_lt]
  constructor
  .rintro h1 (h2|⟨h2,_⟩)
   .omega
   .rw[h2]at h1;omega
  .intro h1
   refine Classical.byContradiction λ h2=>h1 (.inl (by omega))
theorem rOffered (self:Vl->Option Bool) (sb:Vl->Bool) (l:List Vl) (hs: ∀x∈l,self x=some (sb x)) (hl:l.length≤1000000):m_ref16_offered self l=some (offB sb l):=by
 have hFU:=zeu
 have h2m:(Int.tmod (l.length:Int) 2=1)↔ ¬l.length % 2=0:=by
  have:=tmod_nat l.length 2
  rw[show((2:Nat):Int)=2 from rfl]at this
  rw[this];omega
 unfold m_ref16_offered offB
 rw[zbx]
 by_cases h0:l.length=0
 .rw[if_pos (by omega),decide_eq_false (p:=l.length≠0) (λ h=>h h0),Bool.false_and,Bool.false_and];rfl
 .rw[if_neg (by omega),decide_eq_true (p:=l.length≠0) h0,Bool.true_and]
  dsimp only
  by_cases he:l.length % 2=0
  .rw[if_neg (λ h=>h2m.1 (of_decide_eq_true h) he),decide_eq_true he,Bool.true_and,zbx]
   have loop: ∀(m i n:Nat) (_:i+2*m=l.length),m<n->(∀h:0<i,evB (l[i - 2]'(by omega))=true)->zjd self l (λ _=>some true) n i=some (prsChk sb (l.drop i) && ascO (prsW (l.drop (i - 2)))):=by
    intro m
    induction m with
    |zero=>
     intro i n hi hn hp
     obtain⟨n,rfl⟩: ∃q,n=q+1:=⟨n - 1,by omega⟩
     have t1:prsChk sb (l.drop i)=true:=by
      rw[List.drop_eq_nil_of_le (by omega),prsChk]
      intros;simp_all
     have t2:ascO (prsW (l.drop (i - 2)))=true:=by
      rw[drop_two (by omega),List.drop_eq_nil_of_le (by omega)]
      rfl
     rw[zjd,zlq,if_neg (by omega),t1,t2];rfl
    |succ m ih=>
     intro i n hi hn hp
     obtain⟨n,rfl⟩: ∃q,n=q+1:=⟨n - 1,by omega⟩
     have h1:i+1<l.length:=by omega
     have h1':i<l.length:=by omega
     rw[zjd,zlq,if_pos (by omega),zbx,zak (by omega),zcf h1',rBetwE,zaf,drop_two h1,prsChk,i64_two (by omega)]
     cases hev:evB l[i]with
     |false=>rfl
     |true=>
      rw[if_neg (by simp),zbr (by omega),zak (by omega),zcf h1,hs _ (List.getElem_mem h1),zaf,Bool.true_and]
      cases sb l[i+1]with
      |false=>rfl
      |true=>
       dsimp only
       rw[if_neg (by simp),Bool.true_and]
       have hnext:=ih (i+2) n (by omega) (by omega) (λ _=>by simp only[Nat.add_sub_cancel];exact hev)
       rw[show i+2 - 2=i by omega]at hnext
       rw[zbx]
       by_cases hi0:i=0
       .subst hi0
        rw[if_neg (by omega)]
        dsimp only
        rw[if_neg Bool.false_ne_true,hnext]
       .have e1:i64 ((i:Int) - 2)=((i - 2:Nat):Int):=by rw[zev (by omega)];omega
        have e2:i64 ((i:Int) - 1)=((i - 1:Nat):Int):=by rw[zev (by omega)];omega
        have hpe:=hp (by omega)
        have e3:l.drop (i - 2)=l[i - 2]::l[i - 1]::l.drop i:=by
         have:=drop_two (l:=l) (i:=i - 2) (by omega)
         simp only[show i - 2+1=i - 1 by omega,show i - 2+2=i by omega]at this
         exact this
        have e4:ascO (prsW (l.drop (i - 2)))=(decide (cmpO (numW l[i - 2],l[i - 1]) (numW l[i],l[i+1])<0) && ascO (prsW (l.drop i))):=by
         rw[e3,prsW,drop_two h1,prsW,ascO]
        have hc:=cmpO_lt (x:=l[i - 1]) (y:=l[i+1]) (evB_kind hpe) (evB_kind hev)
        rw[if_pos (by omega),e1,zak (by omega),zcf (by omega:i - 2<l.length),rNum,zaf,zak (by omega),rNum,zaf,e4]
        by_cases c1:numW l[i]<numW l[i - 2]
        .rw[if_pos c1,decide_eq_false (λ h=>hc.1 h (.inl c1)),Bool.false_and,Bool.and_false];rfl
        .rw[if_neg c1,zak (by omega),zak (by omega)]
         by_cases c2:l[i - 2]=l[i]
         .rw[if_pos c2,e2,zak (by omega),zak (by omega),zcf (by omega:i - 1<l.length),rCompareW,zaf]
          dsimp only
          by_cases c3:0≤cmpC l[i - 1] l[i+1]
          .rw[if_pos (decide_eq_true c3),decide_eq_false (λ h=>hc.1 h (.inr ⟨c2,c3⟩)),Bool.false_and,Bool.and_false]
          .rw[if_neg (λ h=>c3 (of_decide_eq_true h)),hnext,decide_eq_true (hc.2 (λ h=>h.elim c1 (λ h=>c3 h.2))),Bool.true_and]
         .rw[if_neg c2]
          dsimp only
          rw[if_neg Bool.false_ne_true,hnext,decide_eq_true (hc.2 (λ h=>h.elim c1 (λ h=>c2 h.1))),Bool.true_and]
   have:=loop (l.length / 2) 0 FU (by omega) (by omega) (λ h=>by omega)
   rw[Int.natCast_zero,List.drop_zero]at this
   exact this
  .rw[if_pos (decide_eq_true (h2m.2 he)),decide_eq_false he,Bool.false_and]
end
noncomputable section
attribute [local irreducible] FU keyF relF pKeys cKeys
def fm (op:Int):List UInt8:=
 if op=7∨op=8∨op=9∨op=10∨op=11 then[112,112]else if op=12∨op=13∨op=16 then[112,115,112]else if op=17 then[112,115,115,112]else if op=20 then[112,114,112]else if op=14 then[112,115]else if op=15∨op=18 then[112,114]else if op=19 then[112]else[]
theorem op_cases (op:Int):op=7∨op=8∨op=9∨op=10∨op=11∨op=12∨op=13∨op=14∨op=15∨op=16∨op=17∨op=18∨op=19∨op=20∨(¬op=7/\ ¬op=8/\ ¬op=9/\ ¬op=10/\ ¬op=11/\ ¬op=12/\ ¬op=13/\ ¬op=14/\ ¬op=15/\ ¬op=16/\ ¬op=17/\ ¬op=18/\ ¬op=19/\ ¬op=20):=by omega
theorem vForm (op:Int):zig op=some (fm op):=by
 rcases op_cases op with h|h|h|h|h|h|h|h|h|h|h|h|h|h|⟨h1,h2,h3,h4,h5,h6,h7,h8,h9,h10,h11,h12,h13,h14⟩
 all_goals first
  |(subst h;unfold zig fm;simp[zbx])
  |(unfold zig fm;simp[zbx,h1,h2,h3,h4,h5,h6,h7,h8,h9,h10,h11,h12,h13,h14])
theorem rLayout (op:Int):zjy op=some ((fm op).map (λ c=>c - 32)):=by
 rcases op_cases op with h|h|h|h|h|h|h|h|h|h|h|h|h|h|⟨h1,h2,h3,h4,h5,h6,h7,h8,h9,h10,h11,h12,h13,h14⟩
 all_goals first
  |(subst h;unfold zjy fm;simp[zbx])
  |(unfold zjy fm;simp[zbx,h1,h2,h3,h4,h5,h6,h7,h8,h9,h10,h11,h12,h13,h14])
theorem fm_all (op:Int):(fm op).all (λ c=>c ==112 ||(c ==115 ||c ==114))=true:=by
 unfold fm
 repeat' split
 all_goals rfl
theorem fm_mem {op:Int} {c:UInt8} (h:c∈fm op):c=112∨c=115∨c=114:=by
 have:=List.all_eq_true.1 (fm_all op) c h
 simpa using this
def numB (v:Vl) (m:Int):Bool:=decide (kindW v=1) && decide (0≤numW v/\numW v≤m)
theorem vNumber (v:Vl) (m:Int):zkg v m=some (numB v m):=by
 unfold zkg numB
 rw[vNum,zaf,zbx,vKind,zaf]
 by_cases h1:kindW v=1
 .rw[if_pos h1,decide_eq_true h1,Bool.true_and]
  by_cases h2:0≤numW v
  .rw[if_pos h2];congr 1;exact decide_eq_decide.2 ⟨λ h=>⟨h2,h⟩,λ h=>h.2⟩
  .rw[if_neg h2,decide_eq_false (λ h=>h2 h.1)]
 .rw[if_neg h1,decide_eq_false h1,Bool.false_and]
def relL (x:Vl):List (Int×Int):=(prtW x).map pairOf
def partB0 (sb:Vl->Bool) (c:UInt8) (x:Vl):Bool:=if c=112 then sb x else if c=115 then setOk x else if c=114 then relOk x else false
def partsB0 (sb:Vl->Bool):List UInt8->List Vl->Bool
 |c::cs,x::xs=>partB0 sb c x && partsB0 sb cs xs
 |_,_=>true
def partB (sb:Vl->Bool) (op:Int) (c:UInt8) (x:Vl):Bool:=if c=112 then sb x else if c=115 then setOk x else if c=114 then relOk x && (decide (¬op=18) ||ordB (relL x))else false
def partsB (sb:Vl->Bool) (op:Int):List UInt8->List Vl->Bool
 |c::cs,x::xs=>partB sb op c x && partsB sb op cs xs
 |_,_=>true
theorem parts_same (sb:Vl->Bool) {op:Int} (h: ¬op=18): ∀(cs:List UInt8) (xs:List Vl),partsB sb op cs xs=partsB0 sb cs xs
 |[],_=>by simp[partsB,partsB0]
 |_::_,[]=>by simp[partsB,partsB0]
 |c::cs,x::xs=>by
  rw[partsB,partsB0,parts_same sb h cs xs]
  congr 1
  unfold partB partB0
  rw[decide_eq_true h,Bool.true_or,Bool.and_true]
def tbody (sb:Vl->Bool) (op:Int) (l:List Vl):Bool:=
 if op=1∨op=2∨op=3∨op=4 then decide (l.length=0)else if op=5 then decide (1≤l.length) && (decide (l.length≤33) && numB (gi l 0) 65535)else if op=6 then offB sb l else if op=21 then decide (l.length=1) && numB (gi l 0) 11 else decide (l.length=(fm op).length) && partsB sb op (fm op) l
def tb (sb:Vl->Bool) (v:Vl):Bool:=if kindW v=9 then tbody sb (numW (gi (prtW v) 0)) ((prtW v).drop 1)else false
theorem proc_parts {v:Vl} (h:kindW v=9):1≤(prtW v).length/\(prtW v).length≤65535/\1≤numW (gi (prtW v) 0)/\numW (gi (prtW v) 0)≤21:=by
 have hs:=prtW_spec v
 have hf:=(cmp_of (c:=9) (by decide) (by rw[h];rfl)).2
 have:formedB 9 (prtW v)=(decide (1≤(prtW v).length) && betB (gi (prtW v) 0) 1 21):=by simp[formedB]
 rw[this]at hf
 simp only[Bool.and_eq_true,decide_eq_true_eq]at hf
 obtain⟨h1,h2⟩:=hf
 refine⟨h1,hs.2.1, ?_⟩
 have hl:(0:Nat)<(prtW v).length:=by omega
 have hm:=hs.1 _ (List.getElem_mem hl)
 have e:gi (prtW v) 0=(prtW v)[0]:=by have:=zcf (xs:=prtW v) hl;rwa [Int.natCast_zero]at this
 unfold betB at h2
 simp only[Bool.and_eq_true,decide_eq_true_eq,beq_iff_eq]at h2
 have hk:kindW (gi (prtW v) 0)=1:=by
  unfold kindW;rw[e,if_pos (zdg.2 hm), ←e,h2.1];rfl
 unfold numW
 rw[if_pos hk]
 exact h2.2
theorem jn_sw {ρ:Type} (op:Int) (k:Bool->ρ):jn k (λ k15=>if op=1 then(k15 (decide (op=1)))else(if op=2 then(k15 (decide (op=2)))else(if op=3 then(k15 (decide (op=3)))else(k15 (decide (op=4))))))=k (decide (op=1∨op=2∨op=3∨op=4)):=by
 rw[zbx]
 by_cases h1:op=1
 .rw[if_pos h1,decide_eq_true h1,decide_eq_true (.inl h1)]
 .rw[if_neg h1]
  by_cases h2:op=2
  .rw[if_pos h2,decide_eq_true h2,decide_eq_true (.inr (.inl h2))]
  .rw[if_neg h2]
   by_cases h3:op=3
   .rw[if_pos h3,decide_eq_true h3,decide_eq_true (.inr (.inr (.inl h3)))]
   .rw[if_neg h3]
    congr 1
    exact decide_eq_decide.2 ⟨λ h=> .inr (.inr (.inr h)),λ h=>h.elim (λ h=>absurd h h1) (λ h=>h.elim (λ h=>absurd h h2) (λ h=>h.elim (λ h=>absurd h h3) id))⟩
theorem vPart (self:Vl->Option Bool) (sb:Vl->Bool) (c:UInt8) (x:Vl) (hs:self x=some (sb x)):m_procterm_part self c x=some (partB0 sb c x):=by
 unfold m_procterm_part partB0
 rw[zbx]
 by_cases h1:c=112
 .rw[if_pos h1,if_pos h1,hs,zaf]
 .rw[if_neg h1,if_neg h1]
  by_cases h2:c=115
  .rw[if_pos h2,if_pos h2,vEvSet,zaf]
   cases setOk x <;>rfl
  .rw[if_neg h2,if_neg h2]
   by_cases h3:c=114
   .rw[if_pos h3,if_pos h3,vRelation,zaf]
    cases relOk x <;>rfl
   .rw[if_neg h3,if_neg h3]
theorem vParts_loop (self:Vl->Option Bool) (sb:Vl->Bool) (y1:Int×List Vl) (f:List UInt8) (hlen:y1.2.length=f.length) (h8:f.length≤1000) (hs: ∀x∈y1.2,self x=some (sb x)) (K:Unit->Option Bool): ∀(m i n:Nat),i+m=y1.2.length->m<n->zix self y1 f K n i=if partsB0 sb (f.drop i) (y1.2.drop i)=true then K ()else some false:=by
 intro m
 induction m with
 |zero=>
  intro i n hi hn
  obtain⟨n,rfl⟩: ∃q,n=q+1:=⟨n - 1,by omega⟩
  have:partsB0 sb (f.drop i) (y1.2.drop i)=true:=by
   rw[List.drop_eq_nil_of_le (show y1.2.length≤i by omega)]
   cases f.drop i <;>rfl
  rw[zix,zlt,if_neg (by omega),this,if_pos rfl]
 |succ m ih=>
  intro i n hi hn
  obtain⟨n,rfl⟩: ∃q,n=q+1:=⟨n - 1,by omega⟩
  have hil:i<y1.2.length:=by omega
  have hfl:i<f.length:=by omega
  rw[zix,zlt,if_pos (by omega),zak (by omega),zak (by omega),zcf hfl,zcf hil,vPart self sb _ _ (hs _ (List.getElem_mem hil)),zaf,List.drop_eq_getElem_cons hfl,List.drop_eq_getElem_cons hil,partsB0,zbr (by omega),ih (i+1) n (by omega) (by omega)]
  cases partB0 sb f[i] y1.2[i]with
  |true=>rw[if_neg (by simp),Bool.true_and]
  |false=>rfl
theorem fm_len (op:Int):(fm op).length≤4:=by
 unfold fm
 repeat' split
 all_goals simp
theorem relL_len (x:Vl):(relL x).length≤65535:=by unfold relL;rw[List.length_map];exact(prtW_spec x).2.1
theorem vTermF (self:Vl->Option Bool) (sb:Vl->Bool) (v:Vl) (hs: ∀x∈prtW v,self x=some (sb x)):zhv self v=some (tb sb v):=by
 have hFU:=zeu
 unfold zhv zfe tb
 rw[vKind,zaf]
 by_cases h9:kindW v=9
 .obtain⟨p1,p2,p3,p4⟩:=proc_parts h9
  rw[if_neg (λ h=>h h9),if_pos h9,vPartsW,zaf,zak (by omega),vNum,zaf,zak (by omega),zaf]
  dsimp only
  rw[show Int.toNat 1=1 from rfl]
  have hsl: ∀x∈(prtW v).drop 1,self x=some (sb x):=λ x hx=>hs x (List.mem_of_mem_drop hx)
  have hll:((prtW v).drop 1).length≤65535:=by rw[List.length_drop];omega
  generalize hop:numW (gi (prtW v) 0)=op at p3 p4
  generalize hL:(prtW v).drop 1=l at hsl hll
  rw[if_neg (by omega),jn_sw]
  unfold tbody
  by_cases c1:op=1∨op=2∨op=3∨op=4
  .rw[if_pos (decide_eq_true c1),if_pos c1];congr 1;exact decide_eq_decide.2 ⟨λ h=>by omega,λ h=>by omega⟩
  .rw[if_neg (λ h=>c1 (of_decide_eq_true h)),if_neg c1]
   by_cases c5:op=5
   .rw[if_pos c5,if_pos c5,zbx]
    by_cases d1:1≤l.length
    .rw[if_pos (by omega),decide_eq_true d1,Bool.true_and]
     by_cases d2:l.length≤33
     .rw[if_pos (by omega),zak (by omega),vNumber,zaf,decide_eq_true d2,Bool.true_and]
     .rw[if_neg (by omega),decide_eq_false d2,Bool.false_and]
    .rw[if_neg (by omega),decide_eq_false d1,Bool.false_and]
   .rw[if_neg c5,if_neg c5]
    by_cases c6:op=6
    .rw[if_pos c6,if_pos c6,vOffers self sb l hsl (by omega),zaf]
    .rw[if_neg c6,if_neg c6]
     by_cases c21:op=21
     .rw[if_pos c21,if_pos c21,zbx]
      by_cases d1:l.length=1
      .rw[if_pos (by omega),zak (by omega),vNumber,zaf,decide_eq_true d1,Bool.true_and]
      .rw[if_neg (by omega),decide_eq_false d1,Bool.false_and]
     .rw[if_neg c21,if_neg c21,vForm,zaf]
      have hf4:=fm_len op
      by_cases d1:l.length=(fm op).length
      .rw[if_neg (by omega),decide_eq_true d1,Bool.true_and,zbx]
       have e:=vParts_loop self sb (op,l) (fm op) d1 (by omega) hsl (λ _=>if¬op=18 then some true else need ((0:Int)≤1/\1<(l.length:Int)) (bnd1 (zfb (gi l 1)) (λ y49=>bnd1 (zjg y49.1) (λ y50=>bnd1 (zen y50) (λ y51=>some y51))))) l.length 0 FU (Nat.zero_add _) (by omega)
       rw[Int.natCast_zero,List.drop_zero,List.drop_zero]at e
       refine e.trans ?_
       by_cases d18:op=18
       .subst d18
        have hfm:fm 18=[112,114]:=by simp[fm]
        rw[hfm]at d1
        obtain⟨p,r,rfl⟩:=two_list d1
        have hln:((prtW r).map pairOf).length≤65535:=relL_len r
        have hK:need ((0:Int)≤1/\1<(([p,r]:List Vl).length:Int)) (bnd1 (zfb (gi [p,r] 1)) (λ y49=>bnd1 (zjg y49.1) (λ y50=>bnd1 (zen y50) (λ y51=>some y51))))=some (ordB (if relOk r=true then relL r else[])):=by
         rw[zak (by simp),gi2_1,vRelation,zaf]
         cases relOk r with
         |true=>
          rw[if_pos rfl,if_pos rfl]
          dsimp only
          rw[vOrder _ (by omega),zaf,vValidOrder _ (by omega),zaf];rfl
         |false=>rw[if_neg Bool.false_ne_true,if_neg Bool.false_ne_true,vOrder _ (by simp),zaf,vValidOrder _ (by simp),zaf]
        have b0:partsB0 sb (fm 18) [p,r]=(sb p && relOk r):=by rw[hfm];simp[partsB0,partB0]
        have b1:partsB sb 18 (fm 18) [p,r]=(sb p && (relOk r && ordB (relL r))):=by rw[hfm];simp[partsB,partB]
        rw[if_neg (show¬ ¬(18:Int)=18 by simp),hK]
        show(if partsB0 sb (fm 18) [p,r]=true then _ else _)=_
        rw[b0,b1]
        cases sb p with
        |false=>rfl
        |true=>
         cases relOk r with
         |false=>rfl
         |true=>rfl
       .rw[parts_same sb d18,if_pos d18]
        cases partsB0 sb (fm op) l <;>rfl
      .rw[if_pos (by omega),decide_eq_false d1,Bool.false_and]
 .rw[if_pos h9,zaf,if_neg h9,if_pos rfl]
theorem fm32 {c:UInt8} (h:c=112∨c=115∨c=114):(c - 32=80↔c=112)/\(c - 32=83↔c=115):=by
 rcases h with rfl|rfl|rfl <;>decide
theorem rParts_loop (self:Vl->Option Bool) (sb:Vl->Bool) (y1 l:List Vl) (hl:y1.drop 1=l) (op:Int) (f:List UInt8) (hf: ∀c∈f,c=112∨c=115∨c=114) (hlen:l.length=f.length) (h8:f.length≤1000) (hs: ∀x∈l,self x=some (sb x)) (K:Unit->Option Bool): ∀(m i n:Nat),i+m=l.length->m<n->zkx self y1 op (f.map (λ c=>c - 32)) K n i=if partsB sb op (f.drop i) (l.drop i)=true then K ()else some false:=by
 have e1:List.drop (Int.toNat 1) y1=l:=hl
 intro m
 induction m with
 |zero=>
  intro i n hi hn
  obtain⟨n,rfl⟩: ∃q,n=q+1:=⟨n - 1,by omega⟩
  have:partsB sb op (f.drop i) (l.drop i)=true:=by
   rw[List.drop_eq_nil_of_le (show l.length≤i by omega)]
   cases f.drop i <;>rfl
  rw[zkx,m_ref16_term_B2,e1,if_neg (by omega),this,if_pos rfl]
 |succ m ih=>
  intro i n hi hn
  obtain⟨n,rfl⟩: ∃q,n=q+1:=⟨n - 1,by omega⟩
  have hil:i<l.length:=by omega
  have hfl:i<f.length:=by omega
  have hml:i<(f.map (λ c=>c - 32)).length:=by rw[List.length_map];exact hfl
  obtain⟨q1,q2⟩:=fm32 (hf _ (List.getElem_mem hfl))
  have go: ∀b:Bool,b=partB sb op f[i] l[i]->(if(!b)=true then some false else zkx self y1 op (f.map (λ c=>c - 32)) K n (i64 ((i:Int)+1)))=if(partB sb op f[i] l[i] && partsB sb op (f.drop (i+1)) (l.drop (i+1)))=true then K ()else some false:=λ b hb=>by
   rw[←hb,zbr (by omega),ih (i+1) n (by omega) (by omega)]
   cases b with
   |true=>rw[if_neg (by simp),Bool.true_and]
   |false=>rfl
  rw[zkx,m_ref16_term_B2,e1,if_pos (by omega),zbx,zak (by omega),zcf hml,List.getElem_map,List.drop_eq_getElem_cons hfl,List.drop_eq_getElem_cons hil,partsB,zak (by omega),zcf hil,hs _ (List.getElem_mem hil),zaf,zak (by omega),zak (by omega)]
  by_cases h1:f[i]=112
  .rw[if_pos (q1.2 h1)]
   exact go _ (by unfold partB;rw[if_pos h1])
  .rw[if_neg (λ h=>h1 (q1.1 h))]
   by_cases h2:f[i]=115
   .obtain⟨r,er,_⟩:=rEventsS l[i]
    rw[if_pos (q2.2 h2),er,zaf]
    exact go _ (by unfold partB;rw[if_neg h1,if_pos h2])
   .have h3:f[i]=114:=by rcases hf _ (List.getElem_mem hfl)with h|h|h;exact absurd h h1;exact absurd h h2;exact h
    obtain⟨r,er,hr⟩:=rPairsS l[i]
    have hpb:partB sb op f[i] l[i]=(relOk l[i] && (decide (¬op=18) ||ordB (relL l[i]))):=by unfold partB;rw[if_neg h1,if_neg h2,if_pos h3]
    rw[if_neg (λ h=>h2 (q2.1 h)),er,zaf]
    dsimp only
    cases hro:relOk l[i]with
    |false=>
     rw[if_neg Bool.false_ne_true]
     exact go _ (by rw[hpb,hro,Bool.false_and])
    |true=>
     rw[if_pos rfl]
     by_cases h18:op=18
     .have hln:=relL_len l[i]
      have hrr:r=relL l[i]:=hr hro
      rw[if_neg (λ h=>h h18),hrr,rAbove _ (by omega),zaf,rValidOrder _ (by omega),zaf]
      exact go _ (by rw[hpb,hro,decide_eq_false (λ h=>h h18),Bool.true_and,Bool.false_or])
     .rw[if_pos h18]
      exact go _ (by rw[hpb,hro,decide_eq_true h18];rfl)
theorem rTermF (self:Vl->Option Bool) (sb:Vl->Bool) (v:Vl) (hs: ∀x∈prtW v,self x=some (sb x)):zmi self v=some (tb sb v):=by
 have hFU:=zeu
 unfold zmi tb
 rw[rPartsW,zaf,rKind,zaf]
 by_cases h9:kindW v=9
 .obtain⟨p1,p2,p3,p4⟩:=proc_parts h9
  rw[if_neg (λ h=>h h9),if_pos h9,zak (by omega),rNum,zaf,zak (by omega)]
  have hsl: ∀x∈(prtW v).drop 1,self x=some (sb x):=λ x hx=>hs x (List.mem_of_mem_drop hx)
  have hll:((prtW v).drop 1).length≤65535:=by rw[List.length_drop];omega
  generalize hop:numW (gi (prtW v) 0)=op at p3 p4
  have hL:List.drop (Int.toNat 1) (prtW v)=(prtW v).drop 1:=rfl
  rw[hL,jn_sw]
  generalize hl:(prtW v).drop 1=l at hsl hll
  unfold tbody
  by_cases c1:op=1∨op=2∨op=3∨op=4
  .rw[if_pos (decide_eq_true c1),if_pos c1];congr 1;exact decide_eq_decide.2 ⟨λ h=>by omega,λ h=>by omega⟩
  .rw[if_neg (λ h=>c1 (of_decide_eq_true h)),if_neg c1]
   by_cases c5:op=5
   .rw[if_pos c5,if_pos c5,zbx]
    by_cases d1:1≤l.length
    .rw[if_pos (by omega),decide_eq_true d1,Bool.true_and]
     by_cases d2:l.length≤33
     .rw[if_pos (by omega),zak (by omega),rBetween,zaf,decide_eq_true d2,Bool.true_and];rfl
     .rw[if_neg (by omega),decide_eq_false d2,Bool.false_and]
    .rw[if_neg (by omega),decide_eq_false d1,Bool.false_and]
   .rw[if_neg c5,if_neg c5]
    by_cases c21:op=21
    .rw[if_pos c21,if_neg (by omega),if_pos c21,zbx]
     by_cases d1:l.length=1
     .rw[if_pos (by omega),zak (by omega),rBetween,zaf,decide_eq_true d1,Bool.true_and];rfl
     .rw[if_neg (by omega),decide_eq_false d1,Bool.false_and]
    .rw[if_neg c21]
     by_cases c6:op=6
     .rw[if_pos c6,if_pos c6,rOffered self sb l hsl (by omega),zaf]
     .rw[if_neg c6,if_neg c6,if_neg c21,rLayout,zaf,List.length_map]
      have hf4:=fm_len op
      by_cases d1:l.length=(fm op).length
      .rw[if_neg (by omega),decide_eq_true d1,Bool.true_and,zbx]
       have e:=rParts_loop self sb (prtW v) l hl op (fm op) (λ c hc=>fm_mem hc) d1 (by omega) hsl (λ _=>some true) l.length 0 FU (Nat.zero_add _) (by omega)
       rw[Int.natCast_zero,List.drop_zero,List.drop_zero]at e
       refine e.trans ?_
       cases partsB sb op (fm op) l <;>rfl
      .rw[if_pos (by omega),decide_eq_false d1,Bool.false_and]
 .rw[if_pos h9,if_neg h9]
def tw:Nat->Vl->Bool
 |0,_=>false
 |n+1,v=>tb (tw n) v
theorem isv_parts {v:Vl} {k:Nat} (hk40:k≤40) (h9:kindW v=9) (hv:IsV k v):1≤k/\ ∀x∈prtW v,IsV (k - 1) x:=by
 have hV:=kind_vd (v:=v) (by omega)
 have hk:=kind_g0 (v:=v) (by omega)
 have hpp:prtW v=prt v:=by unfold prtW;rw[if_pos (zdg.2 hV)]
 rw[hpp]
 cases hv with
 |int k b hb=>simp[gi_0]at hk;omega
 |bool k b hb=>simp[gi_0]at hk;omega
 |name k a b=>simp[gi_0]at hk;omega
 |comp k c x y ps hc hn hp hf=>
  rw[prt_comp hc hn (λ p hp'=>(hp p hp').sh) (by omega)]
  exact⟨by omega,λ z hz=>hp z hz⟩
theorem both_term: ∀(k:Nat),k≤32-> ∀v,(kindW v=9->IsV k v)-> ∀n,k<n->zgd n v=some (tw (k+1) v)/\zjx n v=some (tw (k+1) v):=by
 intro k
 induction k with
 |zero=>
  intro _ v hv n hn
  obtain⟨n,rfl⟩: ∃q,n=q+1:=⟨n - 1,by omega⟩
  have h9: ¬kindW v=9:=λ h=>by have:=(isv_parts (by omega) h (hv h)).1;omega
  rw[zgd,zjx,tw]
  have hp:tb (tw 0) v=false:=by unfold tb;rw[if_neg h9]
  rw[hp]
  constructor
  .unfold zhv zfe
   rw[vKind,zaf,if_pos h9,zaf,if_pos rfl]
  .unfold zmi
   rw[rPartsW,zaf,rKind,zaf,if_pos h9]
 |succ k ih=>
  intro hk v hv n hn
  obtain⟨n,rfl⟩: ∃q,n=q+1:=⟨n - 1,by omega⟩
  by_cases h9:kindW v=9
  .have hp:=(isv_parts (by omega) h9 (hv h9)).2
   rw[zgd,zjx,tw]
   exact⟨vTermF _ _ v (λ x hx=>(ih (by omega) x (λ _=>hp x hx) n (by omega)).1),rTermF _ _ v (λ x hx=>(ih (by omega) x (λ _=>hp x hx) n (by omega)).2)⟩
  .rw[zgd,zjx,tw]
   have hp:tb (tw (k+1)) v=false:=by unfold tb;rw[if_neg h9]
   rw[hp]
   constructor
   .unfold zhv zfe
    rw[vKind,zaf,if_pos h9,zaf,if_pos rfl]
   .unfold zmi
    rw[rPartsW,zaf,rKind,zaf,if_pos h9]
def tmB (v:Vl):Bool:=tw 33 v
theorem vTerm (v:Vl):m_procterm_term v=some (tmB v):=by
 have hFU:=zeu
 exact(both_term 32 (by omega) v (λ h=>(kind_vd (v:=v) (by omega)).1) FU (by omega)).1
theorem rTerm (v:Vl):m_ref16_term v=some (tmB v):=by
 have hFU:=zeu
 exact(both_term 32 (by omega) v (λ h=>(kind_vd (v:=v) (by omega)).1) FU (by omega)).2
theorem tmB_kind {v:Vl} (h:tmB v=true):kindW v=9:=by
 unfold tmB at h
 rw[tw,tb]at h
 split at h
 .assumption
 .cases h
theorem rValid16 (v:Vl):m_ref16_Valid v=some (tmB v):=by
 unfold m_ref16_Valid
 rw[zbx,rValid,zaf]
 cases hv:vldB v with
 |true=>rw[if_pos rfl,rTerm,zaf]
 |false=>
  rw[if_neg Bool.false_ne_true]
  congr 1
  cases h:tmB v with
  |false=>rfl
  |true=>
   have:=kind_vd (v:=v) (by rw[tmB_kind h];omega)
   rw[zdg.2 this]at hv;cases hv
def mkT (op:Int) (l:List Vl):Vl:=if tmB (cmpd 9 (intW op::l))=true then cmpd 9 (intW op::l)else[]
theorem vMade (op:Int) (l:List Vl) (hl:l.length≤1000000000) (hx: ∀x∈l,x.length≤1099511627776):zcn op l=some (mkT op l):=by
 unfold zcn mkT
 rw[vProcL op l hl hx,zaf,vTerm,zaf]
 cases tmB (cmpd 9 (intW op::l)) <;>rfl
theorem rMakeT (op:Int) (l:List Vl) (hl:l.length≤1000000000):zbm op l=some (mkT op l):=by
 unfold zbm mkT
 have:=rNumberedX 9 (by decide) op l hl
 rw[show((9:UInt8).toNat:Int)=9 from rfl]at this
 rw[this,zaf,rValid16,zaf]
 cases tmB (cmpd 9 (intW op::l)) <;>rfl
theorem mkT_ne {op:Int} (h64: -9223372036854775808≤op/\op≤9223372036854775807) {l:List Vl} (h:mkT op l≠[]):mkT op l=cmpd 9 (intW op::l)/\(∀x∈l,Vd x)/\prtW (mkT op l)=intW op::l/\tbody (tw 32) op l=true/\tmB (mkT op l)=true/\kindW (mkT op l)=9:=by
 unfold mkT at h⊢
 by_cases ht:tmB (cmpd 9 (intW op::l))=true
 .rw[if_pos ht]at h⊢
  obtain⟨c1,c2,c3⟩:=cmpd_ne.1 h
  have hp:prtW (cmpd 9 (intW op::l))=intW op::l:=by
   rw[cmpd_yes ⟨c1,c2,c3⟩]
   unfold prtW;rw[if_pos (zdg.2 c3)]
   exact prt_raw (by decide) c1 c2
  have hk:=tmB_kind ht
  refine⟨rfl,λ x hx=>c2 x (by simp[hx]),hp, ?_,ht,hk⟩
  have ht':=ht
  unfold tmB at ht'
  rw[tw,tb,if_pos hk,hp,show gi (intW op::l) 0=intW op from rfl,num_intW h64]at ht'
  exact ht'
 .rw[if_neg ht]at h;exact absurd rfl h
end
noncomputable section
attribute [local irreducible] FU keyF relF pKeys cKeys
def R64 (x:Int):Prop:= -9223372036854775808≤x/\x≤9223372036854775807
def sRaw (l:List Int):Vl:=setW (l.map intW)
def sVal (l:List Int):Vl:=if l.all (λ x=>decide (cVis x))=true then sRaw l else[]
def tupW (p:Int×Int):Vl:=cmpd 3 [intW p.1,intW p.2]
def pRaw (l:List (Int×Int)):Vl:=setW (l.map tupW)
def pVal (l:List (Int×Int)):Vl:=if l.all (λ x=>decide (pVis x))=true then pRaw l else[]
theorem tup_ok (p:Int×Int):tupW p=raw 3 [intW p.1,intW p.2]/\IsV 2 (tupW p)/\prtW (tupW p)=[intW p.1,intW p.2]/\kindW (tupW p)=3/\Vd (tupW p)/\(tupW p).length=21:=by
 obtain⟨q1,q2,q3,q4,q5⟩:=comp_ok (c:=3) (by decide) (k:=1) (by omega) (l:=[intW p.1,intW p.2]) (λ x hx=>by
  simp at hx;rcases hx with rfl|rfl
  .exact intW_IsV _ 0
  .exact intW_IsV _ 0) (by simp) (by simp[intW_len]) (by simp[formedB])
 have e:tupW p=raw 3 [intW p.1,intW p.2]:=q1
 rw[e]
 exact⟨rfl,q2,q3,q4,q5,by rw[raw_len];simp[intW_len]⟩
theorem vSetT (l:List Int) (hl:l.length≤10000000):zke l=some (sRaw l):=by
 have hFU:=zeu
 unfold zke sRaw
 rw[zbx]
 have loop: ∀(K:List Vl->Option Vl) (m i n:Nat) (out:List Vl),i+m=l.length->m<n->out.length+m≤100000000->zki l K n out i=K (out++(l.drop i).map intW):=by
  intro K m
  induction m with
  |zero=>
   intro i n out hi hn ho
   obtain⟨n,rfl⟩: ∃q,n=q+1:=⟨n - 1,by omega⟩
   rw[zki,m_procterm_set_B2,if_neg (by omega),List.drop_eq_nil_of_le (by omega)];simp
  |succ m ih=>
   intro i n out hi hn ho
   obtain⟨n,rfl⟩: ∃q,n=q+1:=⟨n - 1,by omega⟩
   have hil:i<l.length:=by omega
   rw[zki,m_procterm_set_B2,if_pos (by omega),zak (by omega),zcf hil,vInt,zaf,zak (by simp;omega),zbr (by omega),ih (i+1) n _ (by omega) (by omega) (by simp;omega),List.drop_eq_getElem_cons hil,List.map_cons,List.append_assoc];rfl
 have e:=loop (λ x=>bnd1 (m_value_Set x) (λ y27=>some y27)) l.length 0 FU [] (by omega) (by omega) (by simp;omega)
 rw[Int.natCast_zero,List.drop_zero,List.nil_append]at e
 rw[e,vSet _ (by rw[List.length_map];omega) (λ x hx=>by obtain⟨y,_,rfl⟩:=List.mem_map.1 hx;rw[intW_len];omega),zaf]
theorem vTuples (l:List (Int×Int)) (hl:l.length≤10000000):zgf l=some (pRaw l):=by
 have hFU:=zeu
 unfold zgf pRaw
 rw[zbx]
 have loop: ∀(K:List Vl->Option Vl) (m i n:Nat) (out:List Vl),i+m=l.length->m<n->out.length+m≤100000000->zhd l K n out i=K (out++(l.drop i).map tupW):=by
  intro K m
  induction m with
  |zero=>
   intro i n out hi hn ho
   obtain⟨n,rfl⟩: ∃q,n=q+1:=⟨n - 1,by omega⟩
   rw[zhd,zjk,if_neg (by omega),List.drop_eq_nil_of_le (by omega)];simp
  |succ m ih=>
   intro i n out hi hn ho
   obtain⟨n,rfl⟩: ∃q,n=q+1:=⟨n - 1,by omega⟩
   have hil:i<l.length:=by omega
   rw[zhd,zjk,if_pos (by omega),zak (by omega),zcf hil,vInt,zaf,vInt,zaf,vTupleL _ (λ x hx=>by simp at hx;rcases hx with rfl|rfl <;>(rw[intW_len];omega)),zaf,zak (by simp;omega),zbr (by omega),ih (i+1) n _ (by omega) (by omega) (by simp;omega),List.drop_eq_getElem_cons hil,List.map_cons,List.append_assoc];rfl
 have e:=loop (λ x=>bnd1 (m_value_Set x) (λ y27=>some y27)) l.length 0 FU [] (by omega) (by omega) (by simp;omega)
 rw[Int.natCast_zero,List.drop_zero,List.nil_append]at e
 rw[e,vSet _ (by rw[List.length_map];omega) (λ x hx=>by obtain⟨y,_,rfl⟩:=List.mem_map.1 hx;rw[(tup_ok y).2.2.2.2.2];omega),zaf]
theorem rSetVal (l:List Int) (hl:l.length≤1000000000):zer l=some (sVal l):=by
 have hFU:=zeu
 unfold zer
 rw[rSetI l hl,zaf,zbx]
 have loop1: ∀(K:Unit->Option Vl) (m i n:Nat),i+m=l.length->m<n->zic l K n i=if(l.drop i).all (λ x=>decide (cVis x))=true then K ()else some []:=by
  intro K m
  induction m with
  |zero=>
   intro i n hi hn
   obtain⟨n,rfl⟩: ∃q,n=q+1:=⟨n - 1,by omega⟩
   rw[zic,zku,if_neg (by omega),List.drop_eq_nil_of_le (by omega)];rfl
  |succ m ih=>
   intro i n hi hn
   obtain⟨n,rfl⟩: ∃q,n=q+1:=⟨n - 1,by omega⟩
   have hil:i<l.length:=by omega
   rw[zic,zku,if_pos (by omega),zak (by omega),zcf hil,rvisZ,zaf,List.drop_eq_getElem_cons hil,List.all_cons,zbr (by omega),ih (i+1) n (by omega) (by omega)]
   cases decide (cVis l[i])with
   |true=>rw[if_neg (by simp),Bool.true_and]
   |false=>rfl
 have hz:=setZ_len l
 have loop2: ∀(K:List Vl->Option Vl) (m i n:Nat) (out:List Vl),i+m=(setZ l).length->m<n->out.length+m≤100000000->zfx (setZ l) K n out i=K (out++((setZ l).drop i).map intW):=by
  intro K m
  induction m with
  |zero=>
   intro i n out hi hn ho
   obtain⟨n,rfl⟩: ∃q,n=q+1:=⟨n - 1,by omega⟩
   rw[zfx,zky,if_neg (by omega),List.drop_eq_nil_of_le (by omega)];simp
  |succ m ih=>
   intro i n out hi hn ho
   obtain⟨n,rfl⟩: ∃q,n=q+1:=⟨n - 1,by omega⟩
   have hil:i<(setZ l).length:=by omega
   rw[zfx,zky,if_pos (by omega),zak (by omega),zcf hil,rInt,zaf,zak (by simp;omega),zbr (by omega),ih (i+1) n _ (by omega) (by omega) (by simp;omega),List.drop_eq_getElem_cons hil,List.map_cons,List.append_assoc];rfl
 have e1:=loop1 (λ _=>jn (λ(a:List (List UInt8))=>bnd1 (m_ref9_Set a) (λ y42=>some y42)) (λ k16=>zfx (setZ l) k16 FU [] 0)) l.length 0 FU (by omega) (by omega)
 rw[Int.natCast_zero,List.drop_zero]at e1
 rw[e1]
 unfold sVal
 by_cases ha:l.all (λ x=>decide (cVis x))=true
 .rw[if_pos ha,if_pos ha,zbx]
  have e2:=loop2 (λ x=>bnd1 (m_ref9_Set x) (λ y42=>some y42)) (setZ l).length 0 FU [] (by omega) (by omega) (by simp;omega)
  rw[Int.natCast_zero,List.drop_zero,List.nil_append]at e2
  rw[e2,rSet _ (by rw[List.length_map];omega),zaf]
  congr 1
  unfold sRaw
  refine setW_congr (λ x=> ?_)
  simp only[List.mem_map,setZ_mem]
  exact⟨λ⟨y,hy,e⟩=>⟨y,hy.2,e⟩,λ⟨y,hy,e⟩=>⟨y,⟨of_decide_eq_true (List.all_eq_true.1 ha y hy),hy⟩,e⟩⟩
 .rw[if_neg ha,if_neg ha]
theorem rPairsVal (l:List (Int×Int)) (hl:l.length≤1000000000):zdt l=some (pVal l):=by
 have hFU:=zeu
 unfold zdt
 rw[zbx]
 have loop1: ∀(K:Unit->Option Vl) (m i n:Nat),i+m=l.length->m<n->zge l K n i=if(l.drop i).all (λ x=>decide (pVis x))=true then K ()else some []:=by
  intro K m
  induction m with
  |zero=>
   intro i n hi hn
   obtain⟨n,rfl⟩: ∃q,n=q+1:=⟨n - 1,by omega⟩
   rw[zge,zie,if_neg (by omega),List.drop_eq_nil_of_le (by omega)];rfl
  |succ m ih=>
   intro i n hi hn
   obtain⟨n,rfl⟩: ∃q,n=q+1:=⟨n - 1,by omega⟩
   have hil:i<l.length:=by omega
   rw[zge,zie,if_pos (by omega),zbx,zak (by omega),zcf hil,rvisZ,zaf,List.drop_eq_getElem_cons hil,List.all_cons,zbr (by omega),ih (i+1) n (by omega) (by omega)]
   by_cases v0:cVis (l[i]).1
   .rw[if_neg (by simp[decide_eq_true v0]),zak (by omega),rvisZ,zaf]
    dsimp only
    by_cases v1:cVis (l[i]).2
    .rw[decide_eq_true v1,if_neg (by simp),decide_eq_true (p:=pVis l[i]) ⟨v0,v1⟩,Bool.true_and]
    .rw[decide_eq_false v1,if_pos (by simp),decide_eq_false (p:=pVis l[i]) (λ h=>v1 h.2),Bool.false_and,if_neg Bool.false_ne_true]
   .rw[if_pos (by simp[decide_eq_false v0]),decide_eq_false (p:=pVis l[i]) (λ h=>v0 h.1),Bool.false_and];rfl
 have hz:=relZ_len l
 have loop2: ∀(K:List Vl->Option Vl) (m i n:Nat) (out:List Vl),i+m=(relZ l).length->m<n->out.length+m≤100000000->zfc (relZ l) K n out i=K (out++((relZ l).drop i).map tupW):=by
  intro K m
  induction m with
  |zero=>
   intro i n out hi hn ho
   obtain⟨n,rfl⟩: ∃q,n=q+1:=⟨n - 1,by omega⟩
   rw[zfc,zis,if_neg (by omega),List.drop_eq_nil_of_le (by omega)];simp
  |succ m ih=>
   intro i n out hi hn ho
   obtain⟨n,rfl⟩: ∃q,n=q+1:=⟨n - 1,by omega⟩
   have hil:i<(relZ l).length:=by omega
   have hmk:=rMake 3 (by decide) [intW ((relZ l)[i]).1,intW ((relZ l)[i]).2] (by simp)
   rw[show((3:UInt8).toNat:Int)=3 from rfl]at hmk
   rw[zfc,zis,if_pos (by omega),zak (by omega),zcf hil,rInt,zaf,zak (by omega),rInt,zaf,hmk,zaf,zak (by simp;omega),zbr (by omega),ih (i+1) n _ (by omega) (by omega) (by simp;omega),List.drop_eq_getElem_cons hil,List.map_cons,List.append_assoc];rfl
 have e1:=loop1 (λ _=>bnd1 (zcy l) (λ y117=>jn (λ(a:List (List UInt8))=>bnd1 (m_ref9_Set a) (λ y162=>some y162)) (λ k118=>zfc y117 k118 FU [] 0))) l.length 0 FU (by omega) (by omega)
 rw[Int.natCast_zero,List.drop_zero]at e1
 rw[e1]
 unfold pVal
 by_cases ha:l.all (λ x=>decide (pVis x))=true
 .rw[if_pos ha,if_pos ha,rRel _ (by omega),zaf,zbx]
  have e2:=loop2 (λ x=>bnd1 (m_ref9_Set x) (λ y42=>some y42)) (relZ l).length 0 FU [] (by omega) (by omega) (by simp;omega)
  rw[Int.natCast_zero,List.drop_zero,List.nil_append]at e2
  rw[e2,rSet _ (by rw[List.length_map];omega),zaf]
  congr 1
  unfold pRaw
  refine setW_congr (λ x=> ?_)
  simp only[List.mem_map,relZ_mem]
  exact⟨λ⟨y,hy,e⟩=>⟨y,hy.2,e⟩,λ⟨y,hy,e⟩=>⟨y,⟨of_decide_eq_true (List.all_eq_true.1 ha y hy),hy⟩,e⟩⟩
 .rw[if_neg ha,if_neg ha]
theorem setW_prt {l:List Vl} (h:setW l≠[]):prtW (setW l)=sortW l:=by
 obtain⟨c1,c2,c3⟩:=cmpd_ne.1 h
 rw[show setW l=raw 5 (sortW l)from cmpd_yes ⟨c1,c2,c3⟩]
 unfold prtW
 rw[if_pos (zdg.2 c3)]
 exact prt_raw (by decide) c1 c2
theorem kind_nil:kindW []=0:=by unfold kindW;rw[vldB_no (λ hv=>hv.ne rfl)];rfl
theorem set_bad {l:List Int} (hr: ∀x∈l,R64 x) (h: ¬l.all (λ x=>decide (cVis x))=true):setOk (sRaw l)=false:=by
 unfold setOk
 by_cases hn:sRaw l=[]
 .rw[hn,kind_nil];rfl
 .rw[Bool.and_eq_false_iff];right
  refine Bool.eq_false_iff.2 (λ hc=>h (List.all_eq_true.2 (λ x hx=>decide_eq_true ?_)))
  have hm:intW x∈prtW (sRaw l):=by
   unfold sRaw at hn⊢
   rw[setW_prt hn,(zfg _).2.1]
   exact List.mem_map_of_mem hx
  have:=List.all_eq_true.1 hc _ hm
  unfold evB at this
  simp only[Bool.and_eq_true,decide_eq_true_eq]at this
  rw[num_intW (hr x hx)]at this
  exact this.2
theorem rel_bad {l:List (Int×Int)} (hr: ∀x∈l,R64 x.1/\R64 x.2) (h: ¬l.all (λ x=>decide (pVis x))=true):relOk (pRaw l)=false:=by
 unfold relOk
 by_cases hn:pRaw l=[]
 .rw[hn,kind_nil];rfl
 .rw[Bool.and_eq_false_iff];right
  refine Bool.eq_false_iff.2 (λ hc=>h (List.all_eq_true.2 (λ x hx=>decide_eq_true ?_)))
  have hm:tupW x∈prtW (pRaw l):=by
   unfold pRaw at hn⊢
   rw[setW_prt hn,(zfg _).2.1]
   exact List.mem_map_of_mem hx
  obtain⟨a,b,hp,_,_,_,v0,v1,_,_,_⟩:=pair_get (List.all_eq_true.1 hc _ hm)
  rw[(tup_ok x).2.2.1]at hp
  injection hp with e1 hp
  injection hp with e2 _
  rw[←e1,num_intW (hr x hx).1]at v0
  rw[←e2,num_intW (hr x hx).2]at v1
  exact⟨v0,v1⟩
theorem tbody_fm {sb:Vl->Bool} {op:Int} (hf:fm op≠[]) (l:List Vl):tbody sb op l=(decide (l.length=(fm op).length) && partsB sb op (fm op) l)/\7≤op/\op≤20:=by
 have h720:7≤op/\op≤20:=by
  rcases op_cases op with h|h|h|h|h|h|h|h|h|h|h|h|h|h|⟨h1,h2,h3,h4,h5,h6,h7,h8,h9,h10,h11,h12,h13,h14⟩
  all_goals first
   |omega
   |(exfalso;apply hf;unfold fm;simp[h1,h2,h3,h4,h5,h6,h7,h8,h9,h10,h11,h12,h13,h14])
 refine⟨?_,h720⟩
 unfold tbody
 rw[if_neg (by omega),if_neg (by omega),if_neg (by omega),if_neg (by omega)]
theorem mk_parts {op:Int} (hf:fm op≠[]) {l:List Vl} (h:mkT op l≠[]):partsB (tw 32) op (fm op) l=true:=by
 have h7:=(tbody_fm (sb:=tw 32) hf l).2
 have:=(mkT_ne (op:=op) (by omega) h).2.2.2.1
 rw[(tbody_fm hf l).1,Bool.and_eq_true]at this
 exact this.2
theorem mk_vd {op:Int} {l:List Vl} {x:Vl} (hx:x∈l) (hn: ¬Vd x):mkT op l=[]:=by
 unfold mkT
 have:cmpd 9 (intW op::l)=[]:=cmpd_no (λ h=>hn (h.2.1 x (by simp[hx])))
 rw[this];simp
theorem nVd: ¬Vd ([]:Vl):=λ h=>h.ne rfl
theorem mk_psp {op:Int} (hf:fm op=[112,115,112]) {a:List Int} (hr: ∀x∈a,R64 x) (p q:Vl):mkT op [p,sRaw a,q]=mkT op [p,sVal a,q]:=by
 unfold sVal
 by_cases h:a.all (λ x=>decide (cVis x))=true
 .rw[if_pos h]
 .rw[if_neg h]
  refine Eq.trans ?_ (mk_vd (x:=[]) (by simp) nVd).symm
  refine Classical.byContradiction λ hc=> ?_
  have:=mk_parts (by rw[hf];simp) hc
  rw[hf]at this
  simp[partsB,partB,set_bad hr h]at this
theorem mk_pssp {a b:List Int} (hr: ∀x∈a,R64 x) (hs: ∀x∈b,R64 x) (p q:Vl):mkT 17 [p,sRaw a,sRaw b,q]=mkT 17 [p,sVal a,sVal b,q]:=by
 have hf:fm 17=[112,115,115,112]:=by simp[fm]
 unfold sVal
 by_cases h:a.all (λ x=>decide (cVis x))=true
 .rw[if_pos h]
  by_cases h':b.all (λ x=>decide (cVis x))=true
  .rw[if_pos h']
  .rw[if_neg h']
   refine Eq.trans ?_ (mk_vd (x:=[]) (by simp) nVd).symm
   refine Classical.byContradiction λ hc=> ?_
   have:=mk_parts (by rw[hf];simp) hc
   rw[hf]at this
   simp[partsB,partB,set_bad hs h']at this
 .rw[if_neg h]
  refine Eq.trans ?_ (mk_vd (x:=[]) (by simp) nVd).symm
  refine Classical.byContradiction λ hc=> ?_
  have:=mk_parts (by rw[hf];simp) hc
  rw[hf]at this
  simp[partsB,partB,set_bad hr h]at this
theorem mk_ps {a:List Int} (hr: ∀x∈a,R64 x) (p:Vl):mkT 14 [p,sRaw a]=mkT 14 [p,sVal a]:=by
 have hf:fm 14=[112,115]:=by simp[fm]
 unfold sVal
 by_cases h:a.all (λ x=>decide (cVis x))=true
 .rw[if_pos h]
 .rw[if_neg h]
  refine Eq.trans ?_ (mk_vd (x:=[]) (by simp) nVd).symm
  refine Classical.byContradiction λ hc=> ?_
  have:=mk_parts (by rw[hf];simp) hc
  rw[hf]at this
  simp[partsB,partB,set_bad hr h]at this
theorem mk_prp {a:List (Int×Int)} (hr: ∀x∈a,R64 x.1/\R64 x.2) (p q:Vl):mkT 20 [p,pRaw a,q]=mkT 20 [p,pVal a,q]:=by
 have hf:fm 20=[112,114,112]:=by simp[fm]
 unfold pVal
 by_cases h:a.all (λ x=>decide (pVis x))=true
 .rw[if_pos h]
 .rw[if_neg h]
  refine Eq.trans ?_ (mk_vd (x:=[]) (by simp) nVd).symm
  refine Classical.byContradiction λ hc=> ?_
  have:=mk_parts (by rw[hf];simp) hc
  rw[hf]at this
  simp[partsB,partB,rel_bad hr h]at this
theorem mk_pr {a:List (Int×Int)} (hr: ∀x∈a,R64 x.1/\R64 x.2) (p:Vl):mkT 15 [p,pRaw a]=mkT 15 [p,pVal a]:=by
 have hf:fm 15=[112,114]:=by simp[fm]
 unfold pVal
 by_cases h:a.all (λ x=>decide (pVis x))=true
 .rw[if_pos h]
 .rw[if_neg h]
  refine Eq.trans ?_ (mk_vd (x:=[]) (by simp) nVd).symm
  refine Classical.byContradiction λ hc=> ?_
  have:=mk_parts (by rw[hf];simp) hc
  rw[hf]at this
  simp[partsB,partB,rel_bad hr h]at this
theorem mk_call {f:Int} (hf:R64 f) (args:List Vl) (h:f<0∨65535<f):mkT 5 (intW f::args)=[]:=by
 refine Classical.byContradiction λ hc=> ?_
 have:=(mkT_ne (op:=5) (by omega) hc).2.2.2.1
 unfold tbody at this
 rw[if_neg (by omega),if_pos rfl,show gi (intW f::args) 0=intW f from rfl]at this
 simp only[Bool.and_eq_true]at this
 have h2:=this.2.2
 unfold numB at h2
 simp only[Bool.and_eq_true,decide_eq_true_eq]at h2
 rw[num_intW hf]at h2
 omega
theorem setW_lenT (l:List Vl):(setW l).length≤131072:=by
 by_cases h:setW l=[]
 .rw[h];simp
 .obtain⟨c1,c2,c3⟩:=cmpd_ne.1 h
  rw[show setW l=raw 5 (sortW l)from cmpd_yes ⟨c1,c2,c3⟩];exact c3.2
end
noncomputable section
attribute [local irreducible] FU keyF relF pKeys cKeys
theorem m_slices_Compact_L_api_Offer_api_Offer_in (l:List (Int×(List UInt8))) (hl:l.length≤1099511627776) (i:Nat) (K:List (Int×(List UInt8))->Int->Option (List (Int×(List UInt8)))): ∀(m j n:Nat) (x0:List (Int×(List UInt8))) (x3:Nat),i+j+m=l.length->1≤j->m<n->x0.length=l.length->x3+1≤i+j->x0.take x3=compactL (l.take (i+j))->x3=(compactL (l.take (i+j))).length->(∀q,i+j≤q+1->x0[q]?=l[q]?)->
  ∃(x0':List (Int×(List UInt8))) (x3':Nat),zck l i K n x0 x3 j=K x0' x3'/\x0'.length=l.length/\x3'≤l.length/\x0'.take x3'=compactL l:=by
 intro m
 induction m with
 |zero=>
  intro j n x0 x3 hi hj hn hx h3 ht h3' hq
  obtain⟨n,rfl⟩: ∃k,n=k+1:=⟨n - 1,by omega⟩
  refine⟨x0,x3, ?_,hx,by omega, ?_⟩
  .rw[zck,zda,if_neg (by omega)]
  .rw[ht,show i+j=l.length by omega,List.take_length]
 |succ m ih=>
  intro j n x0 x3 hi hj hn hx h3 ht h3' hq
  obtain⟨n,rfl⟩: ∃k,n=k+1:=⟨n - 1,by omega⟩
  have hlt:i+j<l.length:=by omega
  have g1:gi x0 ((i:Int)+(j:Int))=l[i+j]:=by
   rw[show(i:Int)+(j:Int)=((i+j:Nat):Int)by omega,zcf (by omega)]
   have:=hq (i+j) (by omega)
   rw[List.getElem?_eq_getElem (by omega),List.getElem?_eq_getElem hlt]at this
   exact Option.some.inj this
  have g2:gi x0 ((i:Int)+((j:Int) - 1))=l[i+j - 1]:=by
   rw[show(i:Int)+((j:Int) - 1)=((i+j - 1:Nat):Int)by omega,zcf (by omega)]
   have:=hq (i+j - 1) (by omega)
   rw[List.getElem?_eq_getElem (by omega),List.getElem?_eq_getElem (by omega)]at this
   exact Option.some.inj this
  have hsn:compactL (l.take (i+(j+1)))=cstep (compactL (l.take (i+j))) l[i+j]:=by
   rw[show i+(j+1)=(i+j)+1 by omega, ←List.take_append_getElem hlt,zlp]
  have hla:(compactL (l.take (i+j))).getLast?=some l[i+j - 1]:=by
   rw[compactL_last,List.getLast?_eq_getElem?]
   simp only[List.length_take]
   rw[show min (i+j) l.length - 1=i+j - 1 by omega,List.getElem?_take_of_lt (by omega),List.getElem?_eq_getElem (by omega)]
  rw[zck,zda]
  simp(disch:=omega) only[if_pos,zbx,zak,i64_sub1,zbr,g1,g2]
  by_cases he:l[i+j]=l[i+j - 1]
  .rw[if_neg (by simp[he])]
   refine ih (j+1) n x0 x3 (by omega) (by omega) (by omega) hx (by omega) ?_ ?_ (λ q h=>hq q (by omega))
   .rw[ht,hsn,cstep,if_pos (by rw[hla,he])]
   .rw[hsn,cstep,if_pos (by rw[hla,he])];exact h3'
  .rw[if_pos he]
   simp(disch:=omega) only[zak,Int.toNat_natCast,zbr]
   have hc:cstep (compactL (l.take (i+j))) l[i+j]=compactL (l.take (i+j))++[l[i+j]]:=by
    rw[cstep,if_neg]
    rw[hla];exact λ e=>he (Option.some.inj e).symm
   refine ih (j+1) n _ (x3+1) (by omega) (by omega) (by omega) (by simp[hx]) (by omega) ?_ ?_ (λ q h=> ?_)
   .rw[hsn,hc, ←ht]
    rw[List.take_succ_eq_append_getElem (by simp;omega)]
    congr 1
    .rw[List.take_set_of_le (by omega)]
    .simp
   .rw[hsn,hc];simp;omega
   .rw[List.getElem?_set_ne (by omega)]
    exact hq q (by omega)
theorem m_slices_Compact_L_api_Offer_api_Offer_out (l:List (Int×(List UInt8))) (hl:l.length≤1099511627776): ∀(m i n:Nat),i+m=l.length->1≤i->m<n->compactL (l.take i)=l.take i->
  zci l (λ _=>some l) n i=some (compactL l):=by
 intro m
 induction m with
 |zero=>
  intro i n hi h1 hn hc
  obtain⟨n,rfl⟩: ∃k,n=k+1:=⟨n - 1,by omega⟩
  rw[zci,zdb,if_neg (by omega)]
  rw[show i=l.length by omega,List.take_length]at hc
  rw[hc]
 |succ m ih=>
  intro i n hi h1 hn hc
  obtain⟨n,rfl⟩: ∃k,n=k+1:=⟨n - 1,by omega⟩
  have hlt:i<l.length:=by omega
  have g2:gi l ((i:Int) - 1)=l[i - 1]:=by
   rw[show(i:Int) - 1=((i - 1:Nat):Int)by omega,zcf (by omega)]
  have hla:(l.take i).getLast?=some l[i - 1]:=by
   rw[List.getLast?_eq_getElem?]
   simp only[List.length_take]
   rw[show min i l.length - 1=i - 1 by omega,List.getElem?_take_of_lt (by omega),List.getElem?_eq_getElem (by omega)]
  have hsn:compactL (l.take (i+1))=cstep (l.take i) l[i]:=by
   rw[←List.take_append_getElem hlt,zlp,hc]
  rw[zci,zdb]
  simp(disch:=omega) only[if_pos,zbx,zak,i64_sub1,zbr,g2,zcf]
  by_cases he:l[i]=l[i - 1]
  .rw[if_pos he]
   have hct:compactL (l.take (i+1))=l.take i:=by rw[hsn,cstep,if_pos (by rw[hla,he])]
   have hFU:=zeu
   obtain⟨x0',x3',e1,e2,e3,e4⟩:=m_slices_Compact_L_api_Offer_api_Offer_in l hl i (λ b a=>need ((0:Int)≤a/\a≤(List.length b:Int)/\(List.length b:Int)≤(List.length b:Int)) (need (0≤a/\a≤(List.length (List.take (Int.toNat a) b++List.replicate (Int.toNat (List.length b:Int) - Int.toNat a) ((0,[]):(Int×(List UInt8)))++List.drop (Int.toNat a+(Int.toNat (List.length b:Int) - Int.toNat a)) b):Int)) (some (List.take (Int.toNat a) (List.take (Int.toNat a) b++List.replicate (Int.toNat (List.length b:Int) - Int.toNat a) ((0,[]):(Int×(List UInt8)))++List.drop (Int.toNat a+(Int.toNat (List.length b:Int) - Int.toNat a)) b)))))
    (l.length - i - 1) 1 FU l i (by omega) (by omega) (by omega) rfl (by omega) hct.symm (by rw[hct];simp;omega) (λ q _=>rfl)
   rw[show((1:Nat):Int)=1 from rfl]at e1
   rw[e1]
   have hlen:(List.take x3' x0'++List.replicate (x0'.length - x3') ((0,[]):(Int×(List UInt8)))++List.drop (x3'+(x0'.length - x3')) x0').length=x0'.length:=by simp;omega
   simp only[Int.toNat_natCast,hlen]
   rw[zak (by omega),zak (by omega),List.append_assoc,List.take_append_of_le_length (by simp;omega),List.take_take,Nat.min_self,e4]
  .rw[if_neg he]
   refine ih (i+1) n (by omega) (by omega) (by omega) ?_
   rw[hsn,cstep,if_neg,List.take_append_getElem hlt]
   rw[hla];exact λ e=>he (Option.some.inj e).symm
theorem m_slices_Compact_L_api_Offer_api_Offer_eq (l:List (Int×(List UInt8))) (hl:l.length≤1099511627776):zdl l=some (compactL l):=by
 unfold zdl
 have hFU:=zeu
 by_cases h:(List.length l:Int)<2
 .rw[if_pos h]
  congr 1
  match l,h with
  |[],_=>rfl
  |[x],_=>simp[compactL,cstep]
  |x::y::t,h=>simp at h;omega
 .rw[if_neg h,zbx]
  have h1:compactL (l.take 1)=l.take 1:=by
   match l with
   |[]=>rfl
   |x::t=>simp[compactL,cstep]
  exact m_slices_Compact_L_api_Offer_api_Offer_out l hl (l.length - 1) 1 FU (by omega) (by omega) (by omega) h1
theorem cmpO_lt0 {a b:Ofr}:cmpO a b<0↔a.1<b.1∨(a.1=b.1/\cmpC a.2 b.2<0):=by
 unfold cmpO
 by_cases h:a.1=b.1
 .rw[if_pos ((TO_sgn.eq _ _ trivial trivial).2 h)]
  exact⟨λ h'=> .inr ⟨h,h'⟩,λ h'=>h'.elim (λ h'=>by omega) (λ h'=>h'.2)⟩
 .rw[if_neg (λ e=>h ((TO_sgn.eq _ _ trivial trivial).1 e)),sgn_lt]
  exact⟨.inl,λ h'=>h'.elim id (λ h'=>absurd h'.1 h)⟩
abbrev LtO (a b:Ofr):Prop:=cmpO a b<0
theorem LtO.irr (a:Ofr): ¬LtO a a:=λ h=>by
 rcases cmpO_lt0.1 h with h|⟨_,h⟩
 .omega
 .rw[cmpC_self]at h;omega
theorem LtO.tr {a b c:Ofr} (h1:LtO a b) (h2:LtO b c):LtO a c:=by
 rcases cmpO_lt0.1 h1 with h1|⟨e1,h1⟩ <;>rcases cmpO_lt0.1 h2 with h2|⟨e2,h2⟩
 .exact cmpO_lt0.2 (.inl (by omega))
 .exact cmpO_lt0.2 (.inl (by omega))
 .exact cmpO_lt0.2 (.inl (by omega))
 .exact cmpO_lt0.2 (.inr ⟨by omega,cmpC_trans h1 h2⟩)
theorem LtO.tot {a b:Ofr} (h1: ¬LtO a b) (h2: ¬LtO b a):a=b:=by
 have n1:=λ h=>h1 (cmpO_lt0.2 h)
 have n2:=λ h=>h2 (cmpO_lt0.2 h)
 have e:a.1=b.1:=by
  refine Classical.byContradiction λ h=> ?_
  rcases Int.lt_or_gt_of_ne h with h|h
  .exact n1 (.inl h)
  .exact n2 (.inl h)
 have c1: ¬cmpC a.2 b.2<0:=λ h=>n1 (.inr ⟨e,h⟩)
 have c2: ¬cmpC b.2 a.2<0:=λ h=>n2 (.inr ⟨e.symm,h⟩)
 have:=cmpC_anti a.2 b.2
 exact Prod.ext e (cmpC_eq.1 (by omega))
def cmpSO (a b:Ofr):Option Int:=some (cmpO a b)
theorem cmpSO_ok:CmpOk cmpSO:=by
 have e: ∀x y,ltC cmpSO x y=decide (cmpO x y<0):=λ x y=>rfl
 refine⟨λ x y=>⟨_,rfl⟩,λ x=> ?_,λ x y z=> ?_,λ x y z=> ?_,λ x y=> ?_⟩
 .rw[e];exact decide_eq_false (LtO.irr x)
 .simp only[e,decide_eq_true_eq];exact LtO.tr
 .simp only[e,decide_eq_false_iff_not]
  intro h1 h2 h3
  by_cases e1:x=y
  .subst e1;exact h2 h3
  .have:LtO y x:=Classical.byContradiction λ h=>e1 (LtO.tot h1 h)
   exact h2 (this.tr h3)
 .simp only[e,decide_eq_false_iff_not]
  exact LtO.tot
def sortO (l:List Ofr):List Ofr:=compactL (sortC cmpSO l)
theorem sortO_spec (l:List Ofr):(sortO l).Pairwise LtO/\(∀x,x∈sortO l↔x∈l)/\(sortO l).length≤l.length:=by
 have e: ∀x y,ltC cmpSO x y=decide (cmpO x y<0):=λ x y=>rfl
 have hp:(sortC cmpSO l).Pairwise (λ a b=>a=b∨LtO a b):=by
  unfold sortC
  have:=List.pairwise_mergeSort (le:=λ x y=> !ltC cmpSO y x) (λ a b c h1 h2=>by
   simp only[e,Bool.not_eq_true',decide_eq_false_iff_not]at h1 h2⊢
   intro h3
   by_cases e1:a=b
   .subst e1;exact h2 h3
   .have:LtO a b:=Classical.byContradiction λ h=>e1 (LtO.tot h h1)
    exact h2 (LtO.tr h3 this)) (λ a b=>by
   simp only[e,Bool.or_eq_true,Bool.not_eq_true',decide_eq_false_iff_not]
   by_cases h:LtO b a
   .exact .inr (λ h'=>LtO.irr _ (h.tr h'))
   .exact .inl h) l
  refine this.imp (λ {a b} h=> ?_)
  simp only[e,Bool.not_eq_true',decide_eq_false_iff_not]at h
  by_cases h2:LtO a b
  .exact .inr h2
  .exact .inl (LtO.tot h2 h)
 refine⟨compactL_sorted LtO.irr LtO.tr _ hp,λ x=> ?_, ?_⟩
 .unfold sortO;rw[compactL_mem];exact List.mem_mergeSort
 .unfold sortO
  refine Nat.le_trans (compactL_len _) ?_
  unfold sortC;rw[List.length_mergeSort];exact Nat.le_refl _
theorem sortO_ext {l s:List Ofr} (h1:s.Pairwise LtO) (h2: ∀x,x∈s↔x∈l):s=sortO l:=SL_ext LtO.irr LtO.tr h1 (sortO_spec l).1 (λ x=>by rw[h2,(sortO_spec l).2.1])
def partsO (l:List Ofr):List Vl:=l.flatMap (λ o=>[intW o.1,o.2])
theorem partsO_len: ∀l:List Ofr,(partsO l).length=2*l.length
 |[]=>rfl
 |o::l=>by
  have:=partsO_len l
  unfold partsO at this⊢
  rw[List.flatMap_cons,List.length_append,this];simp;omega
theorem oClone (l:List Ofr) (hl:l.length≤100000000):zds l=some l:=by
 unfold zds
 rw[nilc_eq (λ h=>by subst h;simp[need]),zak (by simp;omega)]
 simp
def prefS (l:List Ofr):Vl:=if l.length=0 then mkT 1 []else mkT 6 (partsO (sortO l))
theorem vStop:zfu=some (mkT 1 []):=by
 unfold zfu
 rw[vMade 1 [] (by simp) (by simp),zaf]
theorem vPrefix (l:List Ofr) (hl:l.length≤10000000) (hx: ∀x∈l,x.2.length≤1099511627776):zgh l=some (prefS l):=by
 have hFU:=zeu
 unfold zgh prefS
 by_cases h0:l.length=0
 .rw[if_pos (by omega),if_pos h0,vStop,zaf]
 .have hc:zdh=cmpSO:=funext λ a=>funext λ b=>vCmpO a b
  have hs:=m_sortby_eq (c:=cmpSO) (xs:=l) (by omega) cmpSO_ok
  have hlen:(sortC cmpSO l).length=l.length:=List.length_mergeSort _
  obtain⟨s1,s2,s3⟩:=sortO_spec l
  rw[if_neg (by omega),if_neg h0,oClone l (by omega),zaf,hc,hs,zaf,zbx,m_slices_Compact_L_api_Offer_api_Offer_eq _ (by rw[hlen];omega),zaf]
  show zfl _ (sortO l) FU [] 0=_
  generalize sortO l=q at s2 s3
  have loop: ∀(K:List Vl->Option Vl) (m i n:Nat) (out:List Vl),i+m=q.length->m<n->out.length+2*m≤100000000->zfl K q n out i=K (out++partsO (q.drop i)):=by
   intro K m
   induction m with
   |zero=>
    intro i n out hi hn ho
    obtain⟨n,rfl⟩: ∃q,n=q+1:=⟨n - 1,by omega⟩
    rw[zfl,zjr,if_neg (by omega),List.drop_eq_nil_of_le (by omega)];simp[partsO]
   |succ m ih=>
    intro i n out hi hn ho
    obtain⟨n,rfl⟩: ∃q,n=q+1:=⟨n - 1,by omega⟩
    have hil:i<q.length:=by omega
    rw[zfl,zjr,if_pos (by omega),zak (by omega),zcf hil,vInt,zaf,zak (by simp;omega),zbr (by omega),ih (i+1) n _ (by omega) (by omega) (by simp;omega),List.drop_eq_getElem_cons hil]
    unfold partsO
    rw[List.flatMap_cons,List.append_assoc]
  have e:=loop (λ x=>bnd1 (zcn 6 x) (λ y39=>some y39)) q.length 0 FU [] (by omega) (by omega) (by simp;omega)
  rw[Int.natCast_zero,List.drop_zero,List.nil_append]at e
  have hpl:=partsO_len q
  rw[e,vMade 6 _ (by omega) (λ x hx'=>by
   obtain⟨o,ho,hx'⟩:=List.mem_flatMap.1 hx'
   simp at hx'
   rcases hx' with rfl|rfl
   .rw[intW_len];omega
   .exact hx o ((s2 o).1 ho)),zaf]
def goodO (o:Ofr):Bool:=decide (cVis o.1) && tmB o.2
theorem rPre_place (l out:List Ofr) (i:Nat) (hi:i<l.length) (hl:l.length≤60000000000) (ho:out.length≤60000000000) (K:Int->Option Vl): ∀(k j n:Nat),j+k=out.length->k<n->(∀q (h:q<out.length),q<j->LtO out[q] l[i])->
  ∃j':Nat,j'≤out.length/\zgs l out i K n j=K j'/\(∀q (h:q<out.length),q<j'->LtO out[q] l[i])/\(∀h:j'<out.length, ¬LtO out[j'] l[i]):=by
 intro k
 induction k with
 |zero=>
  intro j n h1 h2 h3
  obtain⟨n,rfl⟩: ∃q,n=q+1:=⟨n - 1,by omega⟩
  refine⟨j,by omega, ?_,h3,λ h=>by omega⟩
  rw[zgs,zlh,zbx,if_neg (by omega)]
  rfl
 |succ k ih=>
  intro j n h1 h2 h3
  obtain⟨n,rfl⟩: ∃q,n=q+1:=⟨n - 1,by omega⟩
  have hj:j<out.length:=by omega
  have yes:LtO out[j] l[i]-> ∃j':Nat,j'≤out.length/\zgs l out i K n (i64 ((j:Int)+1))=K j'/\(∀q (h:q<out.length),q<j'->LtO out[q] l[i])/\(∀h:j'<out.length, ¬LtO out[j'] l[i]):=λ hc=>by
   rw[zbr (by omega)]
   refine ih (j+1) n (by omega) (by omega) (λ q h hq=> ?_)
   by_cases e:q=j
   .subst e;exact hc
   .exact h3 q h (by omega)
  rw[zgs,zlh,zbx,if_pos (by omega),zak (by omega),zak (by omega),zcf hj,zcf hi]
  by_cases c1:(out[j]).1<(l[i]).1
  .rw[if_pos c1]
   exact yes (cmpO_lt0.2 (.inl c1))
  .rw[if_neg c1,zak (by omega),zak (by omega)]
   by_cases c2:(out[j]).1=(l[i]).1
   .rw[if_pos c2,zak (by omega),zak (by omega),rCompareW,zaf]
    by_cases c3:cmpC (out[j]).2 (l[i]).2<0
    .rw[decide_eq_true c3]
     exact yes (cmpO_lt0.2 (.inr ⟨c2,c3⟩))
    .rw[decide_eq_false c3]
     exact⟨j,by omega,rfl,h3,λ _ h=>(cmpO_lt0.1 h).elim (λ h=>by omega) (λ h=>c3 h.2)⟩
   .rw[if_neg c2]
    exact⟨j,by omega,rfl,h3,λ _ h=>(cmpO_lt0.1 h).elim (λ h=>c1 h) (λ h=>c2 h.1)⟩
theorem rPre_loop (l:List Ofr) (hl:l.length≤60000000000) (K:List Ofr->Option Vl): ∀(m i n:Nat) (out:List Ofr),i+m=l.length->m<n->out.Pairwise LtO->out.length≤i->(∀x,x∈out↔x∈l.take i)->
  ((l.drop i).all goodO=true/\ ∃s,zco l K n out i=K s/\s.Pairwise LtO/\(∀x,x∈s↔x∈l))∨((l.drop i).all goodO=false/\zco l K n out i=some []):=by
 have hFU:=zeu
 intro m
 induction m with
 |zero=>
  intro i n out hi hn hs ho hm
  obtain⟨n,rfl⟩: ∃q,n=q+1:=⟨n - 1,by omega⟩
  refine .inl ⟨by rw[List.drop_eq_nil_of_le (by omega)];rfl,out,by rw[zco,zlk,if_neg (by omega)],hs,λ x=> ?_⟩
  rw[hm,show i=l.length by omega,List.take_length]
 |succ m ih=>
  intro i n out hi hn hs ho hm
  obtain⟨n,rfl⟩: ∃q,n=q+1:=⟨n - 1,by omega⟩
  have hil:i<l.length:=by omega
  have hmem: ∀x,x∈l.take (i+1)↔x∈l.take i∨x=l[i]:=λ x=>by
   rw[←List.take_append_getElem hil];simp only[List.mem_append,List.mem_singleton]
  rw[zco,zlk,if_pos (by omega),zbx,zbx,zak (by omega),zcf hil,rvisZ,zaf,List.drop_eq_getElem_cons hil,List.all_cons]
  have hg:goodO l[i]=(decide (cVis (l[i]).1) && tmB (l[i]).2):=rfl
  rw[hg]
  by_cases h1:cVis (l[i]).1
  .rw[decide_eq_true h1,if_neg (by simp),zak (by omega),rValid16,zaf,Bool.true_and]
   cases htm:tmB (l[i]).2 with
   |false=>exact .inr ⟨rfl,rfl⟩
   |true=>
    rw[Bool.true_and]
    dsimp only
    rw[if_neg (by simp),zbx]
    obtain⟨j,j1,j2,j3,j4⟩:=rPre_place l out i hil hl (by omega) (λ c=>jn (λ(d:Bool)=>if d then zco l K n out (i64 ((i:Int)+1))else(need (List.length out+List.length ([(0,[])]:List Ofr)≤137438953472) (need ((0:Int)≤i64 (c+1)/\(i64 (c+1))≤(List.length (out++([(0,[])]:List Ofr)):Int)/\(List.length (out++([(0,[])]:List Ofr)):Int)≤(List.length (out++([(0,[])]:List Ofr)):Int)) (need ((0:Int)≤c/\c≤(List.length (out++([(0,[])]:List Ofr)):Int)/\(List.length (out++([(0,[])]:List Ofr)):Int)≤(List.length (out++([(0,[])]:List Ofr)):Int)) (need ((0:Int)≤(i:Int)/\(i:Int)<(List.length l:Int)) (need ((0:Int)≤c/\c<(List.length (List.take (Int.toNat (i64 (c+1))) (out++([(0,[])]:List Ofr))++List.take (Nat.min (Int.toNat (List.length (out++([(0,[])]:List Ofr)):Int) - Int.toNat c) (Int.toNat (List.length (out++([(0,[])]:List Ofr)):Int) - Int.toNat (i64 (c+1)))) (List.drop (Int.toNat c) (out++([(0,[])]:List Ofr)))++List.drop (Int.toNat (i64 (c+1))+(Nat.min (Int.toNat (List.length (out++([(0,[])]:List Ofr)):Int) - Int.toNat c) (Int.toNat (List.length (out++([(0,[])]:List Ofr)):Int) - Int.toNat (i64 (c+1))))) (out++([(0,[])]:List Ofr))):Int)) (zco l K n (List.set (List.take (Int.toNat (i64 (c+1))) (out++([(0,[])]:List Ofr))++List.take (Nat.min (Int.toNat (List.length (out++([(0,[])]:List Ofr)):Int) - Int.toNat c) (Int.toNat (List.length (out++([(0,[])]:List Ofr)):Int) - Int.toNat (i64 (c+1)))) (List.drop (Int.toNat c) (out++([(0,[])]:List Ofr)))++List.drop (Int.toNat (i64 (c+1))+(Nat.min (Int.toNat (List.length (out++([(0,[])]:List Ofr)):Int) - Int.toNat c) (Int.toNat (List.length (out++([(0,[])]:List Ofr)):Int) - Int.toNat (i64 (c+1))))) (out++([(0,[])]:List Ofr))) (Int.toNat c) l[i]) (i64 ((i:Int)+1)))))))) ) (λ k2049=>if c<(List.length out:Int)then(need ((0:Int)≤(i:Int)/\(i:Int)<(List.length l:Int)) (need ((0:Int)≤c/\c<(List.length out:Int)) (k2049 (decide ((gi out c)=l[i])))))else(k2049 false))) out.length 0 FU (by omega) (by omega) (λ q h h'=>by omega)
    rw[Int.natCast_zero]at j2
    have hpw:=List.pairwise_iff_getElem.1 hs
    have skip:l[i]∈out->((l.drop (i+1)).all goodO=true/\ ∃s,zco l K n out ((i+1:Nat):Int)=K s/\s.Pairwise LtO/\(∀x,x∈s↔x∈l))∨((l.drop (i+1)).all goodO=false/\zco l K n out ((i+1:Nat):Int)=some []):=λ h=>by
     refine ih (i+1) n out (by omega) (by omega) hs (by omega) (λ x=> ?_)
     rw[hmem,hm]
     exact⟨.inl,λ h'=>h'.elim id (λ h'=>h' ▸ (hm _).1 h)⟩
    have ins: ∀hne:(∀h:j<out.length,out[j]≠l[i]),((l.drop (i+1)).all goodO=true/\ ∃s,zco l K n (out.take j++[l[i]]++out.drop j) ((i+1:Nat):Int)=K s/\s.Pairwise LtO/\(∀x,x∈s↔x∈l))∨((l.drop (i+1)).all goodO=false/\zco l K n (out.take j++[l[i]]++out.drop j) ((i+1:Nat):Int)=some []):=λ hne=>by
     refine ih (i+1) n _ (by omega) (by omega) ?_ (by simp;omega) (λ x=> ?_)
     .have hsp:(out.take j++out.drop j).Pairwise LtO:=by rw[List.take_append_drop];exact hs
      obtain⟨p1,p2,p3⟩:=List.pairwise_append.1 hsp
      have hB: ∀b∈out.drop j,LtO l[i] b:=λ b hb=>by
       obtain⟨q,hq,rfl⟩:=List.getElem_of_mem hb
       rw[List.getElem_drop]
       simp only[List.length_drop]at hq
       have hjl:j<out.length:=by omega
       have h0:LtO l[i] out[j]:=Classical.byContradiction λ hc=>hne hjl (LtO.tot (j4 hjl) hc)
       by_cases e:q=0
       .subst e;exact h0
       .exact h0.tr (hpw j (j+q) hjl (by omega) (by omega))
      rw[List.append_assoc,List.pairwise_append]
      refine⟨p1, ?_,λ a ha b hb=> ?_⟩
      .simp only[List.singleton_append,List.pairwise_cons]
       exact⟨hB,p2⟩
      .simp only[List.singleton_append,List.mem_cons]at hb
       rcases hb with rfl|hb
       .obtain⟨q,hq,rfl⟩:=List.getElem_of_mem ha
        simp only[List.length_take]at hq
        rw[List.getElem_take]
        exact j3 q (by omega) (by omega)
       .exact p3 a ha b hb
     .rw[hmem]
      have:x∈out↔x∈out.take j∨x∈out.drop j:=by rw[←List.mem_append,List.take_append_drop]
      rw[hm]at this
      simp only[List.append_assoc,List.mem_append,List.mem_singleton]
      constructor
      .rintro (h|h|h)
       .exact .inl (this.2 (.inl h))
       .exact .inr h
       .exact .inl (this.2 (.inr h))
      .rintro (h|h)
       .rcases this.1 h with h|h
        .exact .inl h
        .exact .inr (.inr h)
       .exact .inr (.inl h)
    have hins:=insNeed (p:=(0:Int)≤(i:Int)/\(i:Int)<(l.length:Int)) (by omega) out (by omega) j j1 ((0,[]):Ofr) l[i] (λ z=>zco l K n z (i64 ((i:Int)+1)))
    by_cases hjl:j<out.length
    .by_cases he:out[j]=l[i]
     .rcases skip (he ▸ List.getElem_mem hjl)with⟨g1,s,s1,s2⟩|⟨g1,s1⟩
      .refine .inl ⟨g1,s,j2.trans ?_,s2⟩
       rw[zbx,if_pos (by omega),zak (by omega),zak (by omega),zcf hjl,decide_eq_true he]
       show zco l K n out (i64 ((i:Int)+1))=_
       rw[zbr (by omega)]
       exact s1
      .refine .inr ⟨g1,j2.trans ?_⟩
       rw[zbx,if_pos (by omega),zak (by omega),zak (by omega),zcf hjl,decide_eq_true he]
       show zco l K n out (i64 ((i:Int)+1))=_
       rw[zbr (by omega)]
       exact s1
     .rcases ins (λ _=>he)with⟨g1,s,s1,s2⟩|⟨g1,s1⟩
      .refine .inl ⟨g1,s,j2.trans ?_,s2⟩
       rw[zbx,if_pos (by omega),zak (by omega),zak (by omega),zcf hjl,decide_eq_false he]
       refine Eq.trans (if_neg Bool.false_ne_true) ?_
       rw[zbr (by omega:i<9223372036854775807)]at hins⊢
       exact hins.trans s1
      .refine .inr ⟨g1,j2.trans ?_⟩
       rw[zbx,if_pos (by omega),zak (by omega),zak (by omega),zcf hjl,decide_eq_false he]
       refine Eq.trans (if_neg Bool.false_ne_true) ?_
       rw[zbr (by omega:i<9223372036854775807)]at hins⊢
       exact hins.trans s1
    .rcases ins (λ h=>absurd h hjl)with⟨g1,s,s1,s2⟩|⟨g1,s1⟩
     .refine .inl ⟨g1,s,j2.trans ?_,s2⟩
      rw[zbx,if_neg (by omega)]
      refine Eq.trans (if_neg Bool.false_ne_true) ?_
      rw[zbr (by omega:i<9223372036854775807)]at hins⊢
      exact hins.trans s1
     .refine .inr ⟨g1,j2.trans ?_⟩
      rw[zbx,if_neg (by omega)]
      refine Eq.trans (if_neg Bool.false_ne_true) ?_
      rw[zbr (by omega:i<9223372036854775807)]at hins⊢
      exact hins.trans s1
  .rw[decide_eq_false h1,if_pos (by simp),Bool.false_and,Bool.false_and]
   exact .inr ⟨rfl,rfl⟩
theorem rPrefix (l:List Ofr) (hl:l.length≤10000000):zgq l=some (if l.all goodO=true then prefS l else[]):=by
 have hFU:=zeu
 unfold zgq
 rw[zbx]
 have e:=rPre_loop l (by omega) (λ(a:List (Int×(List UInt8)))=>if(List.length a:Int)=0 then(bnd1 (zbm 1 ([]:List (List UInt8))) (λ y2060=>some y2060))else(jn (λ(b:List (List UInt8))=>bnd1 (zbm 6 b) (λ y2093=>some y2093)) (λ k2061=>zgu a k2061 FU [] 0))) l.length 0 FU [] (by omega) (by omega) List.Pairwise.nil (by simp) (by simp)
 rw[Int.natCast_zero,List.drop_zero]at e
 rcases e with⟨g1,s,s1,s2,s3⟩|⟨g1,s1⟩
 .rw[s1,if_pos g1]
  have hs:=sortO_ext s2 s3
  obtain⟨q1,q2,q3⟩:=sortO_spec l
  unfold prefS
  by_cases h0:l.length=0
  .have:s=[]:=by
    rw[hs];exact List.eq_nil_of_length_eq_zero (by omega)
   rw[this,if_pos (by simp),if_pos h0,rMakeT 1 [] (by simp),zaf]
  .have hne:s.length≠0:=λ h=>by
    have hn:s=[]:=List.eq_nil_of_length_eq_zero h
    match l,h0 with
    |x::l,_=>have:=(s3 x).2 (by simp);rw[hn]at this;cases this
   rw[if_neg (by omega),if_neg h0,zbx]
   rw[←hs]at q3⊢
   have loop: ∀(K:List Vl->Option Vl) (m i n:Nat) (out:List Vl),i+m=s.length->m<n->out.length+2*m≤100000000->zgu s K n out i=K (out++partsO (s.drop i)):=by
    intro K m
    induction m with
    |zero=>
     intro i n out hi hn ho
     obtain⟨n,rfl⟩: ∃q,n=q+1:=⟨n - 1,by omega⟩
     rw[zgu,zlr,if_neg (by omega),List.drop_eq_nil_of_le (by omega)];simp[partsO]
    |succ m ih=>
     intro i n out hi hn ho
     obtain⟨n,rfl⟩: ∃q,n=q+1:=⟨n - 1,by omega⟩
     have hil:i<s.length:=by omega
     rw[zgu,zlr,if_pos (by omega),zak (by omega),zcf hil,rInt,zaf,zak (by omega),zak (by simp;omega),zbr (by omega),ih (i+1) n _ (by omega) (by omega) (by simp;omega),List.drop_eq_getElem_cons hil]
     unfold partsO
     rw[List.flatMap_cons,List.append_assoc]
   have e2:=loop (λ x=>bnd1 (zbm 6 x) (λ y2093=>some y2093)) s.length 0 FU [] (by omega) (by omega) (by simp;omega)
   rw[Int.natCast_zero,List.drop_zero,List.nil_append]at e2
   have hpl:=partsO_len s
   rw[e2,rMakeT 6 _ (by omega),zaf]
 .rw[s1,g1,if_neg Bool.false_ne_true]
end
noncomputable section
attribute [local irreducible] FU keyF relF pKeys cKeys
theorem tw_same {x:Vl} (h:kindW x=9->IsV 31 x):tw 32 x=tw 33 x:=by
 have hFU:=zeu
 have e1:=(both_term 31 (by omega) x h FU (by omega)).1
 have e2:=(both_term 32 (by omega) x (λ h9=>(h h9).le (by omega)) FU (by omega)).1
 rw[e1]at e2
 exact Option.some.inj e2
theorem chk_mem {sb:Vl->Bool}: ∀{q:List Ofr},prsChk sb (partsO q)=true-> ∀o∈q,evB (intW o.1)=true/\sb o.2=true
 |[],_,o,h=>by simp at h
 |x::q,h,o,ho=>by
  have e:partsO (x::q)=intW x.1::x.2::partsO q:=rfl
  rw[e,prsChk]at h
  simp only[Bool.and_eq_true]at h
  rcases List.mem_cons.1 ho with rfl|ho
  .exact h.1
  .exact chk_mem h.2 o ho
theorem pref_bad {l:List Ofr} (hr: ∀x∈l,R64 x.1) (h: ¬l.all goodO=true):prefS l=[]:=by
 refine Classical.byContradiction λ hc=>h (List.all_eq_true.2 (λ o ho=> ?_))
 unfold prefS at hc
 split at hc
 .rename_i h0
  rw[List.eq_nil_of_length_eq_zero h0]at ho;cases ho
 .obtain⟨c1,c2,c3,c4,c5,c6⟩:=mkT_ne (op:=6) (by omega) hc
  have hV:=kind_vd (v:=mkT 6 (partsO (sortO l))) (by omega)
  have hp:=(isv_parts (k:=32) (by omega) c6 hV.1).2
  rw[c3]at hp
  have h4:tbody (tw 32) 6 (partsO (sortO l))=offB (tw 32) (partsO (sortO l)):=by unfold tbody;simp
  rw[h4]at c4
  unfold offB at c4
  simp only[Bool.and_eq_true]at c4
  have hos:=((sortO_spec l).2.1 o).2 ho
  obtain⟨e1,e2⟩:=chk_mem c4.2.1 o hos
  have hmem:o.2∈partsO (sortO l):=List.mem_flatMap.2 ⟨o,hos,by simp⟩
  have hs:=tw_same (x:=o.2) (λ _=>hp _ (by simp[hmem]))
  unfold goodO tmB
  rw[←hs,e2,Bool.and_true]
  unfold evB at e1
  simp only[Bool.and_eq_true,decide_eq_true_eq]at e1
  rw[num_intW (hr o ho)]at e1
  exact decide_eq_true e1.2
def preV (l:List Ofr):Vl:=if l.all goodO=true then prefS l else[]
theorem vPreV (l:List Ofr) (hl:l.length≤10000000) (hx: ∀x∈l,x.2.length≤1099511627776) (hr: ∀x∈l,R64 x.1):zgh l=some (preV l):=by
 rw[vPrefix l hl hx]
 unfold preV
 by_cases h:l.all goodO=true
 .rw[if_pos h]
 .rw[if_neg h,pref_bad hr h]
def callV (f:Int) (args:List Vl):Vl:=if f<0∨65535<f then[]else mkT 5 (intW f::args)
theorem vCall (f:Int) (args:List Vl) (hf:R64 f) (hl:args.length≤10000000) (hx: ∀x∈args,x.length≤1099511627776):m_procterm_Call f args=some (callV f args):=by
 unfold m_procterm_Call callV
 rw[vInt,zaf,zak (by simp;omega),vMade 5 _ (by simp;omega) (λ x h=>by
  rcases List.mem_cons.1 h with rfl|h
  .rw[intW_len];omega
  .exact hx x h),zaf]
 show some (mkT 5 (intW f::args))=_
 split
 .rename_i h;rw[mk_call hf args h]
 .rfl
theorem rCall (f:Int) (args:List Vl) (hl:args.length≤10000000):m_ref16_Call f args=some (callV f args):=by
 unfold m_ref16_Call callV
 rw[zbx]
 by_cases h0:f<0
 .rw[if_pos h0,if_pos (.inl h0)];rfl
 .rw[if_neg h0]
  by_cases h1:65535<f
  .rw[if_pos (.inr h1),decide_eq_true h1];rfl
  .rw[if_neg (λ h=>h.elim h0 h1),decide_eq_false h1]
   dsimp only
   rw[if_neg Bool.false_ne_true,rInt,zaf,zak (by simp;omega),rMakeT 5 _ (by simp;omega),zaf];rfl
theorem fm_up2 (k:Int):((fm k).map (λ c=>c - 32)=[80,80])↔fm k=[112,112]:=by
 rcases op_cases k with h|h|h|h|h|h|h|h|h|h|h|h|h|h|⟨h1,h2,h3,h4,h5,h6,h7,h8,h9,h10,h11,h12,h13,h14⟩
 all_goals first
  |(subst h;simp[fm])
  |(unfold fm;simp[h1,h2,h3,h4,h5,h6,h7,h8,h9,h10,h11,h12,h13,h14])
theorem fm_up3 (k:Int):((fm k).map (λ c=>c - 32)=[80,83,80])↔fm k=[112,115,112]:=by
 rcases op_cases k with h|h|h|h|h|h|h|h|h|h|h|h|h|h|⟨h1,h2,h3,h4,h5,h6,h7,h8,h9,h10,h11,h12,h13,h14⟩
 all_goals first
  |(subst h;simp[fm])
  |(unfold fm;simp[h1,h2,h3,h4,h5,h6,h7,h8,h9,h10,h11,h12,h13,h14])
def binV (k:Int) (p q:Vl):Vl:=if fm k=[112,112]then mkT k [p,q]else[]
def guaV (k:Int) (p:Vl) (a:List Int) (q:Vl):Vl:=if fm k=[112,115,112]then mkT k [p,sVal a,q]else[]
abbrev Sh40 (x:Vl):Prop:=x.length≤1099511627776
theorem vBin (k:Int) {p q:Vl} (hp:Sh40 p) (hq:Sh40 q):m_procterm_Binary k p q=some (binV k p q):=by
 unfold m_procterm_Binary binV
 rw[vForm,zaf]
 by_cases h:fm k=[112,112]
 .rw[if_neg (λ h'=>h' h),if_pos h,vMade k _ (by simp) (λ x hx=>by simp at hx;rcases hx with rfl|rfl;exact hp;exact hq),zaf]
 .rw[if_pos h,if_neg h]
theorem rBin (k:Int) (p q:Vl):zka k p q=some (binV k p q):=by
 unfold zka binV
 rw[rLayout,zaf]
 by_cases h:fm k=[112,112]
 .rw[if_neg (λ h'=>h' ((fm_up2 k).2 h)),if_pos h,rMakeT k _ (by simp),zaf]
 .rw[if_pos (λ h'=>h ((fm_up2 k).1 h')),if_neg h]
theorem sRaw_sh (a:List Int):Sh40 (sRaw a):=by have:=setW_lenT (a.map intW);unfold Sh40 sRaw;omega
theorem pRaw_sh (a:List (Int×Int)):Sh40 (pRaw a):=by have:=setW_lenT (a.map tupW);unfold Sh40 pRaw;omega
theorem vGua (k:Int) {p q:Vl} {a:List Int} (hp:Sh40 p) (hq:Sh40 q) (ha:a.length≤10000000) (hr: ∀x∈a,R64 x):zmb k p a q=some (guaV k p a q):=by
 unfold zmb guaV
 rw[vForm,zaf]
 by_cases h:fm k=[112,115,112]
 .rw[if_neg (λ h'=>h' h),if_pos h,vSetT a ha,zaf,vMade k _ (by simp) (λ x hx=>by simp at hx;rcases hx with rfl|rfl|rfl;exact hp;exact sRaw_sh a;exact hq),zaf,mk_psp h hr]
 .rw[if_pos h,if_neg h]
theorem rGua (k:Int) (p q:Vl) (a:List Int) (ha:a.length≤10000000):m_ref16_Guarded k p a q=some (guaV k p a q):=by
 unfold m_ref16_Guarded guaV
 rw[rLayout,zaf]
 by_cases h:fm k=[112,115,112]
 .rw[if_neg (λ h'=>h' ((fm_up3 k).2 h)),if_pos h,rSetVal a (by omega),zaf,rMakeT k _ (by simp),zaf]
 .rw[if_pos (λ h'=>h ((fm_up3 k).1 h')),if_neg h]
theorem vAlpha {p q:Vl} {a b:List Int} (hp:Sh40 p) (hq:Sh40 q) (ha:a.length≤10000000) (hb:b.length≤10000000) (hr: ∀x∈a,R64 x) (hs: ∀x∈b,R64 x):m_procterm_Alpha p a b q=some (mkT 17 [p,sVal a,sVal b,q]):=by
 unfold m_procterm_Alpha
 rw[vSetT a ha,zaf,vSetT b hb,zaf,vMade 17 _ (by simp) (λ x hx=>by simp at hx;rcases hx with rfl|rfl|rfl|rfl;exact hp;exact sRaw_sh a;exact sRaw_sh b;exact hq),zaf,mk_pssp hr hs]
theorem vLink {p q:Vl} {r:List (Int×Int)} (hp:Sh40 p) (hq:Sh40 q) (hl:r.length≤10000000) (hr: ∀x∈r,R64 x.1/\R64 x.2):m_procterm_Link p r q=some (mkT 20 [p,pVal r,q]):=by
 unfold m_procterm_Link
 rw[vTuples r hl,zaf,vMade 20 _ (by simp) (λ x hx=>by simp at hx;rcases hx with rfl|rfl|rfl;exact hp;exact pRaw_sh r;exact hq),zaf,mk_prp hr]
theorem vHide {p:Vl} {a:List Int} (hp:Sh40 p) (ha:a.length≤10000000) (hr: ∀x∈a,R64 x):zkl p a=some (mkT 14 [p,sVal a]):=by
 unfold zkl
 rw[vSetT a ha,zaf,vMade 14 _ (by simp) (λ x hx=>by simp at hx;rcases hx with rfl|rfl;exact hp;exact sRaw_sh a),zaf,mk_ps hr]
theorem vRename {p:Vl} {r:List (Int×Int)} (hp:Sh40 p) (hl:r.length≤10000000) (hr: ∀x∈r,R64 x.1/\R64 x.2):m_procterm_Rename p r=some (mkT 15 [p,pVal r]):=by
 unfold m_procterm_Rename
 rw[vTuples r hl,zaf,vMade 15 _ (by simp) (λ x hx=>by simp at hx;rcases hx with rfl|rfl;exact hp;exact pRaw_sh r),zaf,mk_pr hr]
theorem vChase {p:Vl} (hp:Sh40 p):m_procterm_Chase p=some (mkT 19 [p]):=by
 unfold m_procterm_Chase
 rw[vMade 19 _ (by simp) (λ x hx=>by simp at hx;rcases hx with rfl;exact hp),zaf]
theorem vHole (n:Int):m_procterm_Hole n=some (mkT 21 [intW n]):=by
 unfold m_procterm_Hole
 rw[vInt,zaf,vMade 21 _ (by simp) (λ x hx=>by simp at hx;rcases hx with rfl;rw[intW_len];omega),zaf]
def priV (p:Vl) (o:List (Int×Int)):Vl:=if ordB o=true then mkT 18 [p,pVal o]else[]
theorem vPrior {p:Vl} {o:List (Int×Int)} (hp:Sh40 p) (hl:o.length≤10000000):m_procterm_Prior p o=some (priV p o):=by
 have hFU:=zeu
 unfold m_procterm_Prior priV
 rw[vValidOrder o (by omega),zaf]
 cases ho:ordB o with
 |false=>rfl
 |true=>
  rw[if_neg (by simp),if_pos rfl,zbx]
  have loop: ∀(K:List (Int×Int)->Option Vl) (m i n:Nat) (out:List (Int×Int)),i+m=o.length->m<n->out.length+m≤100000000->zia o K n out i=K (out++o.drop i):=by
   intro K m
   induction m with
   |zero=>
    intro i n out hi hn ho
    obtain⟨n,rfl⟩: ∃q,n=q+1:=⟨n - 1,by omega⟩
    rw[zia,zkm,if_neg (by omega),List.drop_eq_nil_of_le (by omega),List.append_nil]
   |succ m ih=>
    intro i n out hi hn ho
    obtain⟨n,rfl⟩: ∃q,n=q+1:=⟨n - 1,by omega⟩
    have hil:i<o.length:=by omega
    rw[zia,zkm,if_pos (by omega),zak (by omega),zcf hil,zak (by simp;omega),zbr (by omega),ih (i+1) n _ (by omega) (by omega) (by simp;omega),List.drop_eq_getElem_cons hil,List.append_assoc];rfl
  have e:=loop (λ a=>bnd1 (zgf a) (λ y28=>bnd1 (zcn 18 [p,y28]) (λ y29=>some y29))) o.length 0 FU [] (by omega) (by omega) (by simp;omega)
  rw[Int.natCast_zero,List.drop_zero,List.nil_append]at e
  have hv:o.all (λ x=>decide (pVis x))=true:=by
   have:OrdOk o:=by unfold ordB at ho;simpa using ho
   exact List.all_eq_true.2 (λ x hx=>decide_eq_true (this.1 x hx))
  have hpv:pVal o=pRaw o:=by unfold pVal;rw[if_pos hv]
  rw[e,vTuples o hl,zaf,vMade 18 _ (by simp) (λ x hx=>by simp at hx;rcases hx with rfl|rfl;exact hp;exact pRaw_sh o),zaf,hpv]
set_option maxHeartbeats 2000000 in
theorem made_true {p q:Vl} {a b:List Int} {r o:List (Int×Int)} {k n:Int} {args:List Vl} {l:List Ofr} (hp:Sh40 p) (hq:Sh40 q) (ha:a.length≤10000000) (hb:b.length≤10000000) (hra: ∀x∈a,R64 x) (hrb: ∀x∈b,R64 x)
  (hr:r.length≤10000000) (hrr: ∀x∈r,R64 x.1/\R64 x.2) (ho:o.length≤10000000) (hn:R64 n) (hg:args.length≤10000000) (hgx: ∀x∈args,Sh40 x) (hl:l.length≤10000000) (hlx: ∀x∈l,Sh40 x.2) (hlr: ∀x∈l,R64 x.1):m_law16_made p q a b r o k n args l=some true:=by
 have hFU:=zeu
 unfold m_law16_made
 rw[rSetVal a (by omega),zaf,rSetVal b (by omega),zaf,rMakeT 17 _ (by simp),zaf,rPairsVal r (by omega),zaf,rMakeT 20 _ (by simp),zaf,zbx]
 have loop: ∀(K:List (Int×Int)->Option Bool) (m i n:Nat) (out:List (Int×Int)),i+m=o.length->m<n->out.length+m≤100000000->m_law16_made_L2 o K n out i=K (out++o.drop i):=by
  intro K m
  induction m with
  |zero=>
   intro i n out hi hn ho
   obtain⟨n,rfl⟩: ∃q,n=q+1:=⟨n - 1,by omega⟩
   rw[m_law16_made_L2,m_law16_made_B2,if_neg (by omega),List.drop_eq_nil_of_le (by omega),List.append_nil]
  |succ m ih=>
   intro i n out hi hn ho
   obtain⟨n,rfl⟩: ∃q,n=q+1:=⟨n - 1,by omega⟩
   have hil:i<o.length:=by omega
   rw[m_law16_made_L2,m_law16_made_B2,if_pos (by omega),zak (by omega),zak (by omega),zcf hil,zak (by simp;omega),zbr (by omega),ih (i+1) n _ (by omega) (by omega) (by simp;omega),List.drop_eq_getElem_cons hil,List.append_assoc];rfl
 have e:=λ K=>loop K o.length 0 FU [] (by omega) (by omega) (by simp;omega)
 rw[Int.natCast_zero,List.drop_zero]at e
 simp only[List.nil_append]at e
 rw[e,rPairsVal o (by omega),zaf,rMakeT 18 _ (by simp),zaf,zbx,rValidOrder o (by omega),zaf]
 have hPr:zgq l=some (preV l):=rPrefix l hl
 have hP:=vPrior (p:=p) (o:=o) hp ho
 unfold priV at hP
 cases hob:ordB o with
 |true=>
  rw[hob,if_pos rfl]at hP
  rw[if_neg (by simp)]
  dsimp only
  rw[rInt,zaf,rMakeT 21 _ (by simp),zaf,zbx,vCall n args hn hg hgx,zaf,rCall n args hg,zaf,if_pos rfl,vPreV l hl hlx hlr,zaf,hPr,zaf,if_pos rfl,vBin k hp hq,zaf,rBin,zaf,if_pos rfl,vGua k hp hq ha hra,zaf,rGua k p q a ha,zaf,if_pos rfl,vAlpha hp hq ha hb hra hrb,zaf,if_pos rfl,vLink hp hq hr hrr,zaf,if_pos rfl,vHide hp ha hra,zaf,zaf,rMakeT 14 _ (by simp),zaf,if_pos rfl,vRename hp hr hrr,zaf,zaf,rMakeT 15 _ (by simp),zaf,if_pos rfl,hP,zaf,if_pos rfl,vChase hp,zaf,rMakeT 19 _ (by simp),zaf,if_pos rfl,vHole,zaf,decide_eq_true rfl]
 |false=>
  rw[hob,if_neg Bool.false_ne_true]at hP
  rw[if_pos (by simp)]
  dsimp only
  rw[rInt,zaf,rMakeT 21 _ (by simp),zaf,zbx,vCall n args hn hg hgx,zaf,rCall n args hg,zaf,if_pos rfl,vPreV l hl hlx hlr,zaf,hPr,zaf,if_pos rfl,vBin k hp hq,zaf,rBin,zaf,if_pos rfl,vGua k hp hq ha hra,zaf,rGua k p q a ha,zaf,if_pos rfl,vAlpha hp hq ha hb hra hrb,zaf,if_pos rfl,vLink hp hq hr hrr,zaf,if_pos rfl,vHide hp ha hra,zaf,zaf,rMakeT 14 _ (by simp),zaf,if_pos rfl,vRename hp hr hrr,zaf,zaf,rMakeT 15 _ (by simp),zaf,if_pos rfl,hP,zaf,if_pos rfl,vChase hp,zaf,rMakeT 19 _ (by simp),zaf,if_pos rfl,vHole,zaf,decide_eq_true rfl]
end
noncomputable section
attribute [local irreducible] FU keyF relF pKeys cKeys
theorem nNext {l:List Int} {i:Int} (h:GSZ l i) {n:Int} (h0:0<n) (h1:n≤1000000): ∃y i',zbe (l,i) n=some (y,(l,i'))/\GSZ l i'/\0≤y/\y<n/\i≤i'/\(y=0∨i+1≤i'):=by
 obtain⟨g1,g2,g3⟩:=h
 unfold zbe
 simp only[]
 by_cases hc:(List.length l:Int)≤i
 .rw[if_pos hc];exact⟨0,i,rfl,⟨g1,g2,g3⟩,by omega,h0,by omega, .inl rfl⟩
 .have e:i64 (i64 (i+1) - 1)=i:=by rw[zev (x:=i+1) (by omega),zev (by omega)];omega
  obtain⟨y,ey,h2,h3⟩:=modZ (gi l i) h0 (by omega)
  rw[if_neg hc,e,zak (by omega),ey,zaf,zev (x:=i+1) (by omega)]
  exact⟨y,_,rfl,⟨by omega,by omega,g3⟩,h2,h3,by omega, .inr (by omega)⟩
theorem nEvent {l:List Int} {i:Int} (h:GSZ l i): ∃y i',zdm (l,i)=some (y,(l,i'))/\GSZ l i'/\2≤y/\y<6/\i≤i':=by
 obtain⟨y,i',e,hg,h0,h1,h2,_⟩:=nNext h (n:=4) (by omega) (by omega)
 unfold zdm
 rw[e,zaf]
 exact⟨_,i',rfl,hg,by rw[zev (by omega)];omega,by rw[zev (by omega)];omega,h2⟩
theorem nSet {l:List Int} {i:Int} (h:GSZ l i): ∃a i',zcc (l,i)=some (setZ a,(l,i'))/\GSZ l i'/\i≤i':=by
 have hFU:=zeu
 obtain⟨y,i1,e1,g1,h0,h1,m1,_⟩:=nNext h (n:=4) (by omega) (by omega)
 unfold zcc
 rw[zbx,e1,zaf]
 have loop: ∀(K:List Int->Int->List Int->Option ((List Int)×((List Int)×Int))) (m n:Nat) (i:Int) (out:List Int),m<n->GSZ l i->out.length+m≤100-> ∃i' out',zes K n l i out m=K l i' out'/\GSZ l i'/\i≤i'/\out'.length≤100:=by
  intro K m
  induction m with
  |zero=>
   intro n i out hn hg ho
   obtain⟨n,rfl⟩: ∃q,n=q+1:=⟨n - 1,by omega⟩
   exact⟨i,out,by rw[zes,zfv,if_neg (by omega)],hg,by omega,by omega⟩
  |succ m ih=>
   intro n i out hn hg ho
   obtain⟨n,rfl⟩: ∃q,n=q+1:=⟨n - 1,by omega⟩
   obtain⟨y,i1,e1,g1,_,_,m1⟩:=nEvent hg
   have es:i64 (((m+1:Nat):Int) - 1)=(m:Int):=by rw[zev (by omega)];omega
   obtain⟨i',out',q1,q2,q3,q4⟩:=ih n i1 (out++[y]) (by omega) g1 (by simp;omega)
   refine⟨i',out', ?_,q2,by omega,q4⟩
   rw[zes,zfv,if_pos (by omega),e1,zaf,zak (by simp;omega),es]
   exact q1
 obtain⟨i',out',q1,q2,q3,q4⟩:=loop (λ b c d=>bnd1 (m_ref16_Set d) (λ y23=>some (y23,(b,c)))) y.toNat FU i1 [] (by omega) g1 (by simp;omega)
 have ey:((y.toNat:Nat):Int)=y:=by omega
 rw[ey]at q1
 refine⟨out',i',q1.trans ?_,q2,by omega⟩
 rw[rSetI _ (by omega),zaf]
theorem nPairs {l:List Int} {i:Int} (h:GSZ l i): ∃r i',zee (l,i)=some (relZ r,(l,i'))/\GSZ l i'/\i≤i':=by
 have hFU:=zeu
 obtain⟨y,i1,e1,g1,h0,h1,m1,_⟩:=nNext h (n:=4) (by omega) (by omega)
 unfold zee
 rw[zbx,e1,zaf]
 have loop: ∀(K:List Int->Int->List (Int×Int)->Option ((List (Int×Int))×((List Int)×Int))) (m n:Nat) (i:Int) (out:List (Int×Int)),m<n->GSZ l i->out.length+m≤100-> ∃i' out',zfs K n l i out m=K l i' out'/\GSZ l i'/\i≤i'/\out'.length≤100:=by
  intro K m
  induction m with
  |zero=>
   intro n i out hn hg ho
   obtain⟨n,rfl⟩: ∃q,n=q+1:=⟨n - 1,by omega⟩
   exact⟨i,out,by rw[zfs,zhr,if_neg (by omega)],hg,by omega,by omega⟩
  |succ m ih=>
   intro n i out hn hg ho
   obtain⟨n,rfl⟩: ∃q,n=q+1:=⟨n - 1,by omega⟩
   obtain⟨y,i1,e1,g1,_,_,m1⟩:=nEvent hg
   obtain⟨z,i2,e2,g2,_,_,m2⟩:=nEvent g1
   have es:i64 (((m+1:Nat):Int) - 1)=(m:Int):=by rw[zev (by omega)];omega
   obtain⟨i',out',q1,q2,q3,q4⟩:=ih n i2 (out++[(y,z)]) (by omega) g2 (by simp;omega)
   refine⟨i',out', ?_,q2,by omega,q4⟩
   rw[zfs,zhr,if_pos (by omega),e1,zaf,e2,zaf,zak (by simp;omega),es]
   exact q1
 obtain⟨i',out',q1,q2,q3,q4⟩:=loop (λ a b c=>bnd1 (zcy c) (λ y29=>some (y29,(a,b)))) y.toNat FU i1 [] (by omega) g1 (by simp;omega)
 have ey:((y.toNat:Nat):Int)=y:=by omega
 rw[ey]at q1
 refine⟨out',i',q1.trans ?_,q2,by omega⟩
 rw[rRel _ (by omega),zaf]
theorem nOrder {l:List Int} {i:Int} (h:GSZ l i): ∃o i',zfw (l,i)=some (o,(l,i'))/\GSZ l i'/\i≤i'/\o.length≤1048576/\ ∀x∈o,pVis x:=by
 have hFU:=zeu
 obtain⟨y,i1,e1,g1,h0,h1,m1,_⟩:=nNext h (n:=4) (by omega) (by omega)
 unfold zfw
 rw[zbx,e1,zaf]
 have loop: ∀(K:List Int->Int->List (Int×Int)->Option ((List (Int×Int))×((List Int)×Int))) (m n:Nat) (i:Int) (out:List (Int×Int)),m<n->out.length+m≤10->GSZ l i->Up out-> ∃i' out',zfq K n l i out m=K l i' out'/\GSZ l i'/\i≤i'/\Up out':=by
  intro K m
  induction m with
  |zero=>
   intro n i out hn ho hg hu
   obtain⟨n,rfl⟩: ∃q,n=q+1:=⟨n - 1,by omega⟩
   exact⟨i,out,by rw[zfq,zho,if_neg (by omega)],hg,by omega,hu⟩
  |succ m ih=>
   intro n i out hn ho hg hu
   obtain⟨n,rfl⟩: ∃q,n=q+1:=⟨n - 1,by omega⟩
   obtain⟨y,i1,e1,g1,ya,yb,m1⟩:=nEvent hg
   obtain⟨z,i2,e2,g2,za,zb,m2⟩:=nEvent g1
   have es:i64 (((m+1:Nat):Int) - 1)=(m:Int):=by rw[zev (by omega)];omega
   rw[zfq,zho,if_pos (by omega)]
   simp only[zbx]
   rw[e1,zaf]
   simp only[]
   rw[e2,zaf,es]
   by_cases h:y=z
   .rw[if_neg (λ h'=>h' h)]
    obtain⟨i',out',q1,q2,q3,q4⟩:=ih n i2 out (by omega) (by omega) g2 hu
    exact⟨i',out',q1,q2,by omega,q4⟩
   .rw[if_pos h,zak (by simp;omega)]
    obtain⟨i',out',q1,q2,q3,q4⟩:=ih n i2 _ (by omega) (by simp;omega) g2 (hu.snoc ⟨ya,yb⟩ ⟨za,zb⟩ h (by omega))
    exact⟨i',out',q1,q2,by omega,q4⟩
 obtain⟨i2,out,e2,g2,m2,hu⟩:=loop (λ a b c=>bnd1 (m_rclose zcy c) (λ y59=>some (y59.1,(a,b)))) y.toNat FU i1 [] (by omega) (by rw[List.length_nil];omega) g1 ⟨λ p hp=>(by cases hp),(by simp)⟩
 have ey:((y.toNat:Nat):Int)=y:=by omega
 rw[ey]at e2
 obtain⟨c1,_,c3⟩:=hu.ok
 refine⟨ordL out,i2,e2.trans ?_,g2,by omega,ordL_len _,c3.1⟩
 rw[rClose _ (by have:=hu.2;omega),zaf,c1]
theorem mkT_len (op:Int) (l:List Vl):(mkT op l).length≤131072:=by
 by_cases h:mkT op l=[]
 .rw[h];simp
 .unfold mkT at h⊢
  split at h
  .rename_i ht
   rw[if_pos ht]
   have:=cmpd_ne.1 h
   rw[cmpd_yes this];exact this.2.2.2
  .exact absurd rfl h
theorem callV_len (f:Int) (a:List Vl):(callV f a).length≤131072:=by unfold callV;split <;>simp[mkT_len]
theorem binV_len (k:Int) (p q:Vl):(binV k p q).length≤131072:=by unfold binV;split <;>simp[mkT_len]
theorem guaV_len (k:Int) (p:Vl) (a:List Int) (q:Vl):(guaV k p a q).length≤131072:=by unfold guaV;split <;>simp[mkT_len]
theorem preV_len (l:List Ofr):(preV l).length≤131072:=by
 unfold preV prefS
 split
 .split <;>simp[mkT_len]
 .simp
theorem rPreV (l:List Ofr) (hl:l.length≤10000000):zgq l=some (preV l):=rPrefix l hl
theorem jn_if {ρ:Type} (p:Prop) [Decidable p] (a b:Int) (k:Int->ρ):jn k (λ k2=>if p then(k2 a)else(k2 b))=k (if p then a else b):=by
 rw[zbx];split <;>rfl
theorem jn_s2 {ρ:Type} (x a b:Int) (k:Bool->ρ):jn k (λ q=>if x=a then(q (decide (x=a)))else(q (decide (x=b))))=k (decide (x=a∨x=b)):=by
 rw[zbx]
 by_cases h:x=a
 .rw[if_pos h,decide_eq_true h,decide_eq_true (.inl h)]
 .rw[if_neg h];congr 1;exact decide_eq_decide.2 ⟨.inr,λ h'=>h'.resolve_left h⟩
theorem jn_s3 {ρ:Type} (x a b c:Int) (k:Bool->ρ):jn k (λ q=>if x=a then(q (decide (x=a)))else(if x=b then(q (decide (x=b)))else(q (decide (x=c)))))=k (decide (x=a∨x=b∨x=c)):=by
 rw[zbx]
 by_cases h:x=a
 .rw[if_pos h,decide_eq_true h,decide_eq_true (.inl h)]
 .rw[if_neg h]
  have:=jn_s2 x b c k
  rw[zbx]at this
  rw[this];congr 1;exact decide_eq_decide.2 ⟨.inr,λ h'=>h'.resolve_left h⟩
theorem jn_s4 {ρ:Type} (x a b c d:Int) (k:Bool->ρ):jn k (λ q=>if x=a then(q (decide (x=a)))else(if x=b then(q (decide (x=b)))else(if x=c then(q (decide (x=c)))else(q (decide (x=d))))))=k (decide (x=a∨x=b∨x=c∨x=d)):=by
 rw[zbx]
 by_cases h:x=a
 .rw[if_pos h,decide_eq_true h,decide_eq_true (.inl h)]
 .rw[if_neg h]
  have:=jn_s3 x b c d k
  rw[zbx]at this
  rw[this];congr 1;exact decide_eq_decide.2 ⟨.inr,λ h'=>h'.resolve_left h⟩
theorem jn_s5 {ρ:Type} (x a b c d e:Int) (k:Bool->ρ):jn k (λ q=>if x=a then(q (decide (x=a)))else(if x=b then(q (decide (x=b)))else(if x=c then(q (decide (x=c)))else(if x=d then(q (decide (x=d)))else(q (decide (x=e)))))))=k (decide (x=a∨x=b∨x=c∨x=d∨x=e)):=by
 rw[zbx]
 by_cases h:x=a
 .rw[if_pos h,decide_eq_true h,decide_eq_true (.inl h)]
 .rw[if_neg h]
  have:=jn_s4 x b c d e k
  rw[zbx]at this
  rw[this];congr 1;exact decide_eq_decide.2 ⟨.inr,λ h'=>h'.resolve_left h⟩
abbrev TmR:=Vl×((List Int)×Int)
def TOk (l:List Int) (i:Int) (x:Option TmR):Prop:= ∃v i',x=some (v,(l,i'))/\GSZ l i'/\i≤i'/\v.length≤131072
theorem TOk.le {l:List Int} {i j:Int} {x:Option TmR} (h:TOk l j x) (hij:i≤j):TOk l i x:=by
 obtain⟨v,i',e,g,m,n⟩:=h
 exact⟨v,i',e,g,by omega,n⟩
theorem term_F (self:(List Int)×Int->Int->Int->Option TmR) (c:Int) (hc:0≤c/\c≤1000) (l:List Int) (i d:Int) (hg:GSZ l i) (hs: ∀i2 d2,GSZ l i2->i+1≤i2->TOk l i2 (self (l,i2) d2 c)):TOk l i (zji self (l,i) d c):=by
 have hFU:=zeu
 obtain⟨k0,i1,e1,g1,k1,k2,m1,m2⟩:=nNext hg (n:=22) (by omega) (by omega)
 unfold zji
 dsimp only
 rw[e1,zaf,jn_if]
 dsimp only
 have hk:0≤(if d≤1 then Int.tmod k0 5 else k0)/\(if d≤1 then Int.tmod k0 5 else k0)<22/\((if d≤1 then Int.tmod k0 5 else k0)=0∨i+1≤i1):=by
  obtain⟨z,rfl⟩: ∃z:Nat,k0=z:=⟨k0.toNat,by omega⟩
  have:=tmod_nat z 5
  rw[show((5:Nat):Int)=5 from rfl]at this
  rw[this]
  split
  .refine⟨by omega,by omega, ?_⟩
   rcases m2 with h|h
   .left;omega
   .exact .inr h
  .exact⟨by omega,by omega,m2⟩
 generalize(if d≤1 then Int.tmod k0 5 else k0)=k at hk
 obtain⟨ka,kb,kc⟩:=hk
 rw[zbx]
 have mk1: ∀(op:Int) (a:List Vl) (i2:Int),a.length≤1000->GSZ l i2->i≤i2->TOk l i (bnd1 (zbm op a) (λ y=>some (y,(l,i2)))):=λ op a i2 ha g h=>by
  rw[rMakeT op a (by omega),zaf];exact⟨_,i2,rfl,g,h,mkT_len _ _⟩
 by_cases c0:k=0
 .rw[if_pos c0]
  by_cases hc0:0<c
  .obtain⟨y,i2,e2,g2,_,_,m3,_⟩:=nNext g1 (n:=c) hc0 (by omega)
   rw[if_pos hc0,e2,zaf,rCall _ _ (by simp),zaf]
   exact⟨_,i2,rfl,g2,by omega,callV_len _ _⟩
  .rw[if_neg hc0];exact mk1 1 [] i1 (by simp) g1 m1
 rw[if_neg c0]
 have hi1:i+1≤i1:=kc.resolve_left c0
 by_cases c1:k=1
 .rw[if_pos c1];exact mk1 1 [] i1 (by simp) g1 m1
 rw[if_neg c1]
 by_cases c2:k=2
 .rw[if_pos c2];exact mk1 2 [] i1 (by simp) g1 m1
 rw[if_neg c2]
 by_cases c3:k=3
 .obtain⟨y,i2,e2,g2,_,_,m3,_⟩:=nNext g1 (n:=4) (by omega) (by omega)
  rw[if_pos c3,e2,zaf]
  dsimp only
  by_cases hy:y=3
  .rw[if_pos hy];exact mk1 3 [] i2 (by simp) g2 (by omega)
  .obtain⟨z,i3,e3,g3,_,_,m4⟩:=nEvent g2
   rw[if_neg hy,e3,zaf,rMakeT 2 [] (by simp),zaf,rPreV _ (by simp),zaf]
   exact⟨_,i3,rfl,g3,by omega,preV_len _⟩
 rw[if_neg c3,jn_s5]
 dsimp only
 by_cases c4:k=4∨k=5∨k=6∨k=7∨k=8
 .rw[if_pos (decide_eq_true c4),zbx]
  obtain⟨y,i2,e2,g2,ya,yb,m3,_⟩:=nNext g1 (n:=2) (by omega) (by omega)
  have loop: ∀(K:List Int->Int->List Ofr->Option TmR) (m n:Nat) (i0:Int) (out:List Ofr),m<n->GSZ l i0->i1≤i0->out.length+m≤100-> ∃i' out',zgj self d c K n l i0 out m=K l i' out'/\GSZ l i'/\i0≤i'/\out'.length≤100:=by
   intro K m
   induction m with
   |zero=>
    intro n i0 out hn hg hi ho
    obtain⟨n,rfl⟩: ∃q,n=q+1:=⟨n - 1,by omega⟩
    exact⟨i0,out,by rw[zgj,zit,if_neg (by omega)],hg,by omega,by omega⟩
   |succ m ih=>
    intro n i0 out hn hg hi ho
    obtain⟨n,rfl⟩: ∃q,n=q+1:=⟨n - 1,by omega⟩
    obtain⟨y,i2,e2,g2,_,_,m2⟩:=nEvent hg
    obtain⟨v,i3,e3,g3,m3,_⟩:=hs i2 (i64 (d - 1)) g2 (by omega)
    have es:i64 (((m+1:Nat):Int) - 1)=(m:Int):=by rw[zev (by omega)];omega
    obtain⟨i',out',q1,q2,q3,q4⟩:=ih n i3 (out++[(y,v)]) (by omega) g3 (by omega) (by simp;omega)
    refine⟨i',out', ?_,q2,by omega,q4⟩
    rw[zgj,zit,if_pos (by omega),e2,zaf,e3,zaf,zak (by simp;omega),es]
    exact q1
  rw[e2,zaf]
  dsimp only
  have ey:i64 (1+y)=((1+y).toNat:Int):=by rw[zev (by omega)];omega
  obtain⟨i',out',q1,q2,q3,q4⟩:=loop (λ f p r=>bnd1 (zgq r) (λ y160=>some (y160,(f,p)))) (1+y).toNat FU i2 [] (by omega) g2 m3 (by simp;omega)
  rw[ey]
  refine⟨_,i',q1.trans ?_,q2,by omega,preV_len out'⟩
  rw[rPreV _ (by omega),zaf]
 rw[if_neg (λ h=>c4 (of_decide_eq_true h)),jn_s2]
 by_cases c9:k=9∨k=10
 .obtain⟨y,i2,e2,g2,ya,yb,m3,_⟩:=nNext g1 (n:=5) (by omega) (by omega)
  obtain⟨v,i3,e3,g3,m4,_⟩:=hs i2 (i64 (d - 1)) g2 (by omega)
  obtain⟨w,i4,e4,g4,m5,_⟩:=hs i3 (i64 (d - 1)) g3 (by omega)
  rw[if_pos (decide_eq_true c9),e2,zaf]
  dsimp only
  rw[zak (by simp;omega),e3,zaf]
  dsimp only
  rw[e4,zaf,rBin,zaf]
  exact⟨_,i4,rfl,g4,by omega,binV_len _ _ _⟩
 rw[if_neg (λ h=>c9 (of_decide_eq_true h))]
 by_cases c11:k=11
 .obtain⟨v,i3,e3,g3,m4,_⟩:=hs i1 (i64 (d - 1)) g1 (by omega)
  obtain⟨w,i4,e4,g4,m5,_⟩:=hs i3 (i64 (d - 1)) g3 (by omega)
  rw[if_pos c11,e3,zaf]
  dsimp only
  rw[e4,zaf,rBin,zaf]
  exact⟨_,i4,rfl,g4,by omega,binV_len _ _ _⟩
 rw[if_neg c11]
 by_cases c12:k=12
 .obtain⟨v,i3,e3,g3,m4,_⟩:=hs i1 (i64 (d - 1)) g1 (by omega)
  obtain⟨w,i4,e4,g4,m5,_⟩:=hs i3 (i64 (d - 1)) g3 (by omega)
  rw[if_pos c12,e3,zaf]
  dsimp only
  rw[e4,zaf,rBin,zaf]
  exact⟨_,i4,rfl,g4,by omega,binV_len _ _ _⟩
 rw[if_neg c12,jn_s3]
 by_cases c13:k=13∨k=14∨k=15
 .obtain⟨y,i2,e2,g2,ya,yb,m3,_⟩:=nNext g1 (n:=3) (by omega) (by omega)
  obtain⟨v,i3,e3,g3,m4,_⟩:=hs i2 (i64 (d - 1)) g2 (by omega)
  obtain⟨a,i4,e4,g4,m5⟩:=nSet g3
  obtain⟨w,i5,e5,g5,m6,_⟩:=hs i4 (i64 (d - 1)) g4 (by omega)
  have hz:=setZ_len a
  rw[if_pos (decide_eq_true c13),e2,zaf]
  dsimp only
  rw[zak (by simp;omega),e3,zaf]
  dsimp only
  rw[e4,zaf]
  dsimp only
  rw[e5,zaf,rGua _ _ _ _ (by omega),zaf]
  exact⟨_,i5,rfl,g5,by omega,guaV_len _ _ _ _⟩
 rw[if_neg (λ h=>c13 (of_decide_eq_true h))]
 by_cases c16:k=16
 .obtain⟨v,i3,e3,g3,m4,_⟩:=hs i1 (i64 (d - 1)) g1 (by omega)
  obtain⟨a,i4,e4,g4,m5⟩:=nSet g3
  obtain⟨b,i5,e5,g5,m6⟩:=nSet g4
  obtain⟨w,i6,e6,g6,m7,_⟩:=hs i5 (i64 (d - 1)) g5 (by omega)
  have hz:=setZ_len a
  have hz':=setZ_len b
  rw[if_pos c16,e3,zaf]
  dsimp only
  rw[e4,zaf]
  dsimp only
  rw[rSetVal _ (by omega),zaf,e5,zaf]
  dsimp only
  rw[rSetVal _ (by omega),zaf,e6,zaf]
  exact mk1 17 _ i6 (by simp) g6 (by omega)
 rw[if_neg c16]
 by_cases c17:k=17
 .obtain⟨v,i3,e3,g3,m4,_⟩:=hs i1 (i64 (d - 1)) g1 (by omega)
  obtain⟨a,i4,e4,g4,m5⟩:=nPairs g3
  obtain⟨w,i6,e6,g6,m7,_⟩:=hs i4 (i64 (d - 1)) g4 (by omega)
  have hz:=relZ_len a
  rw[if_pos c17,e3,zaf]
  dsimp only
  rw[e4,zaf]
  dsimp only
  rw[rPairsVal _ (by omega),zaf,e6,zaf]
  exact mk1 20 _ i6 (by simp) g6 (by omega)
 rw[if_neg c17]
 by_cases c18:k=18
 .obtain⟨v,i3,e3,g3,m4,_⟩:=hs i1 (i64 (d - 1)) g1 (by omega)
  obtain⟨a,i4,e4,g4,m5⟩:=nSet g3
  have hz:=setZ_len a
  rw[if_pos c18,e3,zaf]
  dsimp only
  rw[e4,zaf]
  dsimp only
  rw[rSetVal _ (by omega),zaf]
  exact mk1 14 _ i4 (by simp) g4 (by omega)
 rw[if_neg c18]
 by_cases c19:k=19
 .obtain⟨v,i3,e3,g3,m4,_⟩:=hs i1 (i64 (d - 1)) g1 (by omega)
  obtain⟨a,i4,e4,g4,m5⟩:=nPairs g3
  have hz:=relZ_len a
  rw[if_pos c19,e3,zaf]
  dsimp only
  rw[e4,zaf]
  dsimp only
  rw[rPairsVal _ (by omega),zaf]
  exact mk1 15 _ i4 (by simp) g4 (by omega)
 rw[if_neg c19]
 by_cases c20:k=20
 .obtain⟨o,i3,e3,g3,m4,ol,_⟩:=nOrder g1
  obtain⟨v,i4,e4,g4,m5,_⟩:=hs i3 (i64 (d - 1)) g3 (by omega)
  have loop: ∀(K:List (Int×Int)->Option TmR) (m j n:Nat) (out:List (Int×Int)),j+m=o.length->m<n->out.length+m≤100000000->zgm (o,(l,i3)) K n out j=K (out++o.drop j):=by
   intro K m
   induction m with
   |zero=>
    intro j n out hi hn ho
    obtain⟨n,rfl⟩: ∃q,n=q+1:=⟨n - 1,by omega⟩
    rw[zgm,zik,if_neg (by dsimp only;omega),List.drop_eq_nil_of_le (by omega),List.append_nil]
   |succ m ih=>
    intro j n out hi hn ho
    obtain⟨n,rfl⟩: ∃q,n=q+1:=⟨n - 1,by omega⟩
    have hil:j<o.length:=by omega
    rw[zgm,zik]
    dsimp only
    rw[if_pos (by omega),zak (by omega),zak (by omega),zcf hil,zak (by simp;omega),zbr (by omega),ih (j+1) n _ (by omega) (by omega) (by simp;omega),List.drop_eq_getElem_cons hil,List.append_assoc];rfl
  rw[if_pos c20,e3,zaf,zbx]
  have e:=loop (λ s=>bnd1 (self (l,i3) (i64 (d - 1)) c) (λ y233=>bnd1 (zdt s) (λ y234=>bnd1 (zbm 18 [y233.1,y234]) (λ y235=>some (y235,(y233.2.1,y233.2.2)))))) o.length 0 FU [] (by omega) (by omega) (by simp;omega)
  rw[Int.natCast_zero,List.drop_zero,List.nil_append]at e
  have fin:TOk l i (bnd1 (self (l,i3) (i64 (d - 1)) c) (λ y233=>bnd1 (zdt o) (λ y234=>bnd1 (zbm 18 [y233.1,y234]) (λ y235=>some (y235,(y233.2.1,y233.2.2)))))):=by
   rw[e4,zaf,rPairsVal _ (by omega),zaf]
   exact mk1 18 _ i4 (by simp) g4 (by omega)
  rw[←e]at fin
  exact fin
 rw[if_neg c20]
 obtain⟨v,i3,e3,g3,m4,_⟩:=hs i1 (i64 (d - 1)) g1 (by omega)
 rw[e3,zaf]
 exact mk1 19 _ i3 (by simp) g3 (by omega)
theorem term_S (c:Int) (hc:0≤c/\c≤1000): ∀(r n:Nat),r<n-> ∀(l:List Int) (i d:Int),GSZ l i->(l.length:Int) - i≤r->TOk l i (zfm n (l,i) d c):=by
 intro r
 induction r with
 |zero=>
  intro n hn l i d hg hr
  obtain⟨n,rfl⟩: ∃q,n=q+1:=⟨n - 1,by omega⟩
  rw[zfm]
  exact term_F _ c hc l i d hg (λ i2 d2 g2 h2=>by have:=g2.2.1;omega)
 |succ r ih=>
  intro n hn l i d hg hr
  obtain⟨n,rfl⟩: ∃q,n=q+1:=⟨n - 1,by omega⟩
  rw[zfm]
  exact term_F _ c hc l i d hg (λ i2 d2 g2 h2=>ih n (by omega) l i2 d2 g2 (by omega))
theorem gTerm {l:List Int} {i:Int} (hg:GSZ l i) (d c:Int) (hc:0≤c/\c≤1000):TOk l i (zma (l,i) d c):=by
 have hFU:=zeu
 obtain⟨g1,g2,g3⟩:=hg
 exact term_S c hc l.length FU (by omega) l i d ⟨g1,g2,g3⟩ (by omega)
end
noncomputable section
attribute [local irreducible] FU keyF relF pKeys cKeys
theorem mkT_yes {op:Int} {l:List Vl} {k:Nat} (hk:k≤30) (hv: ∀x∈l,IsV (k+1) x) (hl:l.length≤1000) (hf:l.flatten.length≤100000) (ho:1≤op/\op≤21) (hb:tbody (tw 32) op l=true):
  mkT op l=raw 9 (intW op::l)/\IsV (k+2) (mkT op l)/\prtW (mkT op l)=intW op::l/\kindW (mkT op l)=9/\tmB (mkT op l)=true/\(mkT op l).length=l.flatten.length+12:=by
 have hfm:formedB 9 (intW op::l)=true:=by
  have:formedB 9 (intW op::l)=(decide (1≤(intW op::l).length) && betB (intW op) 1 21):=by simp[formedB,gi2_00]
  rw[this]
  unfold betB
  rw[numV_intW (by omega),show gi (intW op) 0=1 from rfl,decide_eq_true ho.1,decide_eq_true ho.2]
  simp
 obtain⟨q1,q2,q3,q4,q5⟩:=comp_ok (c:=9) (by decide) (k:=k+1) (by omega) (l:=intW op::l) (λ x hx=>by
  rcases List.mem_cons.1 hx with rfl|hx
  .exact intW_IsV _ _
  .exact hv x hx) (by rw[List.length_cons];omega) (by rw[List.flatten_cons,List.length_append,intW_len];omega) hfm
 have hk9:kindW (raw 9 (intW op::l))=9:=q4
 have ht:tmB (raw 9 (intW op::l))=true:=by
  unfold tmB
  rw[tw,tb,if_pos hk9,q3,show gi (intW op::l) 0=intW op from rfl,num_intW (by omega)]
  exact hb
 have e:mkT op l=raw 9 (intW op::l):=by unfold mkT;rw[q1,if_pos ht]
 rw[e]
 exact⟨rfl,q2,q3,hk9,ht,by rw[raw_len,List.flatten_cons,List.length_append,intW_len];omega⟩
theorem tbody_small (op:Int) (h:op=1∨op=2∨op=3∨op=4):tbody (tw 32) op []=true:=by unfold tbody;rw[if_pos h];rfl
theorem awake16:m_law16_awake=some true:=by
 obtain⟨a1,a2,a3,a4,a5,a6⟩:=mkT_yes (op:=1) (l:=[]) (k:=0) (by omega) (by simp) (by simp) (by simp) (by omega) (tbody_small 1 (.inl rfl))
 obtain⟨b1,b2,b3,b4,b5,b6⟩:=mkT_yes (op:=2) (l:=[]) (k:=0) (by omega) (by simp) (by simp) (by simp) (by omega) (tbody_small 2 (.inr (.inl rfl)))
 generalize hst:mkT 1 []=st at a1 a2 a3 a4 a5 a6
 generalize hsk:mkT 2 []=sk at b1 b2 b3 b4 b5 b6
 have ts:tw 32 st=true:=by rw[tw_same (λ _=>a2.le (by omega))];exact a5
 have tk:tw 32 sk=true:=by rw[tw_same (λ _=>b2.le (by omega))];exact b5
 have n2:numW (intW 2)=2:=num_intW (by omega)
 have n3:numW (intW 3)=3:=num_intW (by omega)
 have e2:evB (intW 2)=true:=by unfold evB;rw[kind_intW,n2];decide
 have e3:evB (intW 3)=true:=by unfold evB;rw[kind_intW,n3];decide
 have hlt:cmpO (2,sk) (3,st)<0:=cmpO_lt0.2 (.inl (by dsimp only;omega))
 have hso:sortO [(3,st),(2,sk)]=[(2,sk),(3,st)]:=(sortO_ext (l:=[(3,st),(2,sk)]) (s:=[(2,sk),(3,st)]) (by simp[hlt]) (λ x=>by simp[or_comm])).symm
 have hb:tbody (tw 32) 6 [intW 2,sk,intW 3,st]=true:=by
  unfold tbody
  rw[if_neg (by decide),if_neg (by decide),if_pos rfl]
  unfold offB
  simp only[prsChk,prsW,ascO,e2,e3,ts,tk,n2,n3,hlt]
  simp[ascO,hlt]
 obtain⟨p1,p2,p3,p4,p5,p6⟩:=mkT_yes (op:=6) (l:=[intW 2,sk,intW 3,st]) (k:=1) (by omega) (λ x hx=>by
  simp at hx
  rcases hx with rfl|rfl|rfl|rfl
  .exact intW_IsV _ _
  .exact b2
  .exact intW_IsV _ _
  .exact a2) (by simp) (by simp[intW_len,a6,b6]) (by omega) hb
 have hpre:preV [(3,st),(2,sk)]=mkT 6 [intW 2,sk,intW 3,st]:=by
  unfold preV prefS
  have hg:([(3,st),(2,sk)]:List Ofr).all goodO=true:=by
   simp[goodO,a5,b5]
  rw[if_pos hg,if_neg (by simp),hso];rfl
 have hstop:zfu=some st:=by rw[vStop,hst]
 have hskip:zha=some sk:=by
  unfold zha
  rw[vMade 2 [] (by simp) (by simp),zaf,hsk]
 have shs:Sh40 st:=by unfold Sh40;rw[a6];simp
 have shk:Sh40 sk:=by unfold Sh40;rw[b6];simp
 have hP:zgh [(3,st),(2,sk)]=some (mkT 6 [intW 2,sk,intW 3,st]):=by
  rw[vPreV _ (by simp) (λ x hx=>by simp at hx;rcases hx with rfl|rfl;exact shs;exact shk) (λ x hx=>by simp at hx;rcases hx with rfl|rfl <;>(unfold R64;dsimp only;omega)),hpre]
 generalize hpp:mkT 6 [intW 2,sk,intW 3,st]=pp at p1 p2 p3 p4 p5 p6 hP
 have hsplit:zfe pp=some (6,[intW 2,sk,intW 3,st]):=by
  unfold zfe
  rw[vKind,zaf,if_neg (λ h=>h p4),vPartsW,zaf,p3,zak (by simp),show gi (intW 6::[intW 2,sk,intW 3,st]) 0=intW 6 from rfl,vNum,zaf,zak (by simp),num_intW (by omega)];rfl
 have hoff:m_procterm_Offers pp=some [(2,sk),(3,st)]:=by
  unfold m_procterm_Offers m_procterm_open
  rw[vTerm,zaf,p5,if_neg (by simp),hsplit,zaf,zaf]
  dsimp only
  rw[if_neg (by simp),vPairUp _ (by simp) (by simp),zaf]
  simp only[prsW,n2,n3]
 have hhide:zkl st [0]=some []:=by
  rw[vHide shs (by simp) (λ x hx=>by simp at hx;subst hx;unfold R64;omega)]
  have:sVal [0]=[]:=by unfold sVal;rw[if_neg (by decide)]
  rw[this,mk_vd (x:=[]) (by simp) nVd]
 unfold m_law16_awake
 rw[hstop,zaf,hskip,zaf,hP,zaf,hoff,zaf,zbx]
 unfold m_procterm_Valid m_procterm_Op
 rw[vTerm,zaf,zaf,p5,if_pos rfl,zaf,if_neg (by simp),hsplit,zaf,zaf]
 dsimp only
 rw[if_pos rfl,if_pos (by simp),zak (by simp),if_pos (by rfl),zak (by simp),rMakeT 2 [] (by simp),zaf,hsk,if_pos (by rfl),zaf,hhide,zaf];rfl
theorem wf64 {x:Int} (h:(Lit.int .i64 x).wf=true):R64 x:=by
 have:IntKind.i64.min≤x/\x≤IntKind.i64.max:=by simpa[Lit.wf]using h
 have e1:IntKind.i64.min= -9223372036854775808:=by decide
 have e2:IntKind.i64.max=9223372036854775807:=by decide
 unfold R64;omega
theorem vis_R {x:Int} (h:cVis x):R64 x:=by have:=h.1;have:=h.2;unfold R64;omega
theorem proctermMakes_true (x0 x1:Vl) (x2 x3:List Int) (x4 x5:List (Int×Int)) (x6 x7:Int) (x8:List Vl) (x9:List Ofr) (x10:List Int) (_:x0.length≤maxLen) (_:x1.length≤maxLen)
  (h2:x2.length≤maxLen/\ ∀x∈x2,(Lit.int .i64 x).wf=true) (h3:x3.length≤maxLen/\ ∀x∈x3,(Lit.int .i64 x).wf=true) (h4:x4.length≤maxLen/\ ∀x∈x4,(Lit.int .i64 x.1).wf=true/\(Lit.int .i64 x.2).wf=true) (_:x5.length≤maxLen/\ ∀x∈x5,(Lit.int .i64 x.1).wf=true/\(Lit.int .i64 x.2).wf=true)
  (_:(Lit.int .i64 x6).wf=true) (h7:(Lit.int .i64 x7).wf=true) (_:x8.length≤maxLen/\ ∀x∈x8,x.length≤maxLen) (h9:x9.length≤maxLen/\ ∀x∈x9,(Lit.int .i64 x.1).wf=true/\x.2.length≤maxLen) (h10:x10.length≤maxLen/\ ∀x∈x10,(Lit.int .i64 x).wf=true)
  (hsz:(x0.length+1)+(x1.length+1)+(szL (λ _:Int=>1) x2+1)+(szL (λ _:Int=>1) x3+1)+(szL (λ _:Int×Int=>1+1) x4+1)+(szL (λ _:Int×Int=>1+1) x5+1)+1+1+(szL (λ x:Vl=>x.length+1) x8+1)+(szL (λ x:Ofr=>1+(x.2.length+1)) x9+1)+(szL (λ _:Int=>1) x10+1)≤1048576):zlj x0 x1 x2 x3 x4 x5 x6 x7 x8 x9 x10=some true:=by
 have hFU:=zeu
 have l2:=szL_len (sz:=λ _:Int=>1) (λ _=>Nat.le_refl 1) x2
 have l3:=szL_len (sz:=λ _:Int=>1) (λ _=>Nat.le_refl 1) x3
 have l4:=szL_len (sz:=λ _:Int×Int=>1+1) (λ _=>by omega) x4
 have l5:=szL_len (sz:=λ _:Int×Int=>1+1) (λ _=>by omega) x5
 have l8:=szL_len (sz:=λ x:Vl=>x.length+1) (λ _=>by omega) x8
 have l9:=szL_len (sz:=λ x:Ofr=>1+(x.2.length+1)) (λ _=>by omega) x9
 have m8: ∀x∈x8,Sh40 x:=λ x hx=>by have:=szL_mem (sz:=λ x:Vl=>x.length+1) hx;unfold Sh40;omega
 have m9: ∀x∈x9,Sh40 x.2:=λ x hx=>by have:=szL_mem (sz:=λ x:Ofr=>1+(x.2.length+1)) hx;unfold Sh40;omega
 have g0:GSZ x10 0:=⟨by omega,by omega,by have:=h10.1;unfold maxLen at this;omega⟩
 obtain⟨s,i1,e1,g1,_,sl⟩:=gTerm g0 3 2 (by omega)
 obtain⟨t,i2,e2,g2,_,tl⟩:=gTerm g1 2 2 (by omega)
 obtain⟨y,i3,e3,g3,ya,yb,_,_⟩:=nNext g2 (n:=5) (by omega) (by omega)
 unfold zlj m_gen_New
 rw[zaf]
 dsimp only
 rw[e1,zaf];dsimp only
 rw[e2,zaf];dsimp only
 rw[zbx,e3,zaf]
 dsimp only
 have loop: ∀(K:List Int->Int->List Ofr->Option Bool) (m n:Nat) (i0:Int) (out:List Ofr),m<n->GSZ x10 i0->out.length+m≤100->(∀x∈out,Sh40 x.2/\R64 x.1)-> ∃i' out',zez K n x10 i0 out m=K x10 i' out'/\GSZ x10 i'/\out'.length≤100/\ ∀x∈out',Sh40 x.2/\R64 x.1:=by
  intro K m
  induction m with
  |zero=>
   intro n i0 out hn hg ho hx
   obtain⟨n,rfl⟩: ∃q,n=q+1:=⟨n - 1,by omega⟩
   exact⟨i0,out,by rw[zez,zgl,if_neg (by omega)],hg,by omega,hx⟩
  |succ m ih=>
   intro n i0 out hn hg ho hx
   obtain⟨n,rfl⟩: ∃q,n=q+1:=⟨n - 1,by omega⟩
   obtain⟨y,i2,e2,g2,ya,yb,m2⟩:=nEvent hg
   obtain⟨v,i3,e3,g3,m3,vl⟩:=gTerm g2 2 1 (by omega)
   have es:i64 (((m+1:Nat):Int) - 1)=(m:Int):=by rw[zev (by omega)];omega
   rw[zez,zgl,if_pos (by omega),e2,zaf,e3,zaf,zak (by simp;omega),es]
   exact ih n i3 _ (by omega) g3 (by simp;omega) (λ x h=>by
    rcases List.mem_append.1 h with h|h
    .exact hx x h
    .rw[List.mem_singleton]at h;subst h
     exact⟨by unfold Sh40;dsimp only;omega,by unfold R64;dsimp only;omega⟩)
 obtain⟨i4,m,e4,g4,ml,mx⟩:=loop (λ c d f=>jn (λ(g:Bool)=>some g) (λ k33=>bnd1 (m_law16_awake) (λ y63=>if y63 then(bnd1 (zfu) (λ y64=>bnd1 (zbm 1 ([]:List (List UInt8))) (λ y65=>if y64=y65 then(bnd1 (zha) (λ y66=>bnd1 (zbm 2 ([]:List (List UInt8))) (λ y67=>if y66=y67 then(bnd1 (m_procterm_Div) (λ y68=>bnd1 (zbm 3 ([]:List (List UInt8))) (λ y69=>if y68=y69 then(bnd1 (zle) (λ y70=>bnd1 (m_ref16_Omega) (λ y71=>if y70=y71 then(bnd1 (m_law16_made x0 x1 x2 x3 x4 x5 x6 x7 x8 x9) (λ y72=>if y72 then(bnd1 (zcc (c,d)) (λ y73=>bnd1 (zcc (y73.2.1,y73.2.2)) (λ y75=>need (List.length y73.1+List.length y75.1≤137438953472) (bnd1 (zcc (y75.2.1,y75.2.2)) (λ y79=>bnd1 (zee (y79.2.1,y79.2.2)) (λ y81=>bnd1 (zee (y81.2.1,y81.2.2)) (λ y83=>need (List.length y81.1+List.length y83.1≤137438953472) (bnd1 (zfw (y83.2.1,y83.2.2)) (λ y87=>bnd1 (zbe (y87.2.1,y87.2.2) 23) (λ y88=>bnd1 (zbe (y88.2.1,y88.2.2) 14) (λ y89=>bnd1 (zdn zfy (y89.2.1,y89.2.2) 2 4) (λ y90=>bnd1 (m_law16_made s t (y73.1++y75.1) y79.1 (y81.1++y83.1) y87.1 y88.1 y89.1 y90.1 f) (λ y91=>k33 y91)))))))))))))else(k33 false)))else(k33 false))))else(k33 false))))else(k33 false))))else(k33 false))))else(k33 false)))) y.toNat FU i3 [] (by omega) g3 (by simp;omega) (by simp)
 have ey:((y.toNat:Nat):Int)=y:=by omega
 rw[ey]at e4
 refine e4.trans ?_
 obtain⟨a,i5,e5,g5,_⟩:=nSet g4
 obtain⟨b,i6,e6,g6,_⟩:=nSet g5
 obtain⟨cc,i7,e7,g7,_⟩:=nSet g6
 obtain⟨r,i8,e8,g8,_⟩:=nPairs g7
 obtain⟨r',i9,e9,g9,_⟩:=nPairs g8
 obtain⟨o,iA,eA,gA,_,ol,ov⟩:=nOrder g9
 obtain⟨k,iB,eB,gB,_,_,_,_⟩:=nNext gA (n:=23) (by omega) (by omega)
 obtain⟨n,iC,eC,gC,na,nb,_,_⟩:=nNext gB (n:=14) (by omega) (by omega)
 have gC':GS x10 iC:=gC
 obtain⟨L,iD,eD,gD,Ll,Lp⟩:=gValuesP zfy 2 _ (gValueP 2 (by omega)) gC' (most:=4) (by omega) (by omega)
 have za:=setZ_len a
 have zb:=setZ_len b
 have zc:=setZ_len cc
 have zr:=relZ_len r
 have zr':=relZ_len r'
 have hdiv:m_procterm_Div=some (mkT 3 []):=by unfold m_procterm_Div;rw[vMade 3 [] (by simp) (by simp),zaf]
 have hskip:zha=some (mkT 2 []):=by unfold zha;rw[vMade 2 [] (by simp) (by simp),zaf]
 have homega:zle=some (mkT 4 []):=by unfold zle;rw[vMade 4 [] (by simp) (by simp),zaf]
 have hromega:m_ref16_Omega=some (mkT 4 []):=by unfold m_ref16_Omega;rw[rMakeT 4 [] (by simp),zaf]
 rw[zbx,awake16,zaf,if_pos rfl,vStop,zaf,rMakeT 1 [] (by simp),zaf,if_pos rfl,hskip,zaf,rMakeT 2 [] (by simp),zaf,if_pos rfl,hdiv,zaf,rMakeT 3 [] (by simp),zaf,if_pos rfl,homega,zaf,hromega,zaf,if_pos rfl,
  made_true (by unfold Sh40;omega) (by unfold Sh40;omega) (by omega) (by omega) (λ x hx=>wf64 (h2.2 x hx)) (λ x hx=>wf64 (h3.2 x hx)) (by omega) (λ x hx=>⟨wf64 (h4.2 x hx).1,wf64 (h4.2 x hx).2⟩) (by omega) (wf64 h7) (by omega) m8 (by omega) m9 (λ x hx=>wf64 (h9.2 x hx).1),zaf,if_pos rfl,e5,zaf,e6,zaf,zak (by dsimp only;omega),e7,zaf,e8,zaf,e9,zaf,zak (by dsimp only;omega),eA,zaf];dsimp only
 rw[eB,zaf];dsimp only
 rw[eC,zaf];dsimp only
 rw[eD,zaf];dsimp only
 have vsz: ∀(z:List Int), ∀x∈setZ z,R64 x:=λ z x hx=>vis_R (setZ_mem.1 hx).1
 have vrz: ∀(z:List (Int×Int)), ∀x∈relZ z,R64 x.1/\R64 x.2:=λ z x hx=>⟨vis_R (relZ_mem.1 hx).1.1,vis_R (relZ_mem.1 hx).1.2⟩
 rw[made_true (by unfold Sh40;omega) (by unfold Sh40;omega) (by rw[List.length_append];omega) (by omega) (λ x hx=>by
  rcases List.mem_append.1 hx with h|h
  .exact vsz a x h
  .exact vsz b x h) (vsz cc) (by rw[List.length_append];omega) (λ x hx=>by
  rcases List.mem_append.1 hx with h|h
  .exact vrz r x h
  .exact vrz r' x h) (by omega) (by unfold R64;omega) (by omega) (λ x hx=>by have:=(Lp x hx).2;have e:szV 2=48:=rfl;unfold Sh40;omega) (by omega) (λ x hx=>(mx x hx).1) (λ x hx=>(mx x hx).2),zaf]
end
noncomputable section
open Go.ChangeShapes Go.WideShapes Go.ChangeAt Go.RowKit
theorem o_api_Value:Opens Tryz.prog 22 1 (λ x:List UInt8=>[.exact (.string (bs x))]) (λ x=>x.length+1) (λ x=>x.length≤maxLen):=λ e0 W fuel cs y h=>(opens_str underlying22) e0 W fuel cs y h
theorem o_int:Opens Tryz.prog 3 1 (λ x:Int=>[.exact (.int .i64 x)]) (λ _=>1) (λ x=>(Lit.int .i64 x).wf=true):=λ e0 W fuel cs y h=>(opens_int underlying3) e0 W fuel cs y h
theorem o_L_int:Opens Tryz.prog 23 1 (λ xs:List Int=>[.row 1 zbd xs]) (λ xs=>szL (λ _=>1) xs+1) (λ xs=>xs.length≤maxLen/\ ∀x∈xs,(λ x=>(Lit.int .i64 x).wf=true) x):=λ e0 W fuel cs y h=>(opens_slice underlying23 (by kernel_rfl) (by decide) o_int) e0 W fuel cs y h
theorem o_api_Pair:Opens Tryz.prog 60 2 zai (λ x=>(λ _=>1) x.1+(λ _=>1) x.2) (λ x=>(λ x=>(Lit.int .i64 x).wf=true) x.1/\(λ x=>(Lit.int .i64 x).wf=true) x.2):=λ e0 W fuel cs y h=>(opens_struct2 underlying60 (by kernel_rfl) rfl rfl (by kernel_rfl) (by kernel_rfl) o_int o_int) e0 W fuel cs y h
theorem o_L_api_Pair:Opens Tryz.prog 24 1 (λ xs:List (Int×Int)=>[.row 2 zai xs]) (λ xs=>szL (λ x=>(λ _=>1) x.1+(λ _=>1) x.2) xs+1) (λ xs=>xs.length≤maxLen/\ ∀x∈xs,(λ x=>(λ x=>(Lit.int .i64 x).wf=true) x.1/\(λ x=>(Lit.int .i64 x).wf=true) x.2) x):=λ e0 W fuel cs y h=>(opens_slice underlying24 (by kernel_rfl) (by decide) o_api_Pair) e0 W fuel cs y h
theorem o_api_Above:Opens Tryz.prog 58 2 zaj (λ x=>(λ _=>1) x.1+(λ _=>1) x.2) (λ x=>(λ x=>(Lit.int .i64 x).wf=true) x.1/\(λ x=>(Lit.int .i64 x).wf=true) x.2):=λ e0 W fuel cs y h=>(opens_struct2 underlying58 (by kernel_rfl) rfl rfl (by kernel_rfl) (by kernel_rfl) o_int o_int) e0 W fuel cs y h
theorem o_L_api_Above:Opens Tryz.prog 25 1 (λ xs:List (Int×Int)=>[.row 2 zaj xs]) (λ xs=>szL (λ x=>(λ _=>1) x.1+(λ _=>1) x.2) xs+1) (λ xs=>xs.length≤maxLen/\ ∀x∈xs,(λ x=>(λ x=>(Lit.int .i64 x).wf=true) x.1/\(λ x=>(Lit.int .i64 x).wf=true) x.2) x):=λ e0 W fuel cs y h=>(opens_slice underlying25 (by kernel_rfl) (by decide) o_api_Above) e0 W fuel cs y h
theorem o_L_api_Value:Opens Tryz.prog 26 1 (λ xs:List (List UInt8)=>[.row 1 zaa xs]) (λ xs=>szL (λ x=>x.length+1) xs+1) (λ xs=>xs.length≤maxLen/\ ∀x∈xs,(λ x=>x.length≤maxLen) x):=λ e0 W fuel cs y h=>(opens_slice underlying26 (by kernel_rfl) (by decide) o_api_Value) e0 W fuel cs y h
theorem o_api_Offer:Opens Tryz.prog 34 2 zan (λ x=>(λ _=>1) x.1+(λ x=>x.length+1) x.2) (λ x=>(λ x=>(Lit.int .i64 x).wf=true) x.1/\(λ x=>x.length≤maxLen) x.2):=λ e0 W fuel cs y h=>(opens_struct2 underlying34 (by kernel_rfl) rfl rfl (by kernel_rfl) (by kernel_rfl) o_int o_api_Value) e0 W fuel cs y h
theorem o_L_api_Offer:Opens Tryz.prog 27 1 (λ xs:List (Int×(List UInt8))=>[.row 2 zan xs]) (λ xs=>szL (λ x=>(λ _=>1) x.1+(λ x=>x.length+1) x.2) xs+1) (λ xs=>xs.length≤maxLen/\ ∀x∈xs,(λ x=>(λ x=>(Lit.int .i64 x).wf=true) x.1/\(λ x=>x.length≤maxLen) x.2) x):=λ e0 W fuel cs y h=>(opens_slice underlying27 (by kernel_rfl) (by decide) o_api_Offer) e0 W fuel cs y h
set_option maxRecDepth 100000 in
theorem proctermMakes_lifted (os:Os) (started:os.Started) (H:Type) (enc:TypeId×Value->H) (F:Stop.Interp):
  ReturnsInHanded {} Tryz.checked os 3 .any ((Rows.OpenSpec.upto Rows.proctermMakesSpec).pre6 enc Tryz.prog Tryz.f3 Rows.proctermMakesUptoRow.domain false) (((Rows.OpenSpec.upto Rows.proctermMakesSpec).at F).post enc Tryz.prog Tryz.f3 false true false false):=by
 refine returnsInHanded_of_cond (C:=Tryz.checked) (s:=Rows.OpenSpec.upto Rows.proctermMakesSpec) (k:=Rows.uptoSmall) rfl Tryz.own started (by kernel_rfl) func3
  (OpenSpec.witness (enc:=enc) (C:=Tryz.checked) (s:=Rows.OpenSpec.upto Rows.proctermMakesSpec) (k:=Rows.uptoSmall) rfl false ⟨#[], #[.string ⟨#[]⟩, .string ⟨#[]⟩, .slice none 0 0, .slice none 0 0, .slice none 0 0, .slice none 0 0, .int .i64 0, .int .i64 0, .slice none 0 0, .slice none 0 0, .slice none 0 0],[]⟩ 8 (by kernel_rfl) (by kernel_rfl) (by kernel_rfl)
   (x:=([.lit (.string []), .lit (.string []), .nil, .nil, .nil, .nil, .lit (.int .i64 0), .lit (.int .i64 0), .nil, .nil, .nil],[],[])) (by kernel_rfl) rfl (by kernel_rfl)) ?_
 intro W base args ds gs before hval0 hW _ hk _
 have hval: ∀(j:Nat) t v,Tryz.f3.params[j]?=some t->args[j]?=some v->Value.okWide Tryz.prog W .any base t v:=hval0
 have hW':=hW
 obtain⟨p,q,hA0,hV,rfl,hfz,hnd⟩:=hW
 have hA:DataW.TrodAll enc Tryz.prog W 0 (λ _=>true) true Tryz.f3.params.toList args.toList ds p:=hA0
 rw[Tryz.params3]at hA hval
 obtain⟨v0,vs0,d0,ds0,p0,q0,hargs,rfl,rfl,h0,r0⟩:=trodAll_cons hA
 obtain⟨v1,vs1,d1,ds1,p1,q1,rfl,rfl,rfl,h1,r1⟩:=trodAll_cons r0
 obtain⟨v2,vs2,d2,ds2,p2,q2,rfl,rfl,rfl,h2,r2⟩:=trodAll_cons r1
 obtain⟨v3,vs3,d3,ds3,p3,q3,rfl,rfl,rfl,h3,r3⟩:=trodAll_cons r2
 obtain⟨v4,vs4,d4,ds4,p4,q4,rfl,rfl,rfl,h4,r4⟩:=trodAll_cons r3
 obtain⟨v5,vs5,d5,ds5,p5,q5,rfl,rfl,rfl,h5,r5⟩:=trodAll_cons r4
 obtain⟨v6,vs6,d6,ds6,p6,q6,rfl,rfl,rfl,h6,r6⟩:=trodAll_cons r5
 obtain⟨v7,vs7,d7,ds7,p7,q7,rfl,rfl,rfl,h7,r7⟩:=trodAll_cons r6
 obtain⟨v8,vs8,d8,ds8,p8,q8,rfl,rfl,rfl,h8,r8⟩:=trodAll_cons r7
 obtain⟨v9,vs9,d9,ds9,p9,q9,rfl,rfl,rfl,h9,r9⟩:=trodAll_cons r8
 obtain⟨v10,vs10,d10,ds10,p10,q10,rfl,rfl,rfl,h10,r10⟩:=trodAll_cons r9
 obtain⟨rfl,rfl,rfl⟩:=trodAll_nil r10
 obtain rfl:args= #[v0,v1,v2,v3,v4,v5,v6,v7,v8,v9,v10]:=by cases args;simp_all
 obtain⟨rfl,rfl⟩:=trodVars_none hV
 clear hA0
 simp only[List.append_nil]at hW'
 have hlt:=hW'.lt
 obtain⟨x0,qq0,g0,s0⟩:=arg_open o_api_Value (plain_str underlying22 (hval 0 22 v0 rfl rfl)) h0
 obtain⟨x1,qq1,g1,s1⟩:=arg_open o_api_Value (plain_str underlying22 (hval 1 22 v1 rfl rfl)) h1
 obtain⟨x2,qq2,g2,s2⟩:=arg_open o_L_int (plain_slice underlying23 (hval 2 23 v2 rfl rfl)) h2
 obtain⟨x3,qq3,g3,s3⟩:=arg_open o_L_int (plain_slice underlying23 (hval 3 23 v3 rfl rfl)) h3
 obtain⟨x4,qq4,g4,s4⟩:=arg_open o_L_api_Pair (plain_slice underlying24 (hval 4 24 v4 rfl rfl)) h4
 obtain⟨x5,qq5,g5,s5⟩:=arg_open o_L_api_Above (plain_slice underlying25 (hval 5 25 v5 rfl rfl)) h5
 obtain⟨x6,qq6,g6,s6⟩:=arg_open o_int (plain_int underlying3 (hval 6 3 v6 rfl rfl)) h6
 obtain⟨x7,qq7,g7,s7⟩:=arg_open o_int (plain_int underlying3 (hval 7 3 v7 rfl rfl)) h7
 obtain⟨x8,qq8,g8,s8⟩:=arg_open o_L_api_Value (plain_slice underlying26 (hval 8 26 v8 rfl rfl)) h8
 obtain⟨x9,qq9,g9,s9⟩:=arg_open o_L_api_Offer (plain_slice underlying27 (hval 9 27 v9 rfl rfl)) h9
 obtain⟨x10,qq10,g10,s10⟩:=arg_open o_L_int (plain_slice underlying23 (hval 10 23 v10 rfl rfl)) h10
 have hsz:(λ x=>x.length+1) x0+(λ x=>x.length+1) x1+(λ xs=>szL (λ _=>1) xs+1) x2+(λ xs=>szL (λ _=>1) xs+1) x3+(λ xs=>szL (λ x=>(λ _=>1) x.1+(λ _=>1) x.2) xs+1) x4+(λ xs=>szL (λ x=>(λ _=>1) x.1+(λ _=>1) x.2) xs+1) x5+(λ _=>1) x6+(λ _=>1) x7+(λ xs=>szL (λ x=>x.length+1) xs+1) x8+(λ xs=>szL (λ x=>(λ _=>1) x.1+(λ x=>x.length+1) x.2) xs+1) x9+(λ xs=>szL (λ _=>1) xs+1) x10≤1048576:=by
  have hk':=of_decide_eq_true hk
  simp only[List.append_nil,Rows.uptoBulkAll]at hk'
  try simp only[]at s0 s1 s2 s3 s4 s5 s6 s7 s8 s9 s10
  try simp only[]
  omega
 refine(Pure.call (m_law16_ProctermMakes_ok x0 x1 x2 x3 x4 x5 x6 x7 x8 x9 x10 true (proctermMakes_true x0 x1 x2 x3 x4 x5 x6 x7 x8 x9 x10 qq0 qq1 qq2 qq3 qq4 qq5 qq6 qq7 qq8 qq9 qq10 hsz)) (vs:=[v0,v1,v2,v3,v4,v5,v6,v7,v8,v9,v10]) ⟨g0.1,g1.1,g2.1,g3.1,g4.1,g5.1,g6.1,g7.1,g8.1,g9.1,g10.1,trivial⟩).mono λ e W' ⟨he,hb⟩=> ?_
 subst he
 exact⟨_,rfl,post_of_below (pa:=p0++(p1++(p2++(p3++(p4++(p5++(p6++(p7++(p8++(p9++(p10++[]))))))))))) (pv:=[]) hW' (λ _ _ _=>trodAll_cons_mk (shut_bool underlying4 true) trodAll_mk0)
  (λ sp hsp=>trodAll_cons_mk (trod_after (by kernel_rfl) (of_decide_eq_true (by kernel_rfl)) h0 hb (λ x hx=>hlt x (by simp[hx])) (λ x hx=>by simp[hx]) sp hsp) (trodAll_cons_mk (trod_after (by kernel_rfl) (of_decide_eq_true (by kernel_rfl)) h1 hb (λ x hx=>hlt x (by simp[hx])) (λ x hx=>by simp[hx]) sp hsp) (trodAll_cons_mk (trod_after (by kernel_rfl) (of_decide_eq_true (by kernel_rfl)) h2 hb (λ x hx=>hlt x (by simp[hx])) (λ x hx=>by simp[hx]) sp hsp) (trodAll_cons_mk (trod_after (by kernel_rfl) (of_decide_eq_true (by kernel_rfl)) h3 hb (λ x hx=>hlt x (by simp[hx])) (λ x hx=>by simp[hx]) sp hsp) (trodAll_cons_mk (trod_after (by kernel_rfl) (of_decide_eq_true (by kernel_rfl)) h4 hb (λ x hx=>hlt x (by simp[hx])) (λ x hx=>by simp[hx]) sp hsp) (trodAll_cons_mk (trod_after (by kernel_rfl) (of_decide_eq_true (by kernel_rfl)) h5 hb (λ x hx=>hlt x (by simp[hx])) (λ x hx=>by simp[hx]) sp hsp) (trodAll_cons_mk (trod_after (by kernel_rfl) (of_decide_eq_true (by kernel_rfl)) h6 hb (λ x hx=>hlt x (by simp[hx])) (λ x hx=>by simp[hx]) sp hsp) (trodAll_cons_mk (trod_after (by kernel_rfl) (of_decide_eq_true (by kernel_rfl)) h7 hb (λ x hx=>hlt x (by simp[hx])) (λ x hx=>by simp[hx]) sp hsp) (trodAll_cons_mk (trod_after (by kernel_rfl) (of_decide_eq_true (by kernel_rfl)) h8 hb (λ x hx=>hlt x (by simp[hx])) (λ x hx=>by simp[hx]) sp hsp) (trodAll_cons_mk (trod_after (by kernel_rfl) (of_decide_eq_true (by kernel_rfl)) h9 hb (λ x hx=>hlt x (by simp[hx])) (λ x hx=>by simp[hx]) sp hsp) (trodAll_cons_mk (trod_after (by kernel_rfl) (of_decide_eq_true (by kernel_rfl)) h10 hb (λ x hx=>hlt x (by simp[hx])) (λ x hx=>by simp[hx]) sp hsp) (trodAll_mk0))))))))))))
  (λ _ _=>rfl) (by simp) hb (ok_one (by kernel_rfl) rfl (okWide_bool_mk underlying4 true))⟩
theorem proctermMakes_holds:Rows.ProctermMakesUptoSaid:=
 OpenClaim.holds_of_cond 3 Tryz.f3 rfl rfl rfl rfl rfl rfl rfl ⟨rfl,rfl,rfl,rfl,rfl⟩ rfl rfl rfl rfl rfl (by kernel_rfl) func3 (by kernel_rfl)
  (of_decide_eq_true (by kernel_rfl)) (by unfold Func.isWrapper;first|(rw[if_pos (by decide+kernel)];kernel_rfl)|(rw[if_neg (by decide+kernel)];exact⟨rfl,rfl⟩))
  (λ os started H enc _ F=>proctermMakes_lifted os started H enc F)
end
end Go.Proofs.YtloigebekdkijaaGreat
