/- Parts, merged. -/
import Derived.Test.YtloigebekdkijaaGreatQC2
import Derived.Test.YtloigebekdkijaaGreatQC4
import Derived.Test.YtloigebekdkijaaGreatQC7
namespace Go.Proofs.YtloigebekdkijaaGreat
open _root_.Go.Proofs.Tryz
noncomputable section
attribute [local irreducible] FU
abbrev Vl:=List UInt8
theorem kind_vd {v:Vl} (h:kindW v≠0):Vd v:=by
 unfold kindW at h
 split at h
 .rename_i hv;exact zdm.1 hv
 .exact absurd rfl h
theorem kind_g0 {v:Vl} (h:kindW v≠0):kindW v=((gi v 0).toNat:Int):=by
 have hv:=kind_vd h
 unfold kindW;rw[if_pos (zdm.2 hv)]
theorem kind_shape {v:Vl} (h:kindW v≠0):(kindW v=1/\ ∃b,b.length=8/\v=1::b)∨(kindW v=2/\ ∃b:UInt8,b.toNat≤1/\v=[2,b])∨(kindW v=10/\ ∃h l,v=[10,h,l])∨(3≤kindW v/\kindW v≤9):=by
 have hk:=kind_g0 h
 obtain⟨hv,_⟩:=kind_vd h
 cases hv with
 |int k b hb=>exact .inl ⟨by rw[hk];rfl,b,hb,rfl⟩
 |bool k b hb=>exact .inr (.inl ⟨by rw[hk];rfl,b,hb,rfl⟩)
 |name k a b=>exact .inr (.inr (.inl ⟨by rw[hk];rfl,a,b,rfl⟩))
 |comp k c a b ps hc hn hp hf=>exact .inr (.inr (.inr (by rw[hk,gi_0];omega)))
def numW (v:Vl):Int:=if kindW v=1 then numV v else if kindW v=2 then((gi v 1).toNat:Int)else if kindW v=10 then(((gi v 1).toNat*256+(gi v 2).toNat:Nat):Int)else 0
theorem vNum (v:Vl):zgv v=some (numW v):=by
 unfold zgv numW
 rw[vKind,zaf]
 by_cases h1:kindW v=1
 .rcases kind_shape (v:=v) (by omega)with⟨_,b,hb,rfl⟩|⟨h,_⟩|⟨h,_⟩|h
  .rw[if_pos h1,if_pos h1,vInteger _ (by simp[hb]),zaf,numV,List.take_of_length_le (by simp[hb])]
  .omega
  .omega
  .omega
 rw[if_neg h1,if_neg h1]
 by_cases h2:kindW v=2
 .rcases kind_shape (v:=v) (by omega)with⟨h,_⟩|⟨_,b,hb,rfl⟩|⟨h,_⟩|h
  .omega
  .rw[if_pos h2,if_pos h2,zah (by simp)]
  .omega
  .omega
 rw[if_neg h2,if_neg h2]
 by_cases h3:kindW v=10
 .rcases kind_shape (v:=v) (by omega)with⟨h,_⟩|⟨h,_⟩|⟨_,a,b,rfl⟩|h
  .omega
  .omega
  .rw[if_pos h3,if_pos h3,zah (by simp),zah (by simp),i64_step]
  .omega
 rw[if_neg h3,if_neg h3]
end
noncomputable section
attribute [local irreducible] FU keyF relF pKeys cKeys
theorem rNum (v:Vl):zfq v=some (numW v):=by
 unfold zfq numW
 rw[rKind,zaf]
 by_cases h1:kindW v=1
 .rcases kind_shape (v:=v) (by omega)with⟨_,b,hb,rfl⟩|⟨h,_⟩|⟨h,_⟩|h
  .rw[if_pos h1,if_pos h1,zah (by simp[hb]),rNumber _ (by simp[hb]),zaf,numV,List.take_of_length_le (by simp[hb])];rfl
  .omega
  .omega
  .omega
 rw[if_neg h1,if_neg h1]
 by_cases h2:kindW v=2
 .rcases kind_shape (v:=v) (by omega)with⟨h,_⟩|⟨_,b,hb,rfl⟩|⟨h,_⟩|h
  .omega
  .rw[if_pos h2,if_pos h2,zah (by simp)]
  .omega
  .omega
 rw[if_neg h2,if_neg h2]
 by_cases h3:kindW v=10
 .rcases kind_shape (v:=v) (by omega)with⟨h,_⟩|⟨h,_⟩|⟨_,a,b,rfl⟩|h
  .omega
  .omega
  .rw[if_pos h3,if_pos h3,zah (by simp),zah (by simp),i64_step]
  .omega
 rw[if_neg h3,if_neg h3]
theorem rNumberedX (c:UInt8) (hc:3≤c.toNat/\c.toNat≤9) (k:Int) (l:List (List UInt8)) (hl:l.length≤1000000000):m_ref9_Numbered (c.toNat:Int) k l=some (cmpd c (intW k::l)):=by
 unfold m_ref9_Numbered
 rw[rInt,zaf,zah (by simp;omega),rMake c hc _ (by simp;omega),zaf];rfl
theorem vProcL (k:Int) (l:List (List UInt8)) (hl:l.length≤1000000000) (hx: ∀x∈l,x.length≤1099511627776):m_value_Proc k l=some (cmpd 9 (intW k::l)):=by
 unfold m_value_Proc
 have h1:=vCompound 9 ([intW k]++l) (λ x h=>by
  rcases List.mem_cons.1 h with rfl|h
  .rw[intW_len];omega
  .exact hx x h)
 rw[show((9:UInt8).toNat:Int)=9 from rfl]at h1
 rw[vInt,zaf,zah (by simp;omega),h1,zaf];rfl
theorem kind_intW (k:Int):kindW (intW k)=1:=by
 have hV:Vd (intW k):=⟨(intW_IsV k 0).le (by omega),by rw[intW_len];omega⟩
 unfold kindW;rw[if_pos (zdm.2 hV)];rfl
theorem znh {n:Int} (h: -9223372036854775808≤n/\n≤9223372036854775807):numW (intW n)=n:=by
 unfold numW;rw[kind_intW,if_pos rfl,numV_intW h]
def evB (v:Vl):Bool:=decide (kindW v=1) && decide (cVis (numW v))
theorem vEvent (v:Vl):zhn v=some (numW v,evB v):=by
 unfold zhn evB
 rw[vNum,zaf]
 simp only[zbq]
 rw[vKind,zaf]
 by_cases h1:kindW v=1
 .by_cases h2:2≤numW v
  .rw[if_pos h1,if_pos h2,decide_eq_true h1,Bool.true_and]
   congr 2;exact decide_eq_decide.2 ⟨λ h=>⟨h2,h⟩,λ h=>h.2⟩
  .rw[if_pos h1,if_neg h2,decide_eq_false (p:=cVis (numW v)) (λ h=>h2 h.1),Bool.and_false]
 .rw[if_neg h1,decide_eq_false h1,Bool.false_and]
theorem numW_range (v:Vl): -9223372036854775808≤numW v/\numW v≤9223372036854775807:=by
 unfold numW
 split
 .unfold numV;rw[i64_def];exact wrap_i64_range _
 .split
  .have:=(gi v 1).toNat_lt;omega
  .split
   .have:=(gi v 1).toNat_lt;have:=(gi v 2).toNat_lt;omega
   .omega
def setOk (v:Vl):Bool:=decide (kindW v=5) && (prtW v).all evB
theorem vEvSet (v:Vl):m_procterm_events v=some (if setOk v=true then((prtW v).map numW,true)else([],false)):=by
 have hFU:=zeo
 have hpl:=(znq v).2.1
 unfold m_procterm_events setOk
 rw[vKind,zaf]
 by_cases h5:kindW v=5
 .rw[if_neg (λ h=>h h5),decide_eq_true h5,Bool.true_and,zbq,vPartsW,zaf]
  generalize prtW v=y at hpl
  have loop: ∀(m i n:Nat) (out:List Int),i+m=y.length->m<n->out.length+m≤1000000->zhi (λ x=>bnd1 (zdn x) (λ y30=>some (y30,true))) y n out i=some (if(y.drop i).all evB=true then(out++(y.drop i).map numW,true)else([],false)):=by
   intro m
   induction m with
   |zero=>
    intro i n out hi hn ho
    obtain⟨n,rfl⟩: ∃q,n=q+1:=⟨n - 1,by omega⟩
    rw[zhi,zkb,if_neg (by omega),List.drop_eq_nil_of_le (by omega),iClip,zaf];simp
   |succ m ih=>
    intro i n out hi hn ho
    obtain⟨n,rfl⟩: ∃q,n=q+1:=⟨n - 1,by omega⟩
    have hil:i<y.length:=by omega
    rw[zhi,zkb,if_pos (by omega),zah (by omega),zbv hil,vEvent,zaf,List.drop_eq_getElem_cons hil,List.all_cons,List.map_cons]
    dsimp only
    cases evB y[i]with
    |true=>rw[if_neg (by simp),zah (by simp;omega),zbl (by omega),ih (i+1) n _ (by omega) (by omega) (by simp;omega),Bool.true_and,List.append_assoc];rfl
    |false=>rfl
  have:=loop y.length 0 FU [] (by omega) (by omega) (by simp;omega)
  rw[Int.natCast_zero,List.drop_zero,List.nil_append]at this
  exact this
 .rw[if_pos h5,decide_eq_false h5,Bool.false_and];rfl
def clipN (n:Int):Int:=if n< -1∨1073741824<n then -1 else n
theorem clip_vis {n:Int}:cVis (clipN n)↔cVis n:=by
 unfold clipN;split
 .constructor <;>intro h <;>(have:=h.1;have:=h.2;omega)
 .rfl
theorem clip_id {n:Int} (h:cVis n):clipN n=n:=by
 unfold clipN;rw[if_neg];have:=h.1;have:=h.2;omega
def numsW (l:List Vl):List Int×Bool:=if l.all (λ x=>decide (kindW x=1))=true then(l.map (λ x=>clipN (numW x)),true)else([],false)
theorem rNumbers (l:List Vl) (hl:l.length≤1000000000):znt l=some (numsW l):=by
 have hFU:=zeo
 unfold znt numsW
 rw[zbq]
 have loop: ∀(m i n:Nat) (out:List Int),i+m=l.length->m<n->out.length+m≤10000000000->zgz l (λ x=>some (x,true)) n out i=some (if(l.drop i).all (λ x=>decide (kindW x=1))=true then(out++(l.drop i).map (λ x=>clipN (numW x)),true)else([],false)):=by
  intro m
  induction m with
  |zero=>
   intro i n out hi hn ho
   obtain⟨n,rfl⟩: ∃q,n=q+1:=⟨n - 1,by omega⟩
   rw[zgz,zmp,if_neg (by omega),List.drop_eq_nil_of_le (by omega)];simp
  |succ m ih=>
   intro i n out hi hn ho
   obtain⟨n,rfl⟩: ∃q,n=q+1:=⟨n - 1,by omega⟩
   have hil:i<l.length:=by omega
   rw[zgz,zmp,if_pos (by omega),zah (by omega),zbv hil,rKind,zaf,List.drop_eq_getElem_cons hil,List.all_cons,List.map_cons]
   by_cases h1:kindW l[i]=1
   .rw[if_neg (λ h=>h h1),zah (by omega),rNum,zaf,decide_eq_true h1,Bool.true_and]
    simp only[zbq]
    have go: ∀z:Int,z=clipN (numW l[i])->need (List.length out+List.length [z]≤137438953472) (zgz l (λ x=>some (x,true)) n (out++[z]) (i64 ((i:Int)+1)))=some (if(l.drop (i+1)).all (λ x=>decide (kindW x=1))=true then(out++clipN (numW l[i])::(l.drop (i+1)).map (λ x=>clipN (numW x)),true)else([],false)):=λ z hz=>by
     rw[zah (by simp;omega),zbl (by omega),ih (i+1) n _ (by omega) (by omega) (by simp;omega),List.append_assoc,hz];rfl
    by_cases h2:numW l[i]< -1
    .rw[if_pos h2,if_pos trivial];exact go _ (by unfold clipN;rw[if_pos (.inl h2)])
    .rw[if_neg h2]
     by_cases h3:1073741824<numW l[i]
     .rw[if_pos (decide_eq_true h3)];exact go _ (by unfold clipN;rw[if_pos (.inr h3)])
     .rw[if_neg (λ h=>h3 (of_decide_eq_true h))];exact go _ (by unfold clipN;rw[if_neg (λ h=>h.elim h2 h3)])
   .rw[if_pos h1,decide_eq_false h1,Bool.false_and,if_neg Bool.false_ne_true]
 have:=loop l.length 0 FU [] (by omega) (by omega) (by simp;omega)
 rw[Int.natCast_zero,List.drop_zero,List.nil_append]at this
 exact this
theorem int_cmp {a b:Vl} (ha:kindW a=1) (hb:kindW b=1):cmpC a b=sgn (numW a) (numW b):=by
 have va:=kind_vd (v:=a) (by omega)
 have vb:=kind_vd (v:=b) (by omega)
 have ga:gi a 0=1:=kind_gi (c:=1) (by rw[ha];rfl) (by decide)
 have gb:gi b 0=1:=kind_gi (c:=1) (by rw[hb];rfl) (by decide)
 rw[cmpC_val va vb]
 unfold cmpW numW
 rw[if_pos ha,if_pos hb,cmpV]
 by_cases e:a=b
 .rw[if_pos e,e];exact((TO_sgn).self _ trivial).symm
 .rw[if_neg e,if_neg (by rw[ga,gb];simp),if_pos ga]
theorem sgn_lt {x y:Int}:sgn x y<0↔x<y:=by
 unfold sgn;split
 .simp;omega
 .split <;>simp <;>omega
theorem set_asc {v:Vl} (h5:kindW v=5) (h1: ∀x∈prtW v,kindW x=1):((prtW v).map numW).Pairwise (λ a b=>a<b):=by
 have hs:=prtW_SLC (v:=v) (decide_eq_true h5)
 generalize prtW v=l at hs h1
 induction l with
 |nil=>simp
 |cons x l ih=>
  rw[SLC,List.pairwise_cons]at hs
  rw[List.map_cons,List.pairwise_cons]
  refine⟨λ y hy=> ?_,ih hs.2 (λ z hz=>h1 z (by simp[hz]))⟩
  obtain⟨z,hz,rfl⟩:=List.mem_map.1 hy
  have:=hs.1 z hz
  rw[int_cmp (h1 x (by simp)) (h1 z (by simp[hz])),sgn_lt]at this
  exact this
theorem setZ_of {l:List Int} (ha:l.Pairwise (λ a b=>a<b)) (hv: ∀x∈l,cVis x):l=setZ l:=asc_keyF ha (λ x=>⟨λ h=>⟨hv x h,decide_eq_true h⟩,λ h=>of_decide_eq_true h.2⟩)
theorem rEventsS (v:Vl): ∃r,m_ref16_events v=some (r,setOk v)/\(setOk v=true->r=(prtW v).map numW):=by
 have hpl:=(znq v).2.1
 unfold m_ref16_events
 rw[rPartsW,zaf,rNumbers _ (by omega),zaf]
 simp only[zbq]
 unfold numsW
 by_cases hk:(prtW v).all (λ x=>decide (kindW x=1))=true
 .have hk': ∀x∈prtW v,kindW x=1:=λ x hx=>of_decide_eq_true (List.all_eq_true.1 hk x hx)
  rw[if_pos hk]
  dsimp only
  rw[if_pos rfl,rKind,zaf]
  by_cases h5:kindW v=5
  .rw[if_pos h5,rValidSetI _ (by rw[List.length_map];omega),zaf]
   refine⟨(prtW v).map (λ x=>clipN (numW x)), ?_,λ hs=> ?_⟩
   .have:decide ((prtW v).map (λ x=>clipN (numW x))=setZ ((prtW v).map (λ x=>clipN (numW x))))=setOk v:=by
     unfold setOk
     rw[decide_eq_true h5,Bool.true_and,Bool.eq_iff_iff,decide_eq_true_eq,List.all_eq_true]
     constructor
     .intro he x hx
      have hm:clipN (numW x)∈(prtW v).map (λ x=>clipN (numW x)):=List.mem_map_of_mem (f:=λ x=>clipN (numW x)) hx
      rw[he]at hm
      have:=clip_vis.1 (setZ_mem.1 hm).1
      unfold evB;rw[decide_eq_true (hk' x hx),decide_eq_true this];rfl
     .intro hev
      have hvis: ∀x∈prtW v,cVis (numW x):=λ x hx=>by
       have:=hev x hx
       unfold evB at this
       simp only[Bool.and_eq_true]at this
       exact of_decide_eq_true this.2
      have e:(prtW v).map (λ x=>clipN (numW x))=(prtW v).map numW:=List.map_congr_left (λ x hx=>clip_id (hvis x hx))
      rw[e]
      exact setZ_of (set_asc h5 hk') (λ y hy=>by obtain⟨x,hx,rfl⟩:=List.mem_map.1 hy;exact hvis x hx)
    rw[this]
   .refine List.map_congr_left (λ x hx=>clip_id ?_)
    unfold setOk at hs
    simp only[Bool.and_eq_true,List.all_eq_true]at hs
    have:=hs.2 x hx
    unfold evB at this
    simp only[Bool.and_eq_true]at this
    exact of_decide_eq_true this.2
  .have:setOk v=false:=by unfold setOk;rw[decide_eq_false h5,Bool.false_and]
   rw[if_neg h5,this]
   exact⟨_,rfl,λ h=>by cases h⟩
 .have:setOk v=false:=by
   unfold setOk
   rw[Bool.and_eq_false_iff];right
   refine Bool.eq_false_iff.2 (λ hc=>hk (List.all_eq_true.2 (λ x hx=> ?_)))
   have:=List.all_eq_true.1 hc x hx
   unfold evB at this
   simp only[Bool.and_eq_true]at this
   exact this.1
  rw[if_neg hk,this]
  dsimp only
  rw[if_neg Bool.false_ne_true]
  exact⟨_,rfl,λ h=>by cases h⟩
end
noncomputable section
attribute [local irreducible] FU keyF relF pKeys cKeys
theorem raw_inv {c:UInt8} {l:List Vl} (hc:3≤c.toNat/\c.toNat≤9) (hl:l.length≤65535) (hx: ∀x∈l,Vd x) (h:Vd (raw c l)): ∀x∈l,IsV 31 x:=by
 have hp:=prt_raw hc hl hx
 obtain⟨hv,_⟩:=h
 unfold raw at hv hp
 generalize u8i ((l.length / 256:Nat):Int)=a at hv hp
 generalize u8i ((l.length:Nat):Int)=b at hv hp
 generalize hw:c::a::b::l.flatten=w at hv hp
 cases hv with
 |int k q hb=>injection hw with e;subst e;simp at hc
 |bool k q hb=>injection hw with e;subst e;simp at hc
 |name k h l=>injection hw with e;subst e;simp at hc
 |comp k c' h' l' ps hc' hn hps hf=>
  rw[prt_comp hc' hn (λ p hp'=>(hps p hp').sh) (by omega)]at hp
  subst hp
  exact hps
theorem tup_cmp {L L':List Vl} (g1:L.length≤65535) (g2: ∀x∈L,Vd x) (g3:Vd (raw 3 L)) (k1:L'.length≤65535) (k2: ∀x∈L',Vd x) (k3:Vd (raw 3 L')):cmpC (raw 3 L) (raw 3 L')=lexCmp cmpC L L':=by
 have i1:=raw_inv (by decide) g1 g2 g3
 have i2:=raw_inv (by decide) k1 k2 k3
 have hl:lexCmp cmpC L L'=lexCmp (cmpV 31) L L':=lexCmp_congr (λ x hx y hy=>by
  unfold cmpC
  rw[if_pos ⟨zdm.2 (g2 x hx),zdm.2 (k2 y hy)⟩]
  exact(cmpW_eq (i1 x hx).sh (i2 y hy).sh (by omega)).symm)
 rw[hl]
 unfold cmpC
 rw[if_pos ⟨zdm.2 g3,zdm.2 k3⟩]
 show cmpV 32 _ _=_
 rw[cmpV]
 by_cases he:raw 3 L=raw 3 L'
 .have:L=L':=by rw[←prt_raw (c:=3) (by decide) g1 g2,he,prt_raw (by decide) k1 k2]
  subst this
  rw[if_pos rfl]
  exact(((cmpV_TO 31).lex).self L (λ x hx=>(i1 x hx).sh)).symm
 .rw[if_neg he,if_neg (by simp[raw,gi_0]),if_neg (by simp[raw,gi_0]),if_neg (by simp[raw,gi_0])]
  unfold raw
  rw[partsV_eq (raw_count g1) (λ p hp=>(i1 p hp).sh),partsV_eq (raw_count k1) (λ p hp=>(i2 p hp).sh)]
theorem cmp_of {v:Vl} {c:UInt8} (hc:3≤c.toNat/\c.toNat≤9) (h:kindW v=(c.toNat:Int)):v=raw c (prtW v)/\formedB c (prtW v)=true:=by
 have h0:gi v 0=c:=kind_gi h (by rintro rfl;simp at hc)
 have:=(znq v).2.2.2.2 (by omega) (by omega)
 rw[h0]at this
 exact⟨this.2,this.1⟩
def pairB (x:Vl):Bool:=(decide (kindW x=3) && decide ((prtW x).length=2)) && (evB (gi (prtW x) 0) && evB (gi (prtW x) 1))
def pairOf (x:Vl):Int×Int:=(numW (gi (prtW x) 0),numW (gi (prtW x) 1))
def relOk (v:Vl):Bool:=decide (kindW v=5) && (prtW v).all pairB
theorem vRelation (v:Vl):zff v=some (if relOk v=true then((prtW v).map pairOf,true)else([],false)):=by
 have hFU:=zeo
 have hpl:=(znq v).2.1
 unfold zff relOk
 rw[vKind,zaf]
 by_cases h5:kindW v=5
 .rw[if_neg (λ h=>h h5),decide_eq_true h5,Bool.true_and,zbq,vPartsW,zaf]
  generalize prtW v=y at hpl
  have loop: ∀(m i n:Nat) (out:List (Int×Int)),i+m=y.length->m<n->out.length+m≤1000000->zga (λ x=>bnd1 (zdi x) (λ y30=>some (y30,true))) y n out i=some (if(y.drop i).all pairB=true then(out++(y.drop i).map pairOf,true)else([],false)):=by
   intro m
   induction m with
   |zero=>
    intro i n out hi hn ho
    obtain⟨n,rfl⟩: ∃q,n=q+1:=⟨n - 1,by omega⟩
    rw[zga,zhv,if_neg (by omega),List.drop_eq_nil_of_le (by omega),pClip,zaf];simp
   |succ m ih=>
    intro i n out hi hn ho
    obtain⟨n,rfl⟩: ∃q,n=q+1:=⟨n - 1,by omega⟩
    have hil:i<y.length:=by omega
    rw[zga,zhv,if_pos (by omega),zah (by omega),zbv hil,vPartsW,zaf,List.drop_eq_getElem_cons hil,List.all_cons,List.map_cons]
    simp only[zbq]
    rw[vKind,zaf]
    unfold pairB
    by_cases h3:kindW y[i]=3
    .rw[if_neg (λ h=>h h3),decide_eq_true h3,Bool.true_and]
     by_cases h2:(prtW y[i]).length=2
     .rw[if_neg (by rw[decide_eq_true_eq];omega),decide_eq_true h2,Bool.true_and,zah (by omega),vEvent,zaf,zah (by omega),vEvent,zaf]
      dsimp only
      cases evB (gi (prtW y[i]) 0)with
      |true=>
       rw[if_neg (by simp),Bool.true_and]
       cases evB (gi (prtW y[i]) 1)with
       |true=>rw[if_neg (by simp),zah (by simp;omega),zbl (by omega),ih (i+1) n _ (by omega) (by omega) (by simp;omega),Bool.true_and,List.append_assoc];rfl
       |false=>rfl
      |false=>rfl
     .rw[if_pos (by rw[decide_eq_true_eq];omega),decide_eq_false h2,Bool.false_and,Bool.false_and];rfl
    .rw[if_pos h3,if_pos trivial,decide_eq_false h3,Bool.false_and,Bool.false_and,Bool.false_and];rfl
  have:=loop y.length 0 FU [] (by omega) (by omega) (by simp;omega)
  rw[Int.natCast_zero,List.drop_zero,List.nil_append]at this
  exact this
 .rw[if_pos h5,decide_eq_false h5,Bool.false_and];rfl
def numP (x:Vl):Bool:=decide (kindW x=3) && ((numsW (prtW x)).2 && decide ((numsW (prtW x)).1.length=2))
def clipP (x:Vl):Int×Int:=(gi (numsW (prtW x)).1 0,gi (numsW (prtW x)).1 1)
theorem rPairs_loop (y:List Vl) (hpl:y.length≤65535) (K:List (Int×Int)->Option (List (Int×Int)×Bool)): ∀(m i n:Nat) (out:List (Int×Int)),i+m=y.length->m<n->out.length+m≤1000000->zlw y K n out i=if(y.drop i).all numP=true then K (out++(y.drop i).map clipP)else some ([],false):=by
 intro m
 induction m with
 |zero=>
  intro i n out hi hn ho
  obtain⟨n,rfl⟩: ∃q,n=q+1:=⟨n - 1,by omega⟩
  rw[zlw,m_ref16_pairs_B2,if_neg (by omega),List.drop_eq_nil_of_le (by omega)];simp
 |succ m ih=>
  intro i n out hi hn ho
  obtain⟨n,rfl⟩: ∃q,n=q+1:=⟨n - 1,by omega⟩
  have hil:i<y.length:=by omega
  have hp2:=(znq y[i]).2.1
  rw[zlw,m_ref16_pairs_B2,if_pos (by omega),zah (by omega),zbv hil,rPartsW,zaf,rNumbers _ (by omega),zaf,List.drop_eq_getElem_cons hil,List.all_cons,List.map_cons]
  simp only[zbq]
  rw[zah (by omega),rKind,zaf]
  unfold numP
  by_cases h3:kindW y[i]=3
  .rw[if_neg (λ h=>h h3),decide_eq_true h3,Bool.true_and]
   cases hb:(numsW (prtW y[i])).2 with
   |true=>
    rw[if_neg (by simp),Bool.true_and]
    by_cases h2:(numsW (prtW y[i])).1.length=2
    .rw[if_neg (by rw[decide_eq_true_eq];omega),decide_eq_true h2,Bool.true_and,zah (by omega),zah (by omega),zah (by simp;omega),zbl (by omega),ih (i+1) n _ (by omega) (by omega) (by simp;omega),List.append_assoc];rfl
    .rw[if_pos (by rw[decide_eq_true_eq];omega),decide_eq_false h2,Bool.false_and];rfl
   |false=>rw[if_pos (by simp),if_pos trivial,Bool.false_and,Bool.false_and,if_neg Bool.false_ne_true]
  .rw[if_pos h3,if_pos trivial,decide_eq_false h3,Bool.false_and,Bool.false_and,if_neg Bool.false_ne_true]
theorem two_list {α:Type} {l:List α} (h:l.length=2): ∃a b,l=[a,b]:=by
 match l,h with
 |[a,b],_=>exact⟨a,b,rfl⟩
theorem pair_get {x:Vl} (h:pairB x=true): ∃a b,prtW x=[a,b]/\kindW x=3/\kindW a=1/\kindW b=1/\cVis (numW a)/\cVis (numW b)/\pairOf x=(numW a,numW b)/\clipP x=(numW a,numW b)/\numP x=true:=by
 unfold pairB at h
 simp only[Bool.and_eq_true,decide_eq_true_eq]at h
 obtain⟨⟨h3,h2⟩,e0,e1⟩:=h
 obtain⟨a,b,hp⟩:=two_list h2
 rw[hp,gi2_0]at e0
 rw[hp,gi2_1]at e1
 unfold evB at e0 e1
 simp only[Bool.and_eq_true,decide_eq_true_eq]at e0 e1
 have hn:numsW [a,b]=([numW a,numW b],true):=by
  unfold numsW
  rw[if_pos (by simp[e0.1,e1.1])]
  simp[clip_id e0.2,clip_id e1.2]
 refine⟨a,b,hp,h3,e0.1,e1.1,e0.2,e1.2, ?_, ?_, ?_⟩
 .unfold pairOf;rw[hp,gi2_0,gi2_1]
 .unfold clipP;rw[hp,hn];rfl
 .unfold numP;rw[hp,hn,decide_eq_true h3];rfl
theorem num_pair {x:Vl} (h:numP x=true) (hv:pVis (clipP x)):pairB x=true:=by
 unfold numP at h
 simp only[Bool.and_eq_true,decide_eq_true_eq]at h
 obtain⟨h3,h2,hl⟩:=h
 unfold clipP at hv
 unfold numsW at h2 hl hv
 by_cases hk:(prtW x).all (λ x=>decide (kindW x=1))=true
 .rw[if_pos hk]at hl hv
  simp only[List.length_map]at hl
  obtain⟨a,b,hp⟩:=two_list hl
  rw[hp]at hk hv
  simp only[List.all_cons,List.all_nil,Bool.and_true,Bool.and_eq_true,decide_eq_true_eq]at hk
  unfold pairB evB
  rw[hp,gi2_0,gi2_1,decide_eq_true h3,decide_eq_true hk.1,decide_eq_true hk.2]
  have v0:cVis (numW a):=clip_vis.1 hv.1
  have v1:cVis (numW b):=clip_vis.1 hv.2
  rw[decide_eq_true v0,decide_eq_true v1];rfl
 .rw[if_neg hk]at h2;simp at h2
theorem pair_cmp {x y:Vl} (hx:pairB x=true) (hy:pairB y=true) (h:cmpC x y<0):LtQ (pairOf x) (pairOf y):=by
 obtain⟨a,b,p1,k1,a1,b1,_,_,q1,_,_⟩:=pair_get hx
 obtain⟨c,d,p2,k2,c1,d1,_,_,q2,_,_⟩:=pair_get hy
 have sx:=znq x
 have sy:=znq y
 have r1:=(cmp_of (c:=3) (by decide) (by rw[k1];rfl)).1
 have r2:=(cmp_of (c:=3) (by decide) (by rw[k2];rfl)).1
 have vx:=kind_vd (v:=x) (by omega)
 have vy:=kind_vd (v:=y) (by omega)
 have:=tup_cmp sx.2.1 sx.1 (by rw[←r1];exact vx) sy.2.1 sy.1 (by rw[←r2];exact vy)
 rw[←r1, ←r2,p1,p2]at this
 rw[this]at h
 simp only[lexCmp]at h
 rw[int_cmp a1 c1,int_cmp b1 d1]at h
 rw[q1,q2]
 unfold LtQ
 dsimp only
 split at h
 .exact .inl (sgn_lt.1 h)
 .rename_i h0
  have e0:sgn (numW a) (numW c)=0:=Classical.byContradiction h0
  have:numW a=numW c:=(TO_sgn.eq _ _ trivial trivial).1 e0
  split at h
  .exact .inr ⟨this,sgn_lt.1 h⟩
  .simp at h
theorem pairs_asc {v:Vl} (h5:kindW v=5) (h1: ∀x∈prtW v,pairB x=true):((prtW v).map pairOf).Pairwise LtQ:=by
 have hs:=prtW_SLC (v:=v) (decide_eq_true h5)
 generalize prtW v=l at hs h1
 induction l with
 |nil=>simp
 |cons x l ih=>
  rw[SLC,List.pairwise_cons]at hs
  rw[List.map_cons,List.pairwise_cons]
  refine⟨λ y hy=> ?_,ih hs.2 (λ z hz=>h1 z (by simp[hz]))⟩
  obtain⟨z,hz,rfl⟩:=List.mem_map.1 hy
  exact pair_cmp (h1 x (by simp)) (h1 z (by simp[hz])) (hs.1 z hz)
theorem relZ_of {l:List (Int×Int)} (ha:l.Pairwise LtQ) (hv: ∀x∈l,pVis x):l=relZ l:=asc_relF ha (λ x=>⟨λ h=>⟨hv x h,decide_eq_true h⟩,λ h=>of_decide_eq_true h.2⟩)
theorem rPairsS (v:Vl): ∃r,m_ref16_pairs v=some (r,relOk v)/\(relOk v=true->r=(prtW v).map pairOf):=by
 have hFU:=zeo
 have hpl:=(znq v).2.1
 unfold m_ref16_pairs
 rw[rKind,zaf]
 by_cases h5:kindW v=5
 .rw[if_neg (λ h=>h h5),rPartsW,zaf,zbq]
  have e:=rPairs_loop (prtW v) hpl (λ c=>bnd1 (zgp c) (λ y227=>some (c,y227))) _ 0 FU [] (Nat.zero_add _) (by omega) (by simp;omega)
  rw[Int.natCast_zero,List.drop_zero,List.nil_append]at e
  rw[e]
  by_cases hk:(prtW v).all numP=true
  .rw[if_pos hk,rValidRel _ (by rw[List.length_map];omega),zaf]
   have hd:decide ((prtW v).map clipP=relZ ((prtW v).map clipP))=relOk v:=by
    unfold relOk
    rw[decide_eq_true h5,Bool.true_and,Bool.eq_iff_iff,decide_eq_true_eq,List.all_eq_true]
    constructor
    .intro he x hx
     have hm:clipP x∈(prtW v).map clipP:=List.mem_map_of_mem hx
     rw[he]at hm
     exact num_pair (List.all_eq_true.1 hk x hx) (relZ_mem.1 hm).1
    .intro hev
     have e2:(prtW v).map clipP=(prtW v).map pairOf:=List.map_congr_left (λ x hx=>by
      obtain⟨a,b,_,_,_,_,_,_,q1,q2,_⟩:=pair_get (hev x hx)
      rw[q1,q2])
     rw[e2]
     exact relZ_of (pairs_asc h5 hev) (λ y hy=>by
      obtain⟨x,hx,rfl⟩:=List.mem_map.1 hy
      obtain⟨a,b,_,_,_,_,v1,v2,q1,_,_⟩:=pair_get (hev x hx)
      rw[q1];exact⟨v1,v2⟩)
   refine⟨(prtW v).map clipP,by rw[hd],λ hs=>List.map_congr_left (λ x hx=> ?_)⟩
   unfold relOk at hs
   simp only[Bool.and_eq_true,List.all_eq_true]at hs
   obtain⟨a,b,_,_,_,_,_,_,q1,q2,_⟩:=pair_get (hs.2 x hx)
   rw[q1,q2]
  .have:relOk v=false:=by
    unfold relOk
    rw[Bool.and_eq_false_iff];right
    refine Bool.eq_false_iff.2 (λ hc=>hk (List.all_eq_true.2 (λ x hx=> ?_)))
    obtain⟨a,b,_,_,_,_,_,_,_,_,q⟩:=pair_get (List.all_eq_true.1 hc x hx)
    exact q
   rw[if_neg hk,this]
   exact⟨_,rfl,λ h=>by cases h⟩
 .have:relOk v=false:=by unfold relOk;rw[decide_eq_false h5,Bool.false_and]
  rw[if_pos h5,this]
  exact⟨_,rfl,λ h=>by cases h⟩
theorem vOrder (l:List (Int×Int)) (hl:l.length≤1000000000):zjz l=some l:=by
 have hFU:=zeo
 unfold zjz
 rw[zbq]
 have loop: ∀(m i n:Nat) (out:List (Int×Int)),i+m=l.length->m<n->out.length+m≤10000000000->zim l (λ x=>some x) n out i=some (out++l.drop i):=by
  intro m
  induction m with
  |zero=>
   intro i n out hi hn ho
   obtain⟨n,rfl⟩: ∃q,n=q+1:=⟨n - 1,by omega⟩
   rw[zim,zlb,if_neg (by omega),List.drop_eq_nil_of_le (by omega),List.append_nil]
  |succ m ih=>
   intro i n out hi hn ho
   obtain⟨n,rfl⟩: ∃q,n=q+1:=⟨n - 1,by omega⟩
   have hil:i<l.length:=by omega
   rw[zim,zlb,if_pos (by omega),zah (by omega),zbv hil,zah (by simp;omega),zbl (by omega),ih (i+1) n _ (by omega) (by omega) (by simp;omega),List.drop_eq_getElem_cons hil,List.append_assoc];rfl
 have:=loop l.length 0 FU [] (by omega) (by omega) (by simp;omega)
 rw[Int.natCast_zero,List.drop_zero,List.nil_append]at this
 exact this
theorem rAbove (l:List (Int×Int)) (hl:l.length≤1000000000):m_ref16_Above l=some l:=by
 have hFU:=zeo
 unfold m_ref16_Above
 rw[zbq]
 have loop: ∀(m i n:Nat) (out:List (Int×Int)),i+m=l.length->m<n->out.length+m≤10000000000->zlr l (λ x=>some x) n out i=some (out++l.drop i):=by
  intro m
  induction m with
  |zero=>
   intro i n out hi hn ho
   obtain⟨n,rfl⟩: ∃q,n=q+1:=⟨n - 1,by omega⟩
   rw[zlr,m_ref16_Above_B2,if_neg (by omega),List.drop_eq_nil_of_le (by omega),List.append_nil]
  |succ m ih=>
   intro i n out hi hn ho
   obtain⟨n,rfl⟩: ∃q,n=q+1:=⟨n - 1,by omega⟩
   have hil:i<l.length:=by omega
   rw[zlr,m_ref16_Above_B2,if_pos (by omega),zah (by omega),zah (by omega),zbv hil,zah (by simp;omega),zbl (by omega),ih (i+1) n _ (by omega) (by omega) (by simp;omega),List.drop_eq_getElem_cons hil,List.append_assoc];rfl
 have:=loop l.length 0 FU [] (by omega) (by omega) (by simp;omega)
 rw[Int.natCast_zero,List.drop_zero,List.nil_append]at this
 exact this
end
noncomputable section
attribute [local irreducible] FU keyF relF pKeys cKeys
abbrev Ofr:=Int×Vl
def cmpO (a b:Ofr):Int:=if sgn a.1 b.1=0 then cmpC a.2 b.2 else sgn a.1 b.1
theorem vCmpO (a b:Ofr):zdg a b=some (cmpO a b):=by
 unfold zdg
 rw[cCmpZ,zaf,vCompareW,zaf,or2Z,zaf];rfl
def prsW:List Vl->List Ofr
 |x::y::t=>(numW x,y)::prsW t
 |_=>[]
def prsChk (sb:Vl->Bool):List Vl->Bool
 |x::y::t=>(evB x && sb y) && prsChk sb t
 |_=>true
def ascO:List Ofr->Bool
 |a::b::t=>decide (cmpO a b<0) && ascO (b::t)
 |_=>true
def offB (sb:Vl->Bool) (l:List Vl):Bool:=(decide (l.length≠0) && decide (l.length % 2=0)) && (prsChk sb l && ascO (prsW l))
theorem i64_two {i:Nat} (h:i<9223372036854775806):i64 ((i:Int)+2)=((i+2:Nat):Int):=by rw[zfn (by omega)];omega
theorem oClip (l:List Ofr):zdd l=some l:=by
 unfold zdd
 first
  |rfl
  |rw[zah (by omega),Int.toNat_natCast,List.take_length]
theorem drop_two {l:List Vl} {i:Nat} (h:i+1<l.length):l.drop i=l[i]::l[i+1]::l.drop (i+2):=by
 rw[List.drop_eq_getElem_cons (by omega:i<l.length),List.drop_eq_getElem_cons h]
theorem vPairUp (l:List Vl) (hl:l.length≤1000000) (he:l.length % 2=0):zew l=some (prsW l):=by
 have hFU:=zeo
 unfold zew
 rw[zbq]
 have loop: ∀(m i n:Nat) (out:List Ofr),i+2*m=l.length->m<n->out.length+m≤10000000->zhj l (λ x=>bnd1 (zdd x) (λ y33=>some y33)) n out i=some (out++prsW (l.drop i)):=by
  intro m
  induction m with
  |zero=>
   intro i n out hi hn ho
   obtain⟨n,rfl⟩: ∃q,n=q+1:=⟨n - 1,by omega⟩
   rw[zhj,zkg,if_neg (by omega),List.drop_eq_nil_of_le (by omega),oClip,zaf,prsW,List.append_nil]
   intros;simp_all
  |succ m ih=>
   intro i n out hi hn ho
   obtain⟨n,rfl⟩: ∃q,n=q+1:=⟨n - 1,by omega⟩
   have h1:i+1<l.length:=by omega
   rw[zhj,zkg,if_pos (by omega),zah (by omega),zbv (by omega:i<l.length),vNum,zaf,zbl (by omega),i64_two (by omega),zah (by omega),zbv h1,zah (by simp;omega),ih (i+2) n _ (by omega) (by omega) (by simp;omega),drop_two h1,prsW,List.append_assoc];rfl
 have:=loop (l.length / 2) 0 FU [] (by omega) (by omega) (by simp;omega)
 rw[Int.natCast_zero,List.drop_zero,List.nil_append]at this
 exact this
theorem ascO_loop (o:List Ofr) (ho:o.length≤10000000) (K:Unit->Option Bool): ∀(m i n:Nat),i+m=o.length->m<n->1≤i->zft o K n i=if ascO (o.drop (i - 1))=true then K ()else some false:=by
 intro m
 induction m with
 |zero=>
  intro i n hi hn h1
  obtain⟨n,rfl⟩: ∃q,n=q+1:=⟨n - 1,by omega⟩
  have:ascO (o.drop (i - 1))=true:=by
   rw[List.drop_eq_getElem_cons (by omega:i - 1<o.length),List.drop_eq_nil_of_le (by omega),ascO]
   intros;simp_all
  rw[zft,zkj,if_neg (by omega),this,if_pos rfl]
 |succ m ih=>
  intro i n hi hn h1
  obtain⟨n,rfl⟩: ∃q,n=q+1:=⟨n - 1,by omega⟩
  have hil:i<o.length:=by omega
  have e1:i64 ((i:Int) - 1)=((i - 1:Nat):Int):=by rw[zfn (by omega)];omega
  have e2:o.drop (i - 1)=o[i - 1]::o[i]::o.drop (i+1):=by
   rw[List.drop_eq_getElem_cons (by omega:i - 1<o.length)]
   congr 1
   rw[show i - 1+1=i by omega,List.drop_eq_getElem_cons hil]
  have e3:o.drop (i+1 - 1)=o[i]::o.drop (i+1):=by rw[show i+1 - 1=i by omega,List.drop_eq_getElem_cons hil]
  rw[zft,zkj,if_pos (by omega),e1,zah (by omega),zah (by omega),zbv (by omega:i - 1<o.length),zbv hil,vCmpO,zaf,e2,ascO,zbl (by omega),ih (i+1) n (by omega) (by omega) (by omega),e3]
  by_cases hc:cmpO o[i - 1] o[i]<0
  .rw[if_neg (by omega),decide_eq_true hc,Bool.true_and]
  .rw[if_pos (by omega),decide_eq_false hc,Bool.false_and];rfl
theorem vOffers (self:Vl->Option Bool) (sb:Vl->Bool) (l:List Vl) (hs: ∀x∈l,self x=some (sb x)) (hl:l.length≤1000000):m_procterm_offers self l=some (offB sb l):=by
 have hFU:=zeo
 unfold m_procterm_offers offB
 rw[zbq]
 by_cases h0:l.length=0
 .rw[if_pos (by omega),decide_eq_false (p:=l.length≠0) (λ h=>h h0),Bool.false_and,Bool.false_and];rfl
 .rw[if_neg (by omega),decide_eq_true (p:=l.length≠0) h0,Bool.true_and]
  dsimp only
  by_cases he:l.length % 2=0
  .rw[if_neg (by rw[decide_eq_true_eq];exact λ h=>h ((tmod2 l.length).2 he)),decide_eq_true he,Bool.true_and,zbq]
   have loop: ∀(K:Unit->Option Bool) (m i n:Nat),i+2*m=l.length->m<n->zhl self l K n i=if prsChk sb (l.drop i)=true then K ()else some false:=by
    intro K m
    induction m with
    |zero=>
     intro i n hi hn
     obtain⟨n,rfl⟩: ∃q,n=q+1:=⟨n - 1,by omega⟩
     have:prsChk sb (l.drop i)=true:=by
      rw[List.drop_eq_nil_of_le (by omega),prsChk]
      intros;simp_all
     rw[zhl,zkd,if_neg (by omega),this,if_pos rfl]
    |succ m ih=>
     intro i n hi hn
     obtain⟨n,rfl⟩: ∃q,n=q+1:=⟨n - 1,by omega⟩
     have h1:i+1<l.length:=by omega
     rw[zhl,zkd,if_pos (by omega),zah (by omega),zbv (by omega:i<l.length),vEvent,zaf,zbq,i64_two (by omega),ih (i+2) n (by omega) (by omega),drop_two h1,prsChk]
     dsimp only
     cases evB l[i]with
     |false=>rfl
     |true=>
      rw[if_neg (by simp),zbl (by omega),zah (by omega),zbv h1,hs _ (List.getElem_mem h1),zaf,Bool.true_and]
      cases sb l[i+1]with
      |false=>rfl
      |true=>rw[if_neg (by simp),Bool.true_and]
   have e1:=loop (λ _=>bnd1 (zew l) (λ y96=>jn (λ _=>some true) (λ k97=>zft y96 k97 FU 1))) (l.length / 2) 0 FU (by omega) (by omega)
   rw[Int.natCast_zero,List.drop_zero]at e1
   rw[e1]
   cases prsChk sb l with
   |false=>rfl
   |true=>
    have hlen: ∀(k:Nat) (l:List Vl),l.length=2*k->(prsW l).length=k:=by
     intro k
     induction k with
     |zero=>intro l h;rw[List.eq_nil_of_length_eq_zero (by omega:l.length=0)];rfl
     |succ k ih=>
      intro l h
      match l,h with
      |x::y::t,h=>
       simp only[List.length_cons]at h
       rw[prsW,List.length_cons,ih t (by omega)]
    have hk:=hlen (l.length / 2) l (by omega)
    rw[if_pos rfl,vPairUp l hl he,zaf,zbq,Bool.true_and]
    have e2:=ascO_loop (prsW l) (by omega) (λ _=>some true) ((prsW l).length - 1) 1 FU (by omega) (by omega) (by omega)
    rw[show((1:Nat):Int)=1 from rfl,show 1 - 1=0 from rfl,List.drop_zero]at e2
    rw[e2]
    cases ascO (prsW l) <;>rfl
  .rw[if_pos (by rw[decide_eq_true_eq];exact λ h=>he ((tmod2 l.length).1 h)),decide_eq_false he,Bool.false_and]
theorem rBetween (v:Vl) (a b:Int):zjh v a b=some (decide (kindW v=1) && decide (a≤numW v/\numW v≤b)):=by
 unfold zjh
 rw[zbq,rKind,zaf]
 by_cases h1:kindW v=1
 .rw[if_pos h1,rNum,zaf,decide_eq_true h1,Bool.true_and]
  by_cases h2:a≤numW v
  .rw[if_pos h2,zaf];congr 1;exact decide_eq_decide.2 ⟨λ h=>⟨h2,h⟩,λ h=>h.2⟩
  .rw[if_neg h2,decide_eq_false (λ h=>h2 h.1)]
 .rw[if_neg h1,decide_eq_false h1,Bool.false_and]
theorem rBetwE (v:Vl):zjh v 2 1025=some (evB v):=by
 rw[rBetween];unfold evB;congr 2
 exact decide_eq_decide.2 ⟨λ h=>⟨h.1,by omega⟩,λ h=>⟨h.1,by have:=h.2;omega⟩⟩
theorem int_inj {a b:Vl} (ha:kindW a=1) (hb:kindW b=1) (h:numW a=numW b):a=b:=by
 refine cmpC_eq.1 ?_
 rw[int_cmp ha hb,h]
 exact(TO_sgn).self _ trivial
theorem evB_kind {v:Vl} (h:evB v=true):kindW v=1:=by
 unfold evB at h;simp only[Bool.and_eq_true,decide_eq_true_eq]at h;exact h.1
theorem cmpO_lt {a b x y:Vl} (ha:kindW a=1) (hb:kindW b=1):cmpO (numW a,x) (numW b,y)<0↔ ¬(numW b<numW a∨(a=b/\0≤cmpC x y)):=by
 unfold cmpO
 dsimp only
 by_cases h:numW a=numW b
 .have e:sgn (numW a) (numW b)=0:=(TO_sgn.eq _ _ trivial trivial).2 h
  have:=int_inj ha hb h
  rw[if_pos e]
  constructor
  .rintro h1 (h2|⟨_,h2⟩) <;>omega
  .intro h1
   refine Classical.byContradiction λ h2=>h1 (.inr ⟨this,by omega⟩)
 .have e:sgn (numW a) (numW b)≠0:=λ e=>h ((TO_sgn.eq _ _ trivial trivial).1 e)
  rw[if_neg e,sgn_lt]
  constructor
  .rintro h1 (h2|⟨h2,_⟩)
   .omega
   .rw[h2]at h1;omega
  .intro h1
   refine Classical.byContradiction λ h2=>h1 (.inl (by omega))
theorem rOffered (self:Vl->Option Bool) (sb:Vl->Bool) (l:List Vl) (hs: ∀x∈l,self x=some (sb x)) (hl:l.length≤1000000):m_ref16_offered self l=some (offB sb l):=by
 have hFU:=zeo
 have h2m:(Int.tmod (l.length:Int) 2=1)↔ ¬l.length % 2=0:=by
  have:=tmod_nat l.length 2
  rw[show((2:Nat):Int)=2 from rfl]at this
  rw[this];omega
 unfold m_ref16_offered offB
 rw[zbq]
 by_cases h0:l.length=0
 .rw[if_pos (by omega),decide_eq_false (p:=l.length≠0) (λ h=>h h0),Bool.false_and,Bool.false_and];rfl
 .rw[if_neg (by omega),decide_eq_true (p:=l.length≠0) h0,Bool.true_and]
  dsimp only
  by_cases he:l.length % 2=0
  .rw[if_neg (λ h=>h2m.1 (of_decide_eq_true h) he),decide_eq_true he,Bool.true_and,zbq]
   have loop: ∀(m i n:Nat) (_:i+2*m=l.length),m<n->(∀h:0<i,evB (l[i - 2]'(by omega))=true)->zjq self l (λ _=>some true) n i=some (prsChk sb (l.drop i) && ascO (prsW (l.drop (i - 2)))):=by
    intro m
    induction m with
    |zero=>
     intro i n hi hn hp
     obtain⟨n,rfl⟩: ∃q,n=q+1:=⟨n - 1,by omega⟩
     have t1:prsChk sb (l.drop i)=true:=by
      rw[List.drop_eq_nil_of_le (by omega),prsChk]
      intros;simp_all
     have t2:ascO (prsW (l.drop (i - 2)))=true:=by
      rw[drop_two (by omega),List.drop_eq_nil_of_le (by omega)]
      rfl
     rw[zjq,zmb,if_neg (by omega),t1,t2];rfl
    |succ m ih=>
     intro i n hi hn hp
     obtain⟨n,rfl⟩: ∃q,n=q+1:=⟨n - 1,by omega⟩
     have h1:i+1<l.length:=by omega
     have h1':i<l.length:=by omega
     rw[zjq,zmb,if_pos (by omega),zbq,zah (by omega),zbv h1',rBetwE,zaf,drop_two h1,prsChk,i64_two (by omega)]
     cases hev:evB l[i]with
     |false=>rfl
     |true=>
      rw[if_neg (by simp),zbl (by omega),zah (by omega),zbv h1,hs _ (List.getElem_mem h1),zaf,Bool.true_and]
      cases sb l[i+1]with
      |false=>rfl
      |true=>
       dsimp only
       rw[if_neg (by simp),Bool.true_and]
       have hnext:=ih (i+2) n (by omega) (by omega) (λ _=>by simp only[Nat.add_sub_cancel];exact hev)
       rw[show i+2 - 2=i by omega]at hnext
       rw[zbq]
       by_cases hi0:i=0
       .subst hi0
        rw[if_neg (by omega)]
        dsimp only
        rw[if_neg Bool.false_ne_true,hnext]
       .have e1:i64 ((i:Int) - 2)=((i - 2:Nat):Int):=by rw[zfn (by omega)];omega
        have e2:i64 ((i:Int) - 1)=((i - 1:Nat):Int):=by rw[zfn (by omega)];omega
        have hpe:=hp (by omega)
        have e3:l.drop (i - 2)=l[i - 2]::l[i - 1]::l.drop i:=by
         have:=drop_two (l:=l) (i:=i - 2) (by omega)
         simp only[show i - 2+1=i - 1 by omega,show i - 2+2=i by omega]at this
         exact this
        have e4:ascO (prsW (l.drop (i - 2)))=(decide (cmpO (numW l[i - 2],l[i - 1]) (numW l[i],l[i+1])<0) && ascO (prsW (l.drop i))):=by
         rw[e3,prsW,drop_two h1,prsW,ascO]
        have hc:=cmpO_lt (x:=l[i - 1]) (y:=l[i+1]) (evB_kind hpe) (evB_kind hev)
        rw[if_pos (by omega),e1,zah (by omega),zbv (by omega:i - 2<l.length),rNum,zaf,zah (by omega),rNum,zaf,e4]
        by_cases c1:numW l[i]<numW l[i - 2]
        .rw[if_pos c1,decide_eq_false (λ h=>hc.1 h (.inl c1)),Bool.false_and,Bool.and_false];rfl
        .rw[if_neg c1,zah (by omega),zah (by omega)]
         by_cases c2:l[i - 2]=l[i]
         .rw[if_pos c2,e2,zah (by omega),zah (by omega),zbv (by omega:i - 1<l.length),rCompareW,zaf]
          dsimp only
          by_cases c3:0≤cmpC l[i - 1] l[i+1]
          .rw[if_pos (decide_eq_true c3),decide_eq_false (λ h=>hc.1 h (.inr ⟨c2,c3⟩)),Bool.false_and,Bool.and_false]
          .rw[if_neg (λ h=>c3 (of_decide_eq_true h)),hnext,decide_eq_true (hc.2 (λ h=>h.elim c1 (λ h=>c3 h.2))),Bool.true_and]
         .rw[if_neg c2]
          dsimp only
          rw[if_neg Bool.false_ne_true,hnext,decide_eq_true (hc.2 (λ h=>h.elim c1 (λ h=>c2 h.1))),Bool.true_and]
   have:=loop (l.length / 2) 0 FU (by omega) (by omega) (λ h=>by omega)
   rw[Int.natCast_zero,List.drop_zero]at this
   exact this
  .rw[if_pos (decide_eq_true (h2m.2 he)),decide_eq_false he,Bool.false_and]
end
noncomputable section
attribute [local irreducible] FU keyF relF pKeys cKeys
def fm (op:Int):List UInt8:=
 if op=7∨op=8∨op=9∨op=10∨op=11 then[112,112]else if op=12∨op=13∨op=16 then[112,115,112]else if op=17 then[112,115,115,112]else if op=20 then[112,114,112]else if op=14 then[112,115]else if op=15∨op=18 then[112,114]else if op=19 then[112]else[]
theorem op_cases (op:Int):op=7∨op=8∨op=9∨op=10∨op=11∨op=12∨op=13∨op=14∨op=15∨op=16∨op=17∨op=18∨op=19∨op=20∨(¬op=7/\ ¬op=8/\ ¬op=9/\ ¬op=10/\ ¬op=11/\ ¬op=12/\ ¬op=13/\ ¬op=14/\ ¬op=15/\ ¬op=16/\ ¬op=17/\ ¬op=18/\ ¬op=19/\ ¬op=20):=by omega
theorem vForm (op:Int):ziu op=some (fm op):=by
 rcases op_cases op with h|h|h|h|h|h|h|h|h|h|h|h|h|h|⟨h1,h2,h3,h4,h5,h6,h7,h8,h9,h10,h11,h12,h13,h14⟩
 all_goals first
  |(subst h;unfold ziu fm;simp[zbq])
  |(unfold ziu fm;simp[zbq,h1,h2,h3,h4,h5,h6,h7,h8,h9,h10,h11,h12,h13,h14])
theorem rLayout (op:Int):zgw op=some ((fm op).map (λ c=>c - 32)):=by
 rcases op_cases op with h|h|h|h|h|h|h|h|h|h|h|h|h|h|⟨h1,h2,h3,h4,h5,h6,h7,h8,h9,h10,h11,h12,h13,h14⟩
 all_goals first
  |(subst h;unfold zgw fm;simp[zbq])
  |(unfold zgw fm;simp[zbq,h1,h2,h3,h4,h5,h6,h7,h8,h9,h10,h11,h12,h13,h14])
theorem fm_all (op:Int):(fm op).all (λ c=>c ==112 ||(c ==115 ||c ==114))=true:=by
 unfold fm
 repeat' split
 all_goals rfl
theorem fm_mem {op:Int} {c:UInt8} (h:c∈fm op):c=112∨c=115∨c=114:=by
 have:=List.all_eq_true.1 (fm_all op) c h
 simpa using this
def numB (v:Vl) (m:Int):Bool:=decide (kindW v=1) && decide (0≤numW v/\numW v≤m)
theorem vNumber (v:Vl) (m:Int):zkv v m=some (numB v m):=by
 unfold zkv numB
 rw[vNum,zaf,zbq,vKind,zaf]
 by_cases h1:kindW v=1
 .rw[if_pos h1,decide_eq_true h1,Bool.true_and]
  by_cases h2:0≤numW v
  .rw[if_pos h2];congr 1;exact decide_eq_decide.2 ⟨λ h=>⟨h2,h⟩,λ h=>h.2⟩
  .rw[if_neg h2,decide_eq_false (λ h=>h2 h.1)]
 .rw[if_neg h1,decide_eq_false h1,Bool.false_and]
def relL (x:Vl):List (Int×Int):=(prtW x).map pairOf
def partB0 (sb:Vl->Bool) (c:UInt8) (x:Vl):Bool:=if c=112 then sb x else if c=115 then setOk x else if c=114 then relOk x else false
def partsB0 (sb:Vl->Bool):List UInt8->List Vl->Bool
 |c::cs,x::xs=>partB0 sb c x && partsB0 sb cs xs
 |_,_=>true
def partB (sb:Vl->Bool) (op:Int) (c:UInt8) (x:Vl):Bool:=if c=112 then sb x else if c=115 then setOk x else if c=114 then relOk x && (decide (¬op=18) ||ordB (relL x))else false
def partsB (sb:Vl->Bool) (op:Int):List UInt8->List Vl->Bool
 |c::cs,x::xs=>partB sb op c x && partsB sb op cs xs
 |_,_=>true
theorem parts_same (sb:Vl->Bool) {op:Int} (h: ¬op=18): ∀(cs:List UInt8) (xs:List Vl),partsB sb op cs xs=partsB0 sb cs xs
 |[],_=>by simp[partsB,partsB0]
 |_::_,[]=>by simp[partsB,partsB0]
 |c::cs,x::xs=>by
  rw[partsB,partsB0,parts_same sb h cs xs]
  congr 1
  unfold partB partB0
  rw[decide_eq_true h,Bool.true_or,Bool.and_true]
def tbody (sb:Vl->Bool) (op:Int) (l:List Vl):Bool:=
 if op=1∨op=2∨op=3∨op=4 then decide (l.length=0)else if op=5 then decide (1≤l.length) && (decide (l.length≤33) && numB (gi l 0) 65535)else if op=6 then offB sb l else if op=21 then decide (l.length=1) && numB (gi l 0) 11 else decide (l.length=(fm op).length) && partsB sb op (fm op) l
def tb (sb:Vl->Bool) (v:Vl):Bool:=if kindW v=9 then tbody sb (numW (gi (prtW v) 0)) ((prtW v).drop 1)else false
theorem proc_parts {v:Vl} (h:kindW v=9):1≤(prtW v).length/\(prtW v).length≤65535/\1≤numW (gi (prtW v) 0)/\numW (gi (prtW v) 0)≤21:=by
 have hs:=znq v
 have hf:=(cmp_of (c:=9) (by decide) (by rw[h];rfl)).2
 have:formedB 9 (prtW v)=(decide (1≤(prtW v).length) && betB (gi (prtW v) 0) 1 21):=by simp[formedB]
 rw[this]at hf
 simp only[Bool.and_eq_true,decide_eq_true_eq]at hf
 obtain⟨h1,h2⟩:=hf
 refine⟨h1,hs.2.1, ?_⟩
 have hl:(0:Nat)<(prtW v).length:=by omega
 have hm:=hs.1 _ (List.getElem_mem hl)
 have e:gi (prtW v) 0=(prtW v)[0]:=by have:=zbv (xs:=prtW v) hl;rwa [Int.natCast_zero]at this
 unfold betB at h2
 simp only[Bool.and_eq_true,decide_eq_true_eq,beq_iff_eq]at h2
 have hk:kindW (gi (prtW v) 0)=1:=by
  unfold kindW;rw[e,if_pos (zdm.2 hm), ←e,h2.1];rfl
 unfold numW
 rw[if_pos hk]
 exact h2.2
theorem jn_sw {ρ:Type} (op:Int) (k:Bool->ρ):jn k (λ k15=>if op=1 then(k15 (decide (op=1)))else(if op=2 then(k15 (decide (op=2)))else(if op=3 then(k15 (decide (op=3)))else(k15 (decide (op=4))))))=k (decide (op=1∨op=2∨op=3∨op=4)):=by
 rw[zbq]
 by_cases h1:op=1
 .rw[if_pos h1,decide_eq_true h1,decide_eq_true (.inl h1)]
 .rw[if_neg h1]
  by_cases h2:op=2
  .rw[if_pos h2,decide_eq_true h2,decide_eq_true (.inr (.inl h2))]
  .rw[if_neg h2]
   by_cases h3:op=3
   .rw[if_pos h3,decide_eq_true h3,decide_eq_true (.inr (.inr (.inl h3)))]
   .rw[if_neg h3]
    congr 1
    exact decide_eq_decide.2 ⟨λ h=> .inr (.inr (.inr h)),λ h=>h.elim (λ h=>absurd h h1) (λ h=>h.elim (λ h=>absurd h h2) (λ h=>h.elim (λ h=>absurd h h3) id))⟩
theorem vPart (self:Vl->Option Bool) (sb:Vl->Bool) (c:UInt8) (x:Vl) (hs:self x=some (sb x)):m_procterm_part self c x=some (partB0 sb c x):=by
 unfold m_procterm_part partB0
 rw[zbq]
 by_cases h1:c=112
 .rw[if_pos h1,if_pos h1,hs,zaf]
 .rw[if_neg h1,if_neg h1]
  by_cases h2:c=115
  .rw[if_pos h2,if_pos h2,vEvSet,zaf]
   cases setOk x <;>rfl
  .rw[if_neg h2,if_neg h2]
   by_cases h3:c=114
   .rw[if_pos h3,if_pos h3,vRelation,zaf]
    cases relOk x <;>rfl
   .rw[if_neg h3,if_neg h3]
theorem vParts_loop (self:Vl->Option Bool) (sb:Vl->Bool) (y1:Int×List Vl) (f:List UInt8) (hlen:y1.2.length=f.length) (h8:f.length≤1000) (hs: ∀x∈y1.2,self x=some (sb x)) (K:Unit->Option Bool): ∀(m i n:Nat),i+m=y1.2.length->m<n->zjt self y1 f K n i=if partsB0 sb (f.drop i) (y1.2.drop i)=true then K ()else some false:=by
 intro m
 induction m with
 |zero=>
  intro i n hi hn
  obtain⟨n,rfl⟩: ∃q,n=q+1:=⟨n - 1,by omega⟩
  have:partsB0 sb (f.drop i) (y1.2.drop i)=true:=by
   rw[List.drop_eq_nil_of_le (show y1.2.length≤i by omega)]
   cases f.drop i <;>rfl
  rw[zjt,zmr,if_neg (by omega),this,if_pos rfl]
 |succ m ih=>
  intro i n hi hn
  obtain⟨n,rfl⟩: ∃q,n=q+1:=⟨n - 1,by omega⟩
  have hil:i<y1.2.length:=by omega
  have hfl:i<f.length:=by omega
  rw[zjt,zmr,if_pos (by omega),zah (by omega),zah (by omega),zbv hfl,zbv hil,vPart self sb _ _ (hs _ (List.getElem_mem hil)),zaf,List.drop_eq_getElem_cons hfl,List.drop_eq_getElem_cons hil,partsB0,zbl (by omega),ih (i+1) n (by omega) (by omega)]
  cases partB0 sb f[i] y1.2[i]with
  |true=>rw[if_neg (by simp),Bool.true_and]
  |false=>rfl
theorem fm_len (op:Int):(fm op).length≤4:=by
 unfold fm
 repeat' split
 all_goals simp
theorem relL_len (x:Vl):(relL x).length≤65535:=by unfold relL;rw[List.length_map];exact(znq x).2.1
theorem vTermF (self:Vl->Option Bool) (sb:Vl->Bool) (v:Vl) (hs: ∀x∈prtW v,self x=some (sb x)):zid self v=some (tb sb v):=by
 have hFU:=zeo
 unfold zid zem tb
 rw[vKind,zaf]
 by_cases h9:kindW v=9
 .obtain⟨p1,p2,p3,p4⟩:=proc_parts h9
  rw[if_neg (λ h=>h h9),if_pos h9,vPartsW,zaf,zah (by omega),vNum,zaf,zah (by omega),zaf]
  dsimp only
  rw[show Int.toNat 1=1 from rfl]
  have hsl: ∀x∈(prtW v).drop 1,self x=some (sb x):=λ x hx=>hs x (List.mem_of_mem_drop hx)
  have hll:((prtW v).drop 1).length≤65535:=by rw[List.length_drop];omega
  generalize hop:numW (gi (prtW v) 0)=op at p3 p4
  generalize hL:(prtW v).drop 1=l at hsl hll
  rw[if_neg (by omega),jn_sw]
  unfold tbody
  by_cases c1:op=1∨op=2∨op=3∨op=4
  .rw[if_pos (decide_eq_true c1),if_pos c1];congr 1;exact decide_eq_decide.2 ⟨λ h=>by omega,λ h=>by omega⟩
  .rw[if_neg (λ h=>c1 (of_decide_eq_true h)),if_neg c1]
   by_cases c5:op=5
   .rw[if_pos c5,if_pos c5,zbq]
    by_cases d1:1≤l.length
    .rw[if_pos (by omega),decide_eq_true d1,Bool.true_and]
     by_cases d2:l.length≤33
     .rw[if_pos (by omega),zah (by omega),vNumber,zaf,decide_eq_true d2,Bool.true_and]
     .rw[if_neg (by omega),decide_eq_false d2,Bool.false_and]
    .rw[if_neg (by omega),decide_eq_false d1,Bool.false_and]
   .rw[if_neg c5,if_neg c5]
    by_cases c6:op=6
    .rw[if_pos c6,if_pos c6,vOffers self sb l hsl (by omega),zaf]
    .rw[if_neg c6,if_neg c6]
     by_cases c21:op=21
     .rw[if_pos c21,if_pos c21,zbq]
      by_cases d1:l.length=1
      .rw[if_pos (by omega),zah (by omega),vNumber,zaf,decide_eq_true d1,Bool.true_and]
      .rw[if_neg (by omega),decide_eq_false d1,Bool.false_and]
     .rw[if_neg c21,if_neg c21,vForm,zaf]
      have hf4:=fm_len op
      by_cases d1:l.length=(fm op).length
      .rw[if_neg (by omega),decide_eq_true d1,Bool.true_and,zbq]
       have e:=vParts_loop self sb (op,l) (fm op) d1 (by omega) hsl (λ _=>if¬op=18 then some true else need ((0:Int)≤1/\1<(l.length:Int)) (bnd1 (zff (gi l 1)) (λ y49=>bnd1 (zjz y49.1) (λ y50=>bnd1 (zfk y50) (λ y51=>some y51))))) l.length 0 FU (Nat.zero_add _) (by omega)
       rw[Int.natCast_zero,List.drop_zero,List.drop_zero]at e
       refine e.trans ?_
       by_cases d18:op=18
       .subst d18
        have hfm:fm 18=[112,114]:=by simp[fm]
        rw[hfm]at d1
        obtain⟨p,r,rfl⟩:=two_list d1
        have hln:((prtW r).map pairOf).length≤65535:=relL_len r
        have hK:need ((0:Int)≤1/\1<(([p,r]:List Vl).length:Int)) (bnd1 (zff (gi [p,r] 1)) (λ y49=>bnd1 (zjz y49.1) (λ y50=>bnd1 (zfk y50) (λ y51=>some y51))))=some (ordB (if relOk r=true then relL r else[])):=by
         rw[zah (by simp),gi2_1,vRelation,zaf]
         cases relOk r with
         |true=>
          rw[if_pos rfl,if_pos rfl]
          dsimp only
          rw[vOrder _ (by omega),zaf,vValidOrder _ (by omega),zaf];rfl
         |false=>rw[if_neg Bool.false_ne_true,if_neg Bool.false_ne_true,vOrder _ (by simp),zaf,vValidOrder _ (by simp),zaf]
        have b0:partsB0 sb (fm 18) [p,r]=(sb p && relOk r):=by rw[hfm];simp[partsB0,partB0]
        have b1:partsB sb 18 (fm 18) [p,r]=(sb p && (relOk r && ordB (relL r))):=by rw[hfm];simp[partsB,partB]
        rw[if_neg (show¬ ¬(18:Int)=18 by simp),hK]
        show(if partsB0 sb (fm 18) [p,r]=true then _ else _)=_
        rw[b0,b1]
        cases sb p with
        |false=>rfl
        |true=>
         cases relOk r with
         |false=>rfl
         |true=>rfl
       .rw[parts_same sb d18,if_pos d18]
        cases partsB0 sb (fm op) l <;>rfl
      .rw[if_pos (by omega),decide_eq_false d1,Bool.false_and]
 .rw[if_pos h9,zaf,if_neg h9,if_pos rfl]
theorem fm32 {c:UInt8} (h:c=112∨c=115∨c=114):(c - 32=80↔c=112)/\(c - 32=83↔c=115):=by
 rcases h with rfl|rfl|rfl <;>decide
theorem rParts_loop (self:Vl->Option Bool) (sb:Vl->Bool) (y1 l:List Vl) (hl:y1.drop 1=l) (op:Int) (f:List UInt8) (hf: ∀c∈f,c=112∨c=115∨c=114) (hlen:l.length=f.length) (h8:f.length≤1000) (hs: ∀x∈l,self x=some (sb x)) (K:Unit->Option Bool): ∀(m i n:Nat),i+m=l.length->m<n->zlk self y1 op (f.map (λ c=>c - 32)) K n i=if partsB sb op (f.drop i) (l.drop i)=true then K ()else some false:=by
 have e1:List.drop (Int.toNat 1) y1=l:=hl
 intro m
 induction m with
 |zero=>
  intro i n hi hn
  obtain⟨n,rfl⟩: ∃q,n=q+1:=⟨n - 1,by omega⟩
  have:partsB sb op (f.drop i) (l.drop i)=true:=by
   rw[List.drop_eq_nil_of_le (show l.length≤i by omega)]
   cases f.drop i <;>rfl
  rw[zlk,m_ref16_term_B2,e1,if_neg (by omega),this,if_pos rfl]
 |succ m ih=>
  intro i n hi hn
  obtain⟨n,rfl⟩: ∃q,n=q+1:=⟨n - 1,by omega⟩
  have hil:i<l.length:=by omega
  have hfl:i<f.length:=by omega
  have hml:i<(f.map (λ c=>c - 32)).length:=by rw[List.length_map];exact hfl
  obtain⟨q1,q2⟩:=fm32 (hf _ (List.getElem_mem hfl))
  have go: ∀b:Bool,b=partB sb op f[i] l[i]->(if(!b)=true then some false else zlk self y1 op (f.map (λ c=>c - 32)) K n (i64 ((i:Int)+1)))=if(partB sb op f[i] l[i] && partsB sb op (f.drop (i+1)) (l.drop (i+1)))=true then K ()else some false:=λ b hb=>by
   rw[←hb,zbl (by omega),ih (i+1) n (by omega) (by omega)]
   cases b with
   |true=>rw[if_neg (by simp),Bool.true_and]
   |false=>rfl
  rw[zlk,m_ref16_term_B2,e1,if_pos (by omega),zbq,zah (by omega),zbv hml,List.getElem_map,List.drop_eq_getElem_cons hfl,List.drop_eq_getElem_cons hil,partsB,zah (by omega),zbv hil,hs _ (List.getElem_mem hil),zaf,zah (by omega),zah (by omega)]
  by_cases h1:f[i]=112
  .rw[if_pos (q1.2 h1)]
   exact go _ (by unfold partB;rw[if_pos h1])
  .rw[if_neg (λ h=>h1 (q1.1 h))]
   by_cases h2:f[i]=115
   .obtain⟨r,er,_⟩:=rEventsS l[i]
    rw[if_pos (q2.2 h2),er,zaf]
    exact go _ (by unfold partB;rw[if_neg h1,if_pos h2])
   .have h3:f[i]=114:=by rcases hf _ (List.getElem_mem hfl)with h|h|h;exact absurd h h1;exact absurd h h2;exact h
    obtain⟨r,er,hr⟩:=rPairsS l[i]
    have hpb:partB sb op f[i] l[i]=(relOk l[i] && (decide (¬op=18) ||ordB (relL l[i]))):=by unfold partB;rw[if_neg h1,if_neg h2,if_pos h3]
    rw[if_neg (λ h=>h2 (q2.1 h)),er,zaf]
    dsimp only
    cases hro:relOk l[i]with
    |false=>
     rw[if_neg Bool.false_ne_true]
     exact go _ (by rw[hpb,hro,Bool.false_and])
    |true=>
     rw[if_pos rfl]
     by_cases h18:op=18
     .have hln:=relL_len l[i]
      have hrr:r=relL l[i]:=hr hro
      rw[if_neg (λ h=>h h18),hrr,rAbove _ (by omega),zaf,rValidOrder _ (by omega),zaf]
      exact go _ (by rw[hpb,hro,decide_eq_false (λ h=>h h18),Bool.true_and,Bool.false_or])
     .rw[if_pos h18]
      exact go _ (by rw[hpb,hro,decide_eq_true h18];rfl)
theorem rTermF (self:Vl->Option Bool) (sb:Vl->Bool) (v:Vl) (hs: ∀x∈prtW v,self x=some (sb x)):znc self v=some (tb sb v):=by
 have hFU:=zeo
 unfold znc tb
 rw[rPartsW,zaf,rKind,zaf]
 by_cases h9:kindW v=9
 .obtain⟨p1,p2,p3,p4⟩:=proc_parts h9
  rw[if_neg (λ h=>h h9),if_pos h9,zah (by omega),rNum,zaf,zah (by omega)]
  have hsl: ∀x∈(prtW v).drop 1,self x=some (sb x):=λ x hx=>hs x (List.mem_of_mem_drop hx)
  have hll:((prtW v).drop 1).length≤65535:=by rw[List.length_drop];omega
  generalize hop:numW (gi (prtW v) 0)=op at p3 p4
  have hL:List.drop (Int.toNat 1) (prtW v)=(prtW v).drop 1:=rfl
  rw[hL,jn_sw]
  generalize hl:(prtW v).drop 1=l at hsl hll
  unfold tbody
  by_cases c1:op=1∨op=2∨op=3∨op=4
  .rw[if_pos (decide_eq_true c1),if_pos c1];congr 1;exact decide_eq_decide.2 ⟨λ h=>by omega,λ h=>by omega⟩
  .rw[if_neg (λ h=>c1 (of_decide_eq_true h)),if_neg c1]
   by_cases c5:op=5
   .rw[if_pos c5,if_pos c5,zbq]
    by_cases d1:1≤l.length
    .rw[if_pos (by omega),decide_eq_true d1,Bool.true_and]
     by_cases d2:l.length≤33
     .rw[if_pos (by omega),zah (by omega),rBetween,zaf,decide_eq_true d2,Bool.true_and];rfl
     .rw[if_neg (by omega),decide_eq_false d2,Bool.false_and]
    .rw[if_neg (by omega),decide_eq_false d1,Bool.false_and]
   .rw[if_neg c5,if_neg c5]
    by_cases c21:op=21
    .rw[if_pos c21,if_neg (by omega),if_pos c21,zbq]
     by_cases d1:l.length=1
     .rw[if_pos (by omega),zah (by omega),rBetween,zaf,decide_eq_true d1,Bool.true_and];rfl
     .rw[if_neg (by omega),decide_eq_false d1,Bool.false_and]
    .rw[if_neg c21]
     by_cases c6:op=6
     .rw[if_pos c6,if_pos c6,rOffered self sb l hsl (by omega),zaf]
     .rw[if_neg c6,if_neg c6,if_neg c21,rLayout,zaf,List.length_map]
      have hf4:=fm_len op
      by_cases d1:l.length=(fm op).length
      .rw[if_neg (by omega),decide_eq_true d1,Bool.true_and,zbq]
       have e:=rParts_loop self sb (prtW v) l hl op (fm op) (λ c hc=>fm_mem hc) d1 (by omega) hsl (λ _=>some true) l.length 0 FU (Nat.zero_add _) (by omega)
       rw[Int.natCast_zero,List.drop_zero,List.drop_zero]at e
       refine e.trans ?_
       cases partsB sb op (fm op) l <;>rfl
      .rw[if_pos (by omega),decide_eq_false d1,Bool.false_and]
 .rw[if_pos h9,if_neg h9]
def tw:Nat->Vl->Bool
 |0,_=>false
 |n+1,v=>tb (tw n) v
theorem zji {v:Vl} {k:Nat} (hk40:k≤40) (h9:kindW v=9) (hv:IsV k v):1≤k/\ ∀x∈prtW v,IsV (k - 1) x:=by
 have hV:=kind_vd (v:=v) (by omega)
 have hk:=kind_g0 (v:=v) (by omega)
 have hpp:prtW v=prt v:=by unfold prtW;rw[if_pos (zdm.2 hV)]
 rw[hpp]
 cases hv with
 |int k b hb=>simp[gi_0]at hk;omega
 |bool k b hb=>simp[gi_0]at hk;omega
 |name k a b=>simp[gi_0]at hk;omega
 |comp k c x y ps hc hn hp hf=>
  rw[prt_comp hc hn (λ p hp'=>(hp p hp').sh) (by omega)]
  exact⟨by omega,λ z hz=>hp z hz⟩
theorem both_term: ∀(k:Nat),k≤32-> ∀v,(kindW v=9->IsV k v)-> ∀n,k<n->zgm n v=some (tw (k+1) v)/\zkp n v=some (tw (k+1) v):=by
 intro k
 induction k with
 |zero=>
  intro _ v hv n hn
  obtain⟨n,rfl⟩: ∃q,n=q+1:=⟨n - 1,by omega⟩
  have h9: ¬kindW v=9:=λ h=>by have:=(zji (by omega) h (hv h)).1;omega
  rw[zgm,zkp,tw]
  have hp:tb (tw 0) v=false:=by unfold tb;rw[if_neg h9]
  rw[hp]
  constructor
  .unfold zid zem
   rw[vKind,zaf,if_pos h9,zaf,if_pos rfl]
  .unfold znc
   rw[rPartsW,zaf,rKind,zaf,if_pos h9]
 |succ k ih=>
  intro hk v hv n hn
  obtain⟨n,rfl⟩: ∃q,n=q+1:=⟨n - 1,by omega⟩
  by_cases h9:kindW v=9
  .have hp:=(zji (by omega) h9 (hv h9)).2
   rw[zgm,zkp,tw]
   exact⟨vTermF _ _ v (λ x hx=>(ih (by omega) x (λ _=>hp x hx) n (by omega)).1),rTermF _ _ v (λ x hx=>(ih (by omega) x (λ _=>hp x hx) n (by omega)).2)⟩
  .rw[zgm,zkp,tw]
   have hp:tb (tw (k+1)) v=false:=by unfold tb;rw[if_neg h9]
   rw[hp]
   constructor
   .unfold zid zem
    rw[vKind,zaf,if_pos h9,zaf,if_pos rfl]
   .unfold znc
    rw[rPartsW,zaf,rKind,zaf,if_pos h9]
def tmB (v:Vl):Bool:=tw 33 v
theorem vTerm (v:Vl):zlo v=some (tmB v):=by
 have hFU:=zeo
 exact(both_term 32 (by omega) v (λ h=>(kind_vd (v:=v) (by omega)).1) FU (by omega)).1
theorem rTerm (v:Vl):m_ref16_term v=some (tmB v):=by
 have hFU:=zeo
 exact(both_term 32 (by omega) v (λ h=>(kind_vd (v:=v) (by omega)).1) FU (by omega)).2
theorem zlp {v:Vl} (h:tmB v=true):kindW v=9:=by
 unfold tmB at h
 rw[tw,tb]at h
 split at h
 .assumption
 .cases h
theorem rValid16 (v:Vl):zmo v=some (tmB v):=by
 unfold zmo
 rw[zbq,rValid,zaf]
 cases hv:vldB v with
 |true=>rw[if_pos rfl,rTerm,zaf]
 |false=>
  rw[if_neg Bool.false_ne_true]
  congr 1
  cases h:tmB v with
  |false=>rfl
  |true=>
   have:=kind_vd (v:=v) (by rw[zlp h];omega)
   rw[zdm.2 this]at hv;cases hv
def mkT (op:Int) (l:List Vl):Vl:=if tmB (cmpd 9 (intW op::l))=true then cmpd 9 (intW op::l)else[]
theorem vMade (op:Int) (l:List Vl) (hl:l.length≤1000000000) (hx: ∀x∈l,x.length≤1099511627776):zfi op l=some (mkT op l):=by
 unfold zfi mkT
 rw[vProcL op l hl hx,zaf,vTerm,zaf]
 cases tmB (cmpd 9 (intW op::l)) <;>rfl
theorem rMakeT (op:Int) (l:List Vl) (hl:l.length≤1000000000):zbs op l=some (mkT op l):=by
 unfold zbs mkT
 have:=rNumberedX 9 (by decide) op l hl
 rw[show((9:UInt8).toNat:Int)=9 from rfl]at this
 rw[this,zaf,rValid16,zaf]
 cases tmB (cmpd 9 (intW op::l)) <;>rfl
theorem mkT_ne {op:Int} (h64: -9223372036854775808≤op/\op≤9223372036854775807) {l:List Vl} (h:mkT op l≠[]):mkT op l=cmpd 9 (intW op::l)/\(∀x∈l,Vd x)/\prtW (mkT op l)=intW op::l/\tbody (tw 32) op l=true/\tmB (mkT op l)=true/\kindW (mkT op l)=9:=by
 unfold mkT at h⊢
 by_cases ht:tmB (cmpd 9 (intW op::l))=true
 .rw[if_pos ht]at h⊢
  obtain⟨c1,c2,c3⟩:=cmpd_ne.1 h
  have hp:prtW (cmpd 9 (intW op::l))=intW op::l:=by
   rw[cmpd_yes ⟨c1,c2,c3⟩]
   unfold prtW;rw[if_pos (zdm.2 c3)]
   exact prt_raw (by decide) c1 c2
  have hk:=zlp ht
  refine⟨rfl,λ x hx=>c2 x (by simp[hx]),hp, ?_,ht,hk⟩
  have ht':=ht
  unfold tmB at ht'
  rw[tw,tb,if_pos hk,hp,show gi (intW op::l) 0=intW op from rfl,znh h64]at ht'
  exact ht'
 .rw[if_neg ht]at h;exact absurd rfl h
end
noncomputable section
attribute [local irreducible] FU keyF relF pKeys cKeys
def R64 (x:Int):Prop:= -9223372036854775808≤x/\x≤9223372036854775807
def sRaw (l:List Int):Vl:=setW (l.map intW)
def sVal (l:List Int):Vl:=if l.all (λ x=>decide (cVis x))=true then sRaw l else[]
def tupW (p:Int×Int):Vl:=cmpd 3 [intW p.1,intW p.2]
def pRaw (l:List (Int×Int)):Vl:=setW (l.map tupW)
def pVal (l:List (Int×Int)):Vl:=if l.all (λ x=>decide (pVis x))=true then pRaw l else[]
theorem vSetT (l:List Int) (hl:l.length≤10000000):m_procterm_set l=some (sRaw l):=by
 have hFU:=zeo
 unfold m_procterm_set sRaw
 rw[zbq]
 have loop: ∀(K:List Vl->Option Vl) (m i n:Nat) (out:List Vl),i+m=l.length->m<n->out.length+m≤100000000->zks l K n out i=K (out++(l.drop i).map intW):=by
  intro K m
  induction m with
  |zero=>
   intro i n out hi hn ho
   obtain⟨n,rfl⟩: ∃q,n=q+1:=⟨n - 1,by omega⟩
   rw[zks,zno,if_neg (by omega),List.drop_eq_nil_of_le (by omega)];simp
  |succ m ih=>
   intro i n out hi hn ho
   obtain⟨n,rfl⟩: ∃q,n=q+1:=⟨n - 1,by omega⟩
   have hil:i<l.length:=by omega
   rw[zks,zno,if_pos (by omega),zah (by omega),zbv hil,vInt,zaf,zah (by simp;omega),zbl (by omega),ih (i+1) n _ (by omega) (by omega) (by simp;omega),List.drop_eq_getElem_cons hil,List.map_cons,List.append_assoc];rfl
 have e:=loop (λ x=>bnd1 (m_value_Set x) (λ y27=>some y27)) l.length 0 FU [] (by omega) (by omega) (by simp;omega)
 rw[Int.natCast_zero,List.drop_zero,List.nil_append]at e
 rw[e,vSet _ (by rw[List.length_map];omega) (λ x hx=>by obtain⟨y,_,rfl⟩:=List.mem_map.1 hx;rw[intW_len];omega),zaf]
theorem rSetVal (l:List Int) (hl:l.length≤1000000000):zhp l=some (sVal l):=by
 have hFU:=zeo
 unfold zhp
 rw[rSetI l hl,zaf,zbq]
 have loop1: ∀(K:Unit->Option Vl) (m i n:Nat),i+m=l.length->m<n->zie l K n i=if(l.drop i).all (λ x=>decide (cVis x))=true then K ()else some []:=by
  intro K m
  induction m with
  |zero=>
   intro i n hi hn
   obtain⟨n,rfl⟩: ∃q,n=q+1:=⟨n - 1,by omega⟩
   rw[zie,zlf,if_neg (by omega),List.drop_eq_nil_of_le (by omega)];rfl
  |succ m ih=>
   intro i n hi hn
   obtain⟨n,rfl⟩: ∃q,n=q+1:=⟨n - 1,by omega⟩
   have hil:i<l.length:=by omega
   rw[zie,zlf,if_pos (by omega),zah (by omega),zbv hil,rvisZ,zaf,List.drop_eq_getElem_cons hil,List.all_cons,zbl (by omega),ih (i+1) n (by omega) (by omega)]
   cases decide (cVis l[i])with
   |true=>rw[if_neg (by simp),Bool.true_and]
   |false=>rfl
 have hz:=setZ_len l
 have loop2: ∀(K:List Vl->Option Vl) (m i n:Nat) (out:List Vl),i+m=(setZ l).length->m<n->out.length+m≤100000000->zgk (setZ l) K n out i=K (out++((setZ l).drop i).map intW):=by
  intro K m
  induction m with
  |zero=>
   intro i n out hi hn ho
   obtain⟨n,rfl⟩: ∃q,n=q+1:=⟨n - 1,by omega⟩
   rw[zgk,zlm,if_neg (by omega),List.drop_eq_nil_of_le (by omega)];simp
  |succ m ih=>
   intro i n out hi hn ho
   obtain⟨n,rfl⟩: ∃q,n=q+1:=⟨n - 1,by omega⟩
   have hil:i<(setZ l).length:=by omega
   rw[zgk,zlm,if_pos (by omega),zah (by omega),zbv hil,rInt,zaf,zah (by simp;omega),zbl (by omega),ih (i+1) n _ (by omega) (by omega) (by simp;omega),List.drop_eq_getElem_cons hil,List.map_cons,List.append_assoc];rfl
 have e1:=loop1 (λ _=>jn (λ(a:List (List UInt8))=>bnd1 (m_ref9_Set a) (λ y42=>some y42)) (λ k16=>zgk (setZ l) k16 FU [] 0)) l.length 0 FU (by omega) (by omega)
 rw[Int.natCast_zero,List.drop_zero]at e1
 rw[e1]
 unfold sVal
 by_cases ha:l.all (λ x=>decide (cVis x))=true
 .rw[if_pos ha,if_pos ha,zbq]
  have e2:=loop2 (λ x=>bnd1 (m_ref9_Set x) (λ y42=>some y42)) (setZ l).length 0 FU [] (by omega) (by omega) (by simp;omega)
  rw[Int.natCast_zero,List.drop_zero,List.nil_append]at e2
  rw[e2,rSet _ (by rw[List.length_map];omega),zaf]
  congr 1
  unfold sRaw
  refine setW_congr (λ x=> ?_)
  simp only[List.mem_map,setZ_mem]
  exact⟨λ⟨y,hy,e⟩=>⟨y,hy.2,e⟩,λ⟨y,hy,e⟩=>⟨y,⟨of_decide_eq_true (List.all_eq_true.1 ha y hy),hy⟩,e⟩⟩
 .rw[if_neg ha,if_neg ha]
theorem rPairsVal (l:List (Int×Int)) (hl:l.length≤1000000000):zec l=some (pVal l):=by
 have hFU:=zeo
 unfold zec
 rw[zbq]
 have loop1: ∀(K:Unit->Option Vl) (m i n:Nat),i+m=l.length->m<n->zgt l K n i=if(l.drop i).all (λ x=>decide (pVis x))=true then K ()else some []:=by
  intro K m
  induction m with
  |zero=>
   intro i n hi hn
   obtain⟨n,rfl⟩: ∃q,n=q+1:=⟨n - 1,by omega⟩
   rw[zgt,zjd,if_neg (by omega),List.drop_eq_nil_of_le (by omega)];rfl
  |succ m ih=>
   intro i n hi hn
   obtain⟨n,rfl⟩: ∃q,n=q+1:=⟨n - 1,by omega⟩
   have hil:i<l.length:=by omega
   rw[zgt,zjd,if_pos (by omega),zbq,zah (by omega),zbv hil,rvisZ,zaf,List.drop_eq_getElem_cons hil,List.all_cons,zbl (by omega),ih (i+1) n (by omega) (by omega)]
   by_cases v0:cVis (l[i]).1
   .rw[if_neg (by simp[decide_eq_true v0]),zah (by omega),rvisZ,zaf]
    dsimp only
    by_cases v1:cVis (l[i]).2
    .rw[decide_eq_true v1,if_neg (by simp),decide_eq_true (p:=pVis l[i]) ⟨v0,v1⟩,Bool.true_and]
    .rw[decide_eq_false v1,if_pos (by simp),decide_eq_false (p:=pVis l[i]) (λ h=>v1 h.2),Bool.false_and,if_neg Bool.false_ne_true]
   .rw[if_pos (by simp[decide_eq_false v0]),decide_eq_false (p:=pVis l[i]) (λ h=>v0 h.1),Bool.false_and];rfl
 have hz:=relZ_len l
 have loop2: ∀(K:List Vl->Option Vl) (m i n:Nat) (out:List Vl),i+m=(relZ l).length->m<n->out.length+m≤100000000->zfc (relZ l) K n out i=K (out++((relZ l).drop i).map tupW):=by
  intro K m
  induction m with
  |zero=>
   intro i n out hi hn ho
   obtain⟨n,rfl⟩: ∃q,n=q+1:=⟨n - 1,by omega⟩
   rw[zfc,ziv,if_neg (by omega),List.drop_eq_nil_of_le (by omega)];simp
  |succ m ih=>
   intro i n out hi hn ho
   obtain⟨n,rfl⟩: ∃q,n=q+1:=⟨n - 1,by omega⟩
   have hil:i<(relZ l).length:=by omega
   have hmk:=rMake 3 (by decide) [intW ((relZ l)[i]).1,intW ((relZ l)[i]).2] (by simp)
   rw[show((3:UInt8).toNat:Int)=3 from rfl]at hmk
   rw[zfc,ziv,if_pos (by omega),zah (by omega),zbv hil,rInt,zaf,zah (by omega),rInt,zaf,hmk,zaf,zah (by simp;omega),zbl (by omega),ih (i+1) n _ (by omega) (by omega) (by simp;omega),List.drop_eq_getElem_cons hil,List.map_cons,List.append_assoc];rfl
 have e1:=loop1 (λ _=>bnd1 (zcu l) (λ y117=>jn (λ(a:List (List UInt8))=>bnd1 (m_ref9_Set a) (λ y162=>some y162)) (λ k118=>zfc y117 k118 FU [] 0))) l.length 0 FU (by omega) (by omega)
 rw[Int.natCast_zero,List.drop_zero]at e1
 rw[e1]
 unfold pVal
 by_cases ha:l.all (λ x=>decide (pVis x))=true
 .rw[if_pos ha,if_pos ha,rRel _ (by omega),zaf,zbq]
  have e2:=loop2 (λ x=>bnd1 (m_ref9_Set x) (λ y42=>some y42)) (relZ l).length 0 FU [] (by omega) (by omega) (by simp;omega)
  rw[Int.natCast_zero,List.drop_zero,List.nil_append]at e2
  rw[e2,rSet _ (by rw[List.length_map];omega),zaf]
  congr 1
  unfold pRaw
  refine setW_congr (λ x=> ?_)
  simp only[List.mem_map,relZ_mem]
  exact⟨λ⟨y,hy,e⟩=>⟨y,hy.2,e⟩,λ⟨y,hy,e⟩=>⟨y,⟨of_decide_eq_true (List.all_eq_true.1 ha y hy),hy⟩,e⟩⟩
 .rw[if_neg ha,if_neg ha]
theorem setW_prt {l:List Vl} (h:setW l≠[]):prtW (setW l)=sortW l:=by
 obtain⟨c1,c2,c3⟩:=cmpd_ne.1 h
 rw[show setW l=raw 5 (sortW l)from cmpd_yes ⟨c1,c2,c3⟩]
 unfold prtW
 rw[if_pos (zdm.2 c3)]
 exact prt_raw (by decide) c1 c2
theorem kind_nil:kindW []=0:=by unfold kindW;rw[vldB_no (λ hv=>hv.ne rfl)];rfl
theorem set_bad {l:List Int} (hr: ∀x∈l,R64 x) (h: ¬l.all (λ x=>decide (cVis x))=true):setOk (sRaw l)=false:=by
 unfold setOk
 by_cases hn:sRaw l=[]
 .rw[hn,kind_nil];rfl
 .rw[Bool.and_eq_false_iff];right
  refine Bool.eq_false_iff.2 (λ hc=>h (List.all_eq_true.2 (λ x hx=>decide_eq_true ?_)))
  have hm:intW x∈prtW (sRaw l):=by
   unfold sRaw at hn⊢
   rw[setW_prt hn,(sortW_spec _).2.1]
   exact List.mem_map_of_mem hx
  have:=List.all_eq_true.1 hc _ hm
  unfold evB at this
  simp only[Bool.and_eq_true,decide_eq_true_eq]at this
  rw[znh (hr x hx)]at this
  exact this.2
theorem tbody_fm {sb:Vl->Bool} {op:Int} (hf:fm op≠[]) (l:List Vl):tbody sb op l=(decide (l.length=(fm op).length) && partsB sb op (fm op) l)/\7≤op/\op≤20:=by
 have h720:7≤op/\op≤20:=by
  rcases op_cases op with h|h|h|h|h|h|h|h|h|h|h|h|h|h|⟨h1,h2,h3,h4,h5,h6,h7,h8,h9,h10,h11,h12,h13,h14⟩
  all_goals first
   |omega
   |(exfalso;apply hf;unfold fm;simp[h1,h2,h3,h4,h5,h6,h7,h8,h9,h10,h11,h12,h13,h14])
 refine⟨?_,h720⟩
 unfold tbody
 rw[if_neg (by omega),if_neg (by omega),if_neg (by omega),if_neg (by omega)]
theorem mk_parts {op:Int} (hf:fm op≠[]) {l:List Vl} (h:mkT op l≠[]):partsB (tw 32) op (fm op) l=true:=by
 have h7:=(tbody_fm (sb:=tw 32) hf l).2
 have:=(mkT_ne (op:=op) (by omega) h).2.2.2.1
 rw[(tbody_fm hf l).1,Bool.and_eq_true]at this
 exact this.2
theorem mk_vd {op:Int} {l:List Vl} {x:Vl} (hx:x∈l) (hn: ¬Vd x):mkT op l=[]:=by
 unfold mkT
 have:cmpd 9 (intW op::l)=[]:=cmpd_no (λ h=>hn (h.2.1 x (by simp[hx])))
 rw[this];simp
theorem nVd: ¬Vd ([]:Vl):=λ h=>h.ne rfl
theorem mk_ps {a:List Int} (hr: ∀x∈a,R64 x) (p:Vl):mkT 14 [p,sRaw a]=mkT 14 [p,sVal a]:=by
 have hf:fm 14=[112,115]:=by simp[fm]
 unfold sVal
 by_cases h:a.all (λ x=>decide (cVis x))=true
 .rw[if_pos h]
 .rw[if_neg h]
  refine Eq.trans ?_ (mk_vd (x:=[]) (by simp) nVd).symm
  refine Classical.byContradiction λ hc=> ?_
  have:=mk_parts (by rw[hf];simp) hc
  rw[hf]at this
  simp[partsB,partB,set_bad hr h]at this
theorem setW_lenT (l:List Vl):(setW l).length≤131072:=by
 by_cases h:setW l=[]
 .rw[h];simp
 .obtain⟨c1,c2,c3⟩:=cmpd_ne.1 h
  rw[show setW l=raw 5 (sortW l)from cmpd_yes ⟨c1,c2,c3⟩];exact c3.2
end
noncomputable section
attribute [local irreducible] FU keyF relF pKeys cKeys
theorem m_slices_Compact_L_api_Offer_api_Offer_in (l:List (Int×(List UInt8))) (hl:l.length≤1099511627776) (i:Nat) (K:List (Int×(List UInt8))->Int->Option (List (Int×(List UInt8)))): ∀(m j n:Nat) (x0:List (Int×(List UInt8))) (x3:Nat),i+j+m=l.length->1≤j->m<n->x0.length=l.length->x3+1≤i+j->x0.take x3=compactL (l.take (i+j))->x3=(compactL (l.take (i+j))).length->(∀q,i+j≤q+1->x0[q]?=l[q]?)->
  ∃(x0':List (Int×(List UInt8))) (x3':Nat),zci l i K n x0 x3 j=K x0' x3'/\x0'.length=l.length/\x3'≤l.length/\x0'.take x3'=compactL l:=by
 intro m
 induction m with
 |zero=>
  intro j n x0 x3 hi hj hn hx h3 ht h3' hq
  obtain⟨n,rfl⟩: ∃k,n=k+1:=⟨n - 1,by omega⟩
  refine⟨x0,x3, ?_,hx,by omega, ?_⟩
  .rw[zci,zcw,if_neg (by omega)]
  .rw[ht,show i+j=l.length by omega,List.take_length]
 |succ m ih=>
  intro j n x0 x3 hi hj hn hx h3 ht h3' hq
  obtain⟨n,rfl⟩: ∃k,n=k+1:=⟨n - 1,by omega⟩
  have hlt:i+j<l.length:=by omega
  have g1:gi x0 ((i:Int)+(j:Int))=l[i+j]:=by
   rw[show(i:Int)+(j:Int)=((i+j:Nat):Int)by omega,zbv (by omega)]
   have:=hq (i+j) (by omega)
   rw[List.getElem?_eq_getElem (by omega),List.getElem?_eq_getElem hlt]at this
   exact Option.some.inj this
  have g2:gi x0 ((i:Int)+((j:Int) - 1))=l[i+j - 1]:=by
   rw[show(i:Int)+((j:Int) - 1)=((i+j - 1:Nat):Int)by omega,zbv (by omega)]
   have:=hq (i+j - 1) (by omega)
   rw[List.getElem?_eq_getElem (by omega),List.getElem?_eq_getElem (by omega)]at this
   exact Option.some.inj this
  have hsn:compactL (l.take (i+(j+1)))=cstep (compactL (l.take (i+j))) l[i+j]:=by
   rw[show i+(j+1)=(i+j)+1 by omega, ←List.take_append_getElem hlt,zmi]
  have hla:(compactL (l.take (i+j))).getLast?=some l[i+j - 1]:=by
   rw[compactL_last,List.getLast?_eq_getElem?]
   simp only[List.length_take]
   rw[show min (i+j) l.length - 1=i+j - 1 by omega,List.getElem?_take_of_lt (by omega),List.getElem?_eq_getElem (by omega)]
  rw[zci,zcw]
  simp(disch:=omega) only[if_pos,zbq,zah,i64_sub1,zbl,g1,g2]
  by_cases he:l[i+j]=l[i+j - 1]
  .rw[if_neg (by simp[he])]
   refine ih (j+1) n x0 x3 (by omega) (by omega) (by omega) hx (by omega) ?_ ?_ (λ q h=>hq q (by omega))
   .rw[ht,hsn,cstep,if_pos (by rw[hla,he])]
   .rw[hsn,cstep,if_pos (by rw[hla,he])];exact h3'
  .rw[if_pos he]
   simp(disch:=omega) only[zah,Int.toNat_natCast,zbl]
   have hc:cstep (compactL (l.take (i+j))) l[i+j]=compactL (l.take (i+j))++[l[i+j]]:=by
    rw[cstep,if_neg]
    rw[hla];exact λ e=>he (Option.some.inj e).symm
   refine ih (j+1) n _ (x3+1) (by omega) (by omega) (by omega) (by simp[hx]) (by omega) ?_ ?_ (λ q h=> ?_)
   .rw[hsn,hc, ←ht]
    rw[List.take_succ_eq_append_getElem (by simp;omega)]
    congr 1
    .rw[List.take_set_of_le (by omega)]
    .simp
   .rw[hsn,hc];simp;omega
   .rw[List.getElem?_set_ne (by omega)]
    exact hq q (by omega)
theorem m_slices_Compact_L_api_Offer_api_Offer_out (l:List (Int×(List UInt8))) (hl:l.length≤1099511627776): ∀(m i n:Nat),i+m=l.length->1≤i->m<n->compactL (l.take i)=l.take i->
  zcj l (λ _=>some l) n i=some (compactL l):=by
 intro m
 induction m with
 |zero=>
  intro i n hi h1 hn hc
  obtain⟨n,rfl⟩: ∃k,n=k+1:=⟨n - 1,by omega⟩
  rw[zcj,zcv,if_neg (by omega)]
  rw[show i=l.length by omega,List.take_length]at hc
  rw[hc]
 |succ m ih=>
  intro i n hi h1 hn hc
  obtain⟨n,rfl⟩: ∃k,n=k+1:=⟨n - 1,by omega⟩
  have hlt:i<l.length:=by omega
  have g2:gi l ((i:Int) - 1)=l[i - 1]:=by
   rw[show(i:Int) - 1=((i - 1:Nat):Int)by omega,zbv (by omega)]
  have hla:(l.take i).getLast?=some l[i - 1]:=by
   rw[List.getLast?_eq_getElem?]
   simp only[List.length_take]
   rw[show min i l.length - 1=i - 1 by omega,List.getElem?_take_of_lt (by omega),List.getElem?_eq_getElem (by omega)]
  have hsn:compactL (l.take (i+1))=cstep (l.take i) l[i]:=by
   rw[←List.take_append_getElem hlt,zmi,hc]
  rw[zcj,zcv]
  simp(disch:=omega) only[if_pos,zbq,zah,i64_sub1,zbl,g2,zbv]
  by_cases he:l[i]=l[i - 1]
  .rw[if_pos he]
   have hct:compactL (l.take (i+1))=l.take i:=by rw[hsn,cstep,if_pos (by rw[hla,he])]
   have hFU:=zeo
   obtain⟨x0',x3',e1,e2,e3,e4⟩:=m_slices_Compact_L_api_Offer_api_Offer_in l hl i (λ b a=>need ((0:Int)≤a/\a≤(List.length b:Int)/\(List.length b:Int)≤(List.length b:Int)) (need (0≤a/\a≤(List.length (List.take (Int.toNat a) b++List.replicate (Int.toNat (List.length b:Int) - Int.toNat a) ((0,[]):(Int×(List UInt8)))++List.drop (Int.toNat a+(Int.toNat (List.length b:Int) - Int.toNat a)) b):Int)) (some (List.take (Int.toNat a) (List.take (Int.toNat a) b++List.replicate (Int.toNat (List.length b:Int) - Int.toNat a) ((0,[]):(Int×(List UInt8)))++List.drop (Int.toNat a+(Int.toNat (List.length b:Int) - Int.toNat a)) b)))))
    (l.length - i - 1) 1 FU l i (by omega) (by omega) (by omega) rfl (by omega) hct.symm (by rw[hct];simp;omega) (λ q _=>rfl)
   rw[show((1:Nat):Int)=1 from rfl]at e1
   rw[e1]
   have hlen:(List.take x3' x0'++List.replicate (x0'.length - x3') ((0,[]):(Int×(List UInt8)))++List.drop (x3'+(x0'.length - x3')) x0').length=x0'.length:=by simp;omega
   simp only[Int.toNat_natCast,hlen]
   rw[zah (by omega),zah (by omega),List.append_assoc,List.take_append_of_le_length (by simp;omega),List.take_take,Nat.min_self,e4]
  .rw[if_neg he]
   refine ih (i+1) n (by omega) (by omega) (by omega) ?_
   rw[hsn,cstep,if_neg,List.take_append_getElem hlt]
   rw[hla];exact λ e=>he (Option.some.inj e).symm
theorem m_slices_Compact_L_api_Offer_api_Offer_eq (l:List (Int×(List UInt8))) (hl:l.length≤1099511627776):zdh l=some (compactL l):=by
 unfold zdh
 have hFU:=zeo
 by_cases h:(List.length l:Int)<2
 .rw[if_pos h]
  congr 1
  match l,h with
  |[],_=>rfl
  |[x],_=>simp[compactL,cstep]
  |x::y::t,h=>simp at h;omega
 .rw[if_neg h,zbq]
  have h1:compactL (l.take 1)=l.take 1:=by
   match l with
   |[]=>rfl
   |x::t=>simp[compactL,cstep]
  exact m_slices_Compact_L_api_Offer_api_Offer_out l hl (l.length - 1) 1 FU (by omega) (by omega) (by omega) h1
theorem cmpO_lt0 {a b:Ofr}:cmpO a b<0↔a.1<b.1∨(a.1=b.1/\cmpC a.2 b.2<0):=by
 unfold cmpO
 by_cases h:a.1=b.1
 .rw[if_pos ((TO_sgn.eq _ _ trivial trivial).2 h)]
  exact⟨λ h'=> .inr ⟨h,h'⟩,λ h'=>h'.elim (λ h'=>by omega) (λ h'=>h'.2)⟩
 .rw[if_neg (λ e=>h ((TO_sgn.eq _ _ trivial trivial).1 e)),sgn_lt]
  exact⟨.inl,λ h'=>h'.elim id (λ h'=>absurd h'.1 h)⟩
abbrev LtO (a b:Ofr):Prop:=cmpO a b<0
theorem LtO.irr (a:Ofr): ¬LtO a a:=λ h=>by
 rcases cmpO_lt0.1 h with h|⟨_,h⟩
 .omega
 .rw[cmpC_self]at h;omega
theorem LtO.tr {a b c:Ofr} (h1:LtO a b) (h2:LtO b c):LtO a c:=by
 rcases cmpO_lt0.1 h1 with h1|⟨e1,h1⟩ <;>rcases cmpO_lt0.1 h2 with h2|⟨e2,h2⟩
 .exact cmpO_lt0.2 (.inl (by omega))
 .exact cmpO_lt0.2 (.inl (by omega))
 .exact cmpO_lt0.2 (.inl (by omega))
 .exact cmpO_lt0.2 (.inr ⟨by omega,cmpC_trans h1 h2⟩)
theorem LtO.tot {a b:Ofr} (h1: ¬LtO a b) (h2: ¬LtO b a):a=b:=by
 have n1:=λ h=>h1 (cmpO_lt0.2 h)
 have n2:=λ h=>h2 (cmpO_lt0.2 h)
 have e:a.1=b.1:=by
  refine Classical.byContradiction λ h=> ?_
  rcases Int.lt_or_gt_of_ne h with h|h
  .exact n1 (.inl h)
  .exact n2 (.inl h)
 have c1: ¬cmpC a.2 b.2<0:=λ h=>n1 (.inr ⟨e,h⟩)
 have c2: ¬cmpC b.2 a.2<0:=λ h=>n2 (.inr ⟨e.symm,h⟩)
 have:=cmpC_anti a.2 b.2
 exact Prod.ext e (cmpC_eq.1 (by omega))
def cmpSO (a b:Ofr):Option Int:=some (cmpO a b)
theorem cmpSO_ok:CmpOk cmpSO:=by
 have e: ∀x y,ltC cmpSO x y=decide (cmpO x y<0):=λ x y=>rfl
 refine⟨λ x y=>⟨_,rfl⟩,λ x=> ?_,λ x y z=> ?_,λ x y z=> ?_,λ x y=> ?_⟩
 .rw[e];exact decide_eq_false (LtO.irr x)
 .simp only[e,decide_eq_true_eq];exact LtO.tr
 .simp only[e,decide_eq_false_iff_not]
  intro h1 h2 h3
  by_cases e1:x=y
  .subst e1;exact h2 h3
  .have:LtO y x:=Classical.byContradiction λ h=>e1 (LtO.tot h1 h)
   exact h2 (this.tr h3)
 .simp only[e,decide_eq_false_iff_not]
  exact LtO.tot
def sortO (l:List Ofr):List Ofr:=compactL (sortC cmpSO l)
theorem sortO_spec (l:List Ofr):(sortO l).Pairwise LtO/\(∀x,x∈sortO l↔x∈l)/\(sortO l).length≤l.length:=by
 have e: ∀x y,ltC cmpSO x y=decide (cmpO x y<0):=λ x y=>rfl
 have hp:(sortC cmpSO l).Pairwise (λ a b=>a=b∨LtO a b):=by
  unfold sortC
  have:=List.pairwise_mergeSort (le:=λ x y=> !ltC cmpSO y x) (λ a b c h1 h2=>by
   simp only[e,Bool.not_eq_true',decide_eq_false_iff_not]at h1 h2⊢
   intro h3
   by_cases e1:a=b
   .subst e1;exact h2 h3
   .have:LtO a b:=Classical.byContradiction λ h=>e1 (LtO.tot h h1)
    exact h2 (LtO.tr h3 this)) (λ a b=>by
   simp only[e,Bool.or_eq_true,Bool.not_eq_true',decide_eq_false_iff_not]
   by_cases h:LtO b a
   .exact .inr (λ h'=>LtO.irr _ (h.tr h'))
   .exact .inl h) l
  refine this.imp (λ {a b} h=> ?_)
  simp only[e,Bool.not_eq_true',decide_eq_false_iff_not]at h
  by_cases h2:LtO a b
  .exact .inr h2
  .exact .inl (LtO.tot h2 h)
 refine⟨compactL_sorted LtO.irr LtO.tr _ hp,λ x=> ?_, ?_⟩
 .unfold sortO;rw[compactL_mem];exact List.mem_mergeSort
 .unfold sortO
  refine Nat.le_trans (compactL_len _) ?_
  unfold sortC;rw[List.length_mergeSort];exact Nat.le_refl _
theorem sortO_ext {l s:List Ofr} (h1:s.Pairwise LtO) (h2: ∀x,x∈s↔x∈l):s=sortO l:=SL_ext LtO.irr LtO.tr h1 (sortO_spec l).1 (λ x=>by rw[h2,(sortO_spec l).2.1])
def partsO (l:List Ofr):List Vl:=l.flatMap (λ o=>[intW o.1,o.2])
theorem partsO_len: ∀l:List Ofr,(partsO l).length=2*l.length
 |[]=>rfl
 |o::l=>by
  have:=partsO_len l
  unfold partsO at this⊢
  rw[List.flatMap_cons,List.length_append,this];simp;omega
theorem oClone (l:List Ofr) (hl:l.length≤100000000):zdo l=some l:=by
 unfold zdo
 rw[nilc_eq (λ h=>by subst h;simp[need]),zah (by simp;omega)]
 simp
def prefS (l:List Ofr):Vl:=if l.length=0 then mkT 1 []else mkT 6 (partsO (sortO l))
theorem vStop:zjb=some (mkT 1 []):=by
 unfold zjb
 rw[vMade 1 [] (by simp) (by simp),zaf]
theorem vPrefix (l:List Ofr) (hl:l.length≤10000000) (hx: ∀x∈l,x.2.length≤1099511627776):zfr l=some (prefS l):=by
 have hFU:=zeo
 unfold zfr prefS
 by_cases h0:l.length=0
 .rw[if_pos (by omega),if_pos h0,vStop,zaf]
 .have hc:zdg=cmpSO:=funext λ a=>funext λ b=>vCmpO a b
  have hs:=m_sortby_eq (c:=cmpSO) (xs:=l) (by omega) cmpSO_ok
  have hlen:(sortC cmpSO l).length=l.length:=List.length_mergeSort _
  obtain⟨s1,s2,s3⟩:=sortO_spec l
  rw[if_neg (by omega),if_neg h0,oClone l (by omega),zaf,hc,hs,zaf,zbq,m_slices_Compact_L_api_Offer_api_Offer_eq _ (by rw[hlen];omega),zaf]
  show zfv _ (sortO l) FU [] 0=_
  generalize sortO l=q at s2 s3
  have loop: ∀(K:List Vl->Option Vl) (m i n:Nat) (out:List Vl),i+m=q.length->m<n->out.length+2*m≤100000000->zfv K q n out i=K (out++partsO (q.drop i)):=by
   intro K m
   induction m with
   |zero=>
    intro i n out hi hn ho
    obtain⟨n,rfl⟩: ∃q,n=q+1:=⟨n - 1,by omega⟩
    rw[zfv,zkc,if_neg (by omega),List.drop_eq_nil_of_le (by omega)];simp[partsO]
   |succ m ih=>
    intro i n out hi hn ho
    obtain⟨n,rfl⟩: ∃q,n=q+1:=⟨n - 1,by omega⟩
    have hil:i<q.length:=by omega
    rw[zfv,zkc,if_pos (by omega),zah (by omega),zbv hil,vInt,zaf,zah (by simp;omega),zbl (by omega),ih (i+1) n _ (by omega) (by omega) (by simp;omega),List.drop_eq_getElem_cons hil]
    unfold partsO
    rw[List.flatMap_cons,List.append_assoc]
  have e:=loop (λ x=>bnd1 (zfi 6 x) (λ y39=>some y39)) q.length 0 FU [] (by omega) (by omega) (by simp;omega)
  rw[Int.natCast_zero,List.drop_zero,List.nil_append]at e
  have hpl:=partsO_len q
  rw[e,vMade 6 _ (by omega) (λ x hx'=>by
   obtain⟨o,ho,hx'⟩:=List.mem_flatMap.1 hx'
   simp at hx'
   rcases hx' with rfl|rfl
   .rw[intW_len];omega
   .exact hx o ((s2 o).1 ho)),zaf]
def goodO (o:Ofr):Bool:=decide (cVis o.1) && tmB o.2
theorem rPre_place (l out:List Ofr) (i:Nat) (hi:i<l.length) (hl:l.length≤60000000000) (ho:out.length≤60000000000) (K:Int->Option Vl): ∀(k j n:Nat),j+k=out.length->k<n->(∀q (h:q<out.length),q<j->LtO out[q] l[i])->
  ∃j':Nat,j'≤out.length/\zhh l out i K n j=K j'/\(∀q (h:q<out.length),q<j'->LtO out[q] l[i])/\(∀h:j'<out.length, ¬LtO out[j'] l[i]):=by
 intro k
 induction k with
 |zero=>
  intro j n h1 h2 h3
  obtain⟨n,rfl⟩: ∃q,n=q+1:=⟨n - 1,by omega⟩
  refine⟨j,by omega, ?_,h3,λ h=>by omega⟩
  rw[zhh,zme,zbq,if_neg (by omega)]
  rfl
 |succ k ih=>
  intro j n h1 h2 h3
  obtain⟨n,rfl⟩: ∃q,n=q+1:=⟨n - 1,by omega⟩
  have hj:j<out.length:=by omega
  have yes:LtO out[j] l[i]-> ∃j':Nat,j'≤out.length/\zhh l out i K n (i64 ((j:Int)+1))=K j'/\(∀q (h:q<out.length),q<j'->LtO out[q] l[i])/\(∀h:j'<out.length, ¬LtO out[j'] l[i]):=λ hc=>by
   rw[zbl (by omega)]
   refine ih (j+1) n (by omega) (by omega) (λ q h hq=> ?_)
   by_cases e:q=j
   .subst e;exact hc
   .exact h3 q h (by omega)
  rw[zhh,zme,zbq,if_pos (by omega),zah (by omega),zah (by omega),zbv hj,zbv hi]
  by_cases c1:(out[j]).1<(l[i]).1
  .rw[if_pos c1]
   exact yes (cmpO_lt0.2 (.inl c1))
  .rw[if_neg c1,zah (by omega),zah (by omega)]
   by_cases c2:(out[j]).1=(l[i]).1
   .rw[if_pos c2,zah (by omega),zah (by omega),rCompareW,zaf]
    by_cases c3:cmpC (out[j]).2 (l[i]).2<0
    .rw[decide_eq_true c3]
     exact yes (cmpO_lt0.2 (.inr ⟨c2,c3⟩))
    .rw[decide_eq_false c3]
     exact⟨j,by omega,rfl,h3,λ _ h=>(cmpO_lt0.1 h).elim (λ h=>by omega) (λ h=>c3 h.2)⟩
   .rw[if_neg c2]
    exact⟨j,by omega,rfl,h3,λ _ h=>(cmpO_lt0.1 h).elim (λ h=>c1 h) (λ h=>c2 h.1)⟩
theorem rPre_loop (l:List Ofr) (hl:l.length≤60000000000) (K:List Ofr->Option Vl): ∀(m i n:Nat) (out:List Ofr),i+m=l.length->m<n->out.Pairwise LtO->out.length≤i->(∀x,x∈out↔x∈l.take i)->
  ((l.drop i).all goodO=true/\ ∃s,zcn l K n out i=K s/\s.Pairwise LtO/\(∀x,x∈s↔x∈l))∨((l.drop i).all goodO=false/\zcn l K n out i=some []):=by
 have hFU:=zeo
 intro m
 induction m with
 |zero=>
  intro i n out hi hn hs ho hm
  obtain⟨n,rfl⟩: ∃q,n=q+1:=⟨n - 1,by omega⟩
  refine .inl ⟨by rw[List.drop_eq_nil_of_le (by omega)];rfl,out,by rw[zcn,zmt,if_neg (by omega)],hs,λ x=> ?_⟩
  rw[hm,show i=l.length by omega,List.take_length]
 |succ m ih=>
  intro i n out hi hn hs ho hm
  obtain⟨n,rfl⟩: ∃q,n=q+1:=⟨n - 1,by omega⟩
  have hil:i<l.length:=by omega
  have hmem: ∀x,x∈l.take (i+1)↔x∈l.take i∨x=l[i]:=λ x=>by
   rw[←List.take_append_getElem hil];simp only[List.mem_append,List.mem_singleton]
  rw[zcn,zmt,if_pos (by omega),zbq,zbq,zah (by omega),zbv hil,rvisZ,zaf,List.drop_eq_getElem_cons hil,List.all_cons]
  have hg:goodO l[i]=(decide (cVis (l[i]).1) && tmB (l[i]).2):=rfl
  rw[hg]
  by_cases h1:cVis (l[i]).1
  .rw[decide_eq_true h1,if_neg (by simp),zah (by omega),rValid16,zaf,Bool.true_and]
   cases htm:tmB (l[i]).2 with
   |false=>exact .inr ⟨rfl,rfl⟩
   |true=>
    rw[Bool.true_and]
    dsimp only
    rw[if_neg (by simp),zbq]
    obtain⟨j,j1,j2,j3,j4⟩:=rPre_place l out i hil hl (by omega) (λ c=>jn (λ(d:Bool)=>if d then zcn l K n out (i64 ((i:Int)+1))else(need (List.length out+List.length ([(0,[])]:List Ofr)≤137438953472) (need ((0:Int)≤i64 (c+1)/\(i64 (c+1))≤(List.length (out++([(0,[])]:List Ofr)):Int)/\(List.length (out++([(0,[])]:List Ofr)):Int)≤(List.length (out++([(0,[])]:List Ofr)):Int)) (need ((0:Int)≤c/\c≤(List.length (out++([(0,[])]:List Ofr)):Int)/\(List.length (out++([(0,[])]:List Ofr)):Int)≤(List.length (out++([(0,[])]:List Ofr)):Int)) (need ((0:Int)≤(i:Int)/\(i:Int)<(List.length l:Int)) (need ((0:Int)≤c/\c<(List.length (List.take (Int.toNat (i64 (c+1))) (out++([(0,[])]:List Ofr))++List.take (Nat.min (Int.toNat (List.length (out++([(0,[])]:List Ofr)):Int) - Int.toNat c) (Int.toNat (List.length (out++([(0,[])]:List Ofr)):Int) - Int.toNat (i64 (c+1)))) (List.drop (Int.toNat c) (out++([(0,[])]:List Ofr)))++List.drop (Int.toNat (i64 (c+1))+(Nat.min (Int.toNat (List.length (out++([(0,[])]:List Ofr)):Int) - Int.toNat c) (Int.toNat (List.length (out++([(0,[])]:List Ofr)):Int) - Int.toNat (i64 (c+1))))) (out++([(0,[])]:List Ofr))):Int)) (zcn l K n (List.set (List.take (Int.toNat (i64 (c+1))) (out++([(0,[])]:List Ofr))++List.take (Nat.min (Int.toNat (List.length (out++([(0,[])]:List Ofr)):Int) - Int.toNat c) (Int.toNat (List.length (out++([(0,[])]:List Ofr)):Int) - Int.toNat (i64 (c+1)))) (List.drop (Int.toNat c) (out++([(0,[])]:List Ofr)))++List.drop (Int.toNat (i64 (c+1))+(Nat.min (Int.toNat (List.length (out++([(0,[])]:List Ofr)):Int) - Int.toNat c) (Int.toNat (List.length (out++([(0,[])]:List Ofr)):Int) - Int.toNat (i64 (c+1))))) (out++([(0,[])]:List Ofr))) (Int.toNat c) l[i]) (i64 ((i:Int)+1)))))))) ) (λ k2049=>if c<(List.length out:Int)then(need ((0:Int)≤(i:Int)/\(i:Int)<(List.length l:Int)) (need ((0:Int)≤c/\c<(List.length out:Int)) (k2049 (decide ((gi out c)=l[i])))))else(k2049 false))) out.length 0 FU (by omega) (by omega) (λ q h h'=>by omega)
    rw[Int.natCast_zero]at j2
    have hpw:=List.pairwise_iff_getElem.1 hs
    have skip:l[i]∈out->((l.drop (i+1)).all goodO=true/\ ∃s,zcn l K n out ((i+1:Nat):Int)=K s/\s.Pairwise LtO/\(∀x,x∈s↔x∈l))∨((l.drop (i+1)).all goodO=false/\zcn l K n out ((i+1:Nat):Int)=some []):=λ h=>by
     refine ih (i+1) n out (by omega) (by omega) hs (by omega) (λ x=> ?_)
     rw[hmem,hm]
     exact⟨.inl,λ h'=>h'.elim id (λ h'=>h' ▸ (hm _).1 h)⟩
    have ins: ∀hne:(∀h:j<out.length,out[j]≠l[i]),((l.drop (i+1)).all goodO=true/\ ∃s,zcn l K n (out.take j++[l[i]]++out.drop j) ((i+1:Nat):Int)=K s/\s.Pairwise LtO/\(∀x,x∈s↔x∈l))∨((l.drop (i+1)).all goodO=false/\zcn l K n (out.take j++[l[i]]++out.drop j) ((i+1:Nat):Int)=some []):=λ hne=>by
     refine ih (i+1) n _ (by omega) (by omega) ?_ (by simp;omega) (λ x=> ?_)
     .have hsp:(out.take j++out.drop j).Pairwise LtO:=by rw[List.take_append_drop];exact hs
      obtain⟨p1,p2,p3⟩:=List.pairwise_append.1 hsp
      have hB: ∀b∈out.drop j,LtO l[i] b:=λ b hb=>by
       obtain⟨q,hq,rfl⟩:=List.getElem_of_mem hb
       rw[List.getElem_drop]
       simp only[List.length_drop]at hq
       have hjl:j<out.length:=by omega
       have h0:LtO l[i] out[j]:=Classical.byContradiction λ hc=>hne hjl (LtO.tot (j4 hjl) hc)
       by_cases e:q=0
       .subst e;exact h0
       .exact h0.tr (hpw j (j+q) hjl (by omega) (by omega))
      rw[List.append_assoc,List.pairwise_append]
      refine⟨p1, ?_,λ a ha b hb=> ?_⟩
      .simp only[List.singleton_append,List.pairwise_cons]
       exact⟨hB,p2⟩
      .simp only[List.singleton_append,List.mem_cons]at hb
       rcases hb with rfl|hb
       .obtain⟨q,hq,rfl⟩:=List.getElem_of_mem ha
        simp only[List.length_take]at hq
        rw[List.getElem_take]
        exact j3 q (by omega) (by omega)
       .exact p3 a ha b hb
     .rw[hmem]
      have:x∈out↔x∈out.take j∨x∈out.drop j:=by rw[←List.mem_append,List.take_append_drop]
      rw[hm]at this
      simp only[List.append_assoc,List.mem_append,List.mem_singleton]
      constructor
      .rintro (h|h|h)
       .exact .inl (this.2 (.inl h))
       .exact .inr h
       .exact .inl (this.2 (.inr h))
      .rintro (h|h)
       .rcases this.1 h with h|h
        .exact .inl h
        .exact .inr (.inr h)
       .exact .inr (.inl h)
    have hins:=insNeed (p:=(0:Int)≤(i:Int)/\(i:Int)<(l.length:Int)) (by omega) out (by omega) j j1 ((0,[]):Ofr) l[i] (λ z=>zcn l K n z (i64 ((i:Int)+1)))
    by_cases hjl:j<out.length
    .by_cases he:out[j]=l[i]
     .rcases skip (he ▸ List.getElem_mem hjl)with⟨g1,s,s1,s2⟩|⟨g1,s1⟩
      .refine .inl ⟨g1,s,j2.trans ?_,s2⟩
       rw[zbq,if_pos (by omega),zah (by omega),zah (by omega),zbv hjl,decide_eq_true he]
       show zcn l K n out (i64 ((i:Int)+1))=_
       rw[zbl (by omega)]
       exact s1
      .refine .inr ⟨g1,j2.trans ?_⟩
       rw[zbq,if_pos (by omega),zah (by omega),zah (by omega),zbv hjl,decide_eq_true he]
       show zcn l K n out (i64 ((i:Int)+1))=_
       rw[zbl (by omega)]
       exact s1
     .rcases ins (λ _=>he)with⟨g1,s,s1,s2⟩|⟨g1,s1⟩
      .refine .inl ⟨g1,s,j2.trans ?_,s2⟩
       rw[zbq,if_pos (by omega),zah (by omega),zah (by omega),zbv hjl,decide_eq_false he]
       refine Eq.trans (if_neg Bool.false_ne_true) ?_
       rw[zbl (by omega:i<9223372036854775807)]at hins⊢
       exact hins.trans s1
      .refine .inr ⟨g1,j2.trans ?_⟩
       rw[zbq,if_pos (by omega),zah (by omega),zah (by omega),zbv hjl,decide_eq_false he]
       refine Eq.trans (if_neg Bool.false_ne_true) ?_
       rw[zbl (by omega:i<9223372036854775807)]at hins⊢
       exact hins.trans s1
    .rcases ins (λ h=>absurd h hjl)with⟨g1,s,s1,s2⟩|⟨g1,s1⟩
     .refine .inl ⟨g1,s,j2.trans ?_,s2⟩
      rw[zbq,if_neg (by omega)]
      refine Eq.trans (if_neg Bool.false_ne_true) ?_
      rw[zbl (by omega:i<9223372036854775807)]at hins⊢
      exact hins.trans s1
     .refine .inr ⟨g1,j2.trans ?_⟩
      rw[zbq,if_neg (by omega)]
      refine Eq.trans (if_neg Bool.false_ne_true) ?_
      rw[zbl (by omega:i<9223372036854775807)]at hins⊢
      exact hins.trans s1
  .rw[decide_eq_false h1,if_pos (by simp),Bool.false_and,Bool.false_and]
   exact .inr ⟨rfl,rfl⟩
theorem rPrefix (l:List Ofr) (hl:l.length≤10000000):zge l=some (if l.all goodO=true then prefS l else[]):=by
 have hFU:=zeo
 unfold zge
 rw[zbq]
 have e:=rPre_loop l (by omega) (λ(a:List (Int×(List UInt8)))=>if(List.length a:Int)=0 then(bnd1 (zbs 1 ([]:List (List UInt8))) (λ y2060=>some y2060))else(jn (λ(b:List (List UInt8))=>bnd1 (zbs 6 b) (λ y2093=>some y2093)) (λ k2061=>zhd a k2061 FU [] 0))) l.length 0 FU [] (by omega) (by omega) List.Pairwise.nil (by simp) (by simp)
 rw[Int.natCast_zero,List.drop_zero]at e
 rcases e with⟨g1,s,s1,s2,s3⟩|⟨g1,s1⟩
 .rw[s1,if_pos g1]
  have hs:=sortO_ext s2 s3
  obtain⟨q1,q2,q3⟩:=sortO_spec l
  unfold prefS
  by_cases h0:l.length=0
  .have:s=[]:=by
    rw[hs];exact List.eq_nil_of_length_eq_zero (by omega)
   rw[this,if_pos (by simp),if_pos h0,rMakeT 1 [] (by simp),zaf]
  .have hne:s.length≠0:=λ h=>by
    have hn:s=[]:=List.eq_nil_of_length_eq_zero h
    match l,h0 with
    |x::l,_=>have:=(s3 x).2 (by simp);rw[hn]at this;cases this
   rw[if_neg (by omega),if_neg h0,zbq]
   rw[←hs]at q3⊢
   have loop: ∀(K:List Vl->Option Vl) (m i n:Nat) (out:List Vl),i+m=s.length->m<n->out.length+2*m≤100000000->zhd s K n out i=K (out++partsO (s.drop i)):=by
    intro K m
    induction m with
    |zero=>
     intro i n out hi hn ho
     obtain⟨n,rfl⟩: ∃q,n=q+1:=⟨n - 1,by omega⟩
     rw[zhd,zmc,if_neg (by omega),List.drop_eq_nil_of_le (by omega)];simp[partsO]
    |succ m ih=>
     intro i n out hi hn ho
     obtain⟨n,rfl⟩: ∃q,n=q+1:=⟨n - 1,by omega⟩
     have hil:i<s.length:=by omega
     rw[zhd,zmc,if_pos (by omega),zah (by omega),zbv hil,rInt,zaf,zah (by omega),zah (by simp;omega),zbl (by omega),ih (i+1) n _ (by omega) (by omega) (by simp;omega),List.drop_eq_getElem_cons hil]
     unfold partsO
     rw[List.flatMap_cons,List.append_assoc]
   have e2:=loop (λ x=>bnd1 (zbs 6 x) (λ y2093=>some y2093)) s.length 0 FU [] (by omega) (by omega) (by simp;omega)
   rw[Int.natCast_zero,List.drop_zero,List.nil_append]at e2
   have hpl:=partsO_len s
   rw[e2,rMakeT 6 _ (by omega),zaf]
 .rw[s1,g1,if_neg Bool.false_ne_true]
end
noncomputable section
attribute [local irreducible] FU keyF relF pKeys cKeys
theorem tw_same {x:Vl} (h:kindW x=9->IsV 31 x):tw 32 x=tw 33 x:=by
 have hFU:=zeo
 have e1:=(both_term 31 (by omega) x h FU (by omega)).1
 have e2:=(both_term 32 (by omega) x (λ h9=>(h h9).le (by omega)) FU (by omega)).1
 rw[e1]at e2
 exact Option.some.inj e2
theorem chk_mem {sb:Vl->Bool}: ∀{q:List Ofr},prsChk sb (partsO q)=true-> ∀o∈q,evB (intW o.1)=true/\sb o.2=true
 |[],_,o,h=>by simp at h
 |x::q,h,o,ho=>by
  have e:partsO (x::q)=intW x.1::x.2::partsO q:=rfl
  rw[e,prsChk]at h
  simp only[Bool.and_eq_true]at h
  rcases List.mem_cons.1 ho with rfl|ho
  .exact h.1
  .exact chk_mem h.2 o ho
theorem pref_bad {l:List Ofr} (hr: ∀x∈l,R64 x.1) (h: ¬l.all goodO=true):prefS l=[]:=by
 refine Classical.byContradiction λ hc=>h (List.all_eq_true.2 (λ o ho=> ?_))
 unfold prefS at hc
 split at hc
 .rename_i h0
  rw[List.eq_nil_of_length_eq_zero h0]at ho;cases ho
 .obtain⟨c1,c2,c3,c4,c5,c6⟩:=mkT_ne (op:=6) (by omega) hc
  have hV:=kind_vd (v:=mkT 6 (partsO (sortO l))) (by omega)
  have hp:=(zji (k:=32) (by omega) c6 hV.1).2
  rw[c3]at hp
  have h4:tbody (tw 32) 6 (partsO (sortO l))=offB (tw 32) (partsO (sortO l)):=by unfold tbody;simp
  rw[h4]at c4
  unfold offB at c4
  simp only[Bool.and_eq_true]at c4
  have hos:=((sortO_spec l).2.1 o).2 ho
  obtain⟨e1,e2⟩:=chk_mem c4.2.1 o hos
  have hmem:o.2∈partsO (sortO l):=List.mem_flatMap.2 ⟨o,hos,by simp⟩
  have hs:=tw_same (x:=o.2) (λ _=>hp _ (by simp[hmem]))
  unfold goodO tmB
  rw[←hs,e2,Bool.and_true]
  unfold evB at e1
  simp only[Bool.and_eq_true,decide_eq_true_eq]at e1
  rw[znh (hr o ho)]at e1
  exact decide_eq_true e1.2
def preV (l:List Ofr):Vl:=if l.all goodO=true then prefS l else[]
theorem vPreV (l:List Ofr) (hl:l.length≤10000000) (hx: ∀x∈l,x.2.length≤1099511627776) (hr: ∀x∈l,R64 x.1):zfr l=some (preV l):=by
 rw[vPrefix l hl hx]
 unfold preV
 by_cases h:l.all goodO=true
 .rw[if_pos h]
 .rw[if_neg h,pref_bad hr h]
def callV (f:Int) (args:List Vl):Vl:=if f<0∨65535<f then[]else mkT 5 (intW f::args)
theorem rCall (f:Int) (args:List Vl) (hl:args.length≤10000000):m_ref16_Call f args=some (callV f args):=by
 unfold m_ref16_Call callV
 rw[zbq]
 by_cases h0:f<0
 .rw[if_pos h0,if_pos (.inl h0)];rfl
 .rw[if_neg h0]
  by_cases h1:65535<f
  .rw[if_pos (.inr h1),decide_eq_true h1];rfl
  .rw[if_neg (λ h=>h.elim h0 h1),decide_eq_false h1]
   dsimp only
   rw[if_neg Bool.false_ne_true,rInt,zaf,zah (by simp;omega),rMakeT 5 _ (by simp;omega),zaf];rfl
theorem fm_up2 (k:Int):((fm k).map (λ c=>c - 32)=[80,80])↔fm k=[112,112]:=by
 rcases op_cases k with h|h|h|h|h|h|h|h|h|h|h|h|h|h|⟨h1,h2,h3,h4,h5,h6,h7,h8,h9,h10,h11,h12,h13,h14⟩
 all_goals first
  |(subst h;simp[fm])
  |(unfold fm;simp[h1,h2,h3,h4,h5,h6,h7,h8,h9,h10,h11,h12,h13,h14])
theorem fm_up3 (k:Int):((fm k).map (λ c=>c - 32)=[80,83,80])↔fm k=[112,115,112]:=by
 rcases op_cases k with h|h|h|h|h|h|h|h|h|h|h|h|h|h|⟨h1,h2,h3,h4,h5,h6,h7,h8,h9,h10,h11,h12,h13,h14⟩
 all_goals first
  |(subst h;simp[fm])
  |(unfold fm;simp[h1,h2,h3,h4,h5,h6,h7,h8,h9,h10,h11,h12,h13,h14])
def binV (k:Int) (p q:Vl):Vl:=if fm k=[112,112]then mkT k [p,q]else[]
def guaV (k:Int) (p:Vl) (a:List Int) (q:Vl):Vl:=if fm k=[112,115,112]then mkT k [p,sVal a,q]else[]
abbrev Sh40 (x:Vl):Prop:=x.length≤1099511627776
theorem rBin (k:Int) (p q:Vl):zmw k p q=some (binV k p q):=by
 unfold zmw binV
 rw[rLayout,zaf]
 by_cases h:fm k=[112,112]
 .rw[if_neg (λ h'=>h' ((fm_up2 k).2 h)),if_pos h,rMakeT k _ (by simp),zaf]
 .rw[if_pos (λ h'=>h ((fm_up2 k).1 h')),if_neg h]
theorem sRaw_sh (a:List Int):Sh40 (sRaw a):=by have:=setW_lenT (a.map intW);unfold Sh40 sRaw;omega
theorem rGua (k:Int) (p q:Vl) (a:List Int) (ha:a.length≤10000000):m_ref16_Guarded k p a q=some (guaV k p a q):=by
 unfold m_ref16_Guarded guaV
 rw[rLayout,zaf]
 by_cases h:fm k=[112,115,112]
 .rw[if_neg (λ h'=>h' ((fm_up3 k).2 h)),if_pos h,rSetVal a (by omega),zaf,rMakeT k _ (by simp),zaf]
 .rw[if_pos (λ h'=>h ((fm_up3 k).1 h')),if_neg h]
theorem vHide {p:Vl} {a:List Int} (hp:Sh40 p) (ha:a.length≤10000000) (hr: ∀x∈a,R64 x):znm p a=some (mkT 14 [p,sVal a]):=by
 unfold znm
 rw[vSetT a ha,zaf,vMade 14 _ (by simp) (λ x hx=>by simp at hx;rcases hx with rfl|rfl;exact hp;exact sRaw_sh a),zaf,mk_ps hr]
end
noncomputable section
attribute [local irreducible] FU keyF relF pKeys cKeys
theorem nNext {l:List Int} {i:Int} (h:GSZ l i) {n:Int} (h0:0<n) (h1:n≤1000000): ∃y i',zck (l,i) n=some (y,(l,i'))/\GSZ l i'/\0≤y/\y<n/\i≤i'/\(y=0∨i+1≤i'):=by
 obtain⟨g1,g2,g3⟩:=h
 unfold zck
 simp only[]
 by_cases hc:(List.length l:Int)≤i
 .rw[if_pos hc];exact⟨0,i,rfl,⟨g1,g2,g3⟩,by omega,h0,by omega, .inl rfl⟩
 .have e:i64 (i64 (i+1) - 1)=i:=by rw[zfn (x:=i+1) (by omega),zfn (by omega)];omega
  obtain⟨y,ey,h2,h3⟩:=modZ (gi l i) h0 (by omega)
  rw[if_neg hc,e,zah (by omega),ey,zaf,zfn (x:=i+1) (by omega)]
  exact⟨y,_,rfl,⟨by omega,by omega,g3⟩,h2,h3,by omega, .inr (by omega)⟩
theorem nEvent {l:List Int} {i:Int} (h:GSZ l i): ∃y i',zdt (l,i)=some (y,(l,i'))/\GSZ l i'/\2≤y/\y<6/\i≤i':=by
 obtain⟨y,i',e,hg,h0,h1,h2,_⟩:=nNext h (n:=4) (by omega) (by omega)
 unfold zdt
 rw[e,zaf]
 exact⟨_,i',rfl,hg,by rw[zfn (by omega)];omega,by rw[zfn (by omega)];omega,h2⟩
theorem nSet {l:List Int} {i:Int} (h:GSZ l i): ∃a i',zej (l,i)=some (setZ a,(l,i'))/\GSZ l i'/\i≤i':=by
 have hFU:=zeo
 obtain⟨y,i1,e1,g1,h0,h1,m1,_⟩:=nNext h (n:=4) (by omega) (by omega)
 unfold zej
 rw[zbq,e1,zaf]
 have loop: ∀(K:List Int->Int->List Int->Option ((List Int)×((List Int)×Int))) (m n:Nat) (i:Int) (out:List Int),m<n->GSZ l i->out.length+m≤100-> ∃i' out',zev K n l i out m=K l i' out'/\GSZ l i'/\i≤i'/\out'.length≤100:=by
  intro K m
  induction m with
  |zero=>
   intro n i out hn hg ho
   obtain⟨n,rfl⟩: ∃q,n=q+1:=⟨n - 1,by omega⟩
   exact⟨i,out,by rw[zev,zgd,if_neg (by omega)],hg,by omega,by omega⟩
  |succ m ih=>
   intro n i out hn hg ho
   obtain⟨n,rfl⟩: ∃q,n=q+1:=⟨n - 1,by omega⟩
   obtain⟨y,i1,e1,g1,_,_,m1⟩:=nEvent hg
   have es:i64 (((m+1:Nat):Int) - 1)=(m:Int):=by rw[zfn (by omega)];omega
   obtain⟨i',out',q1,q2,q3,q4⟩:=ih n i1 (out++[y]) (by omega) g1 (by simp;omega)
   refine⟨i',out', ?_,q2,by omega,q4⟩
   rw[zev,zgd,if_pos (by omega),e1,zaf,zah (by simp;omega),es]
   exact q1
 obtain⟨i',out',q1,q2,q3,q4⟩:=loop (λ b c d=>bnd1 (m_ref16_Set d) (λ y23=>some (y23,(b,c)))) y.toNat FU i1 [] (by omega) g1 (by simp;omega)
 have ey:((y.toNat:Nat):Int)=y:=by omega
 rw[ey]at q1
 refine⟨out',i',q1.trans ?_,q2,by omega⟩
 rw[rSetI _ (by omega),zaf]
theorem nPairs {l:List Int} {i:Int} (h:GSZ l i): ∃r i',zik (l,i)=some (relZ r,(l,i'))/\GSZ l i'/\i≤i':=by
 have hFU:=zeo
 obtain⟨y,i1,e1,g1,h0,h1,m1,_⟩:=nNext h (n:=4) (by omega) (by omega)
 unfold zik
 rw[zbq,e1,zaf]
 have loop: ∀(K:List Int->Int->List (Int×Int)->Option ((List (Int×Int))×((List Int)×Int))) (m n:Nat) (i:Int) (out:List (Int×Int)),m<n->GSZ l i->out.length+m≤100-> ∃i' out',zgb K n l i out m=K l i' out'/\GSZ l i'/\i≤i'/\out'.length≤100:=by
  intro K m
  induction m with
  |zero=>
   intro n i out hn hg ho
   obtain⟨n,rfl⟩: ∃q,n=q+1:=⟨n - 1,by omega⟩
   exact⟨i,out,by rw[zgb,zhx,if_neg (by omega)],hg,by omega,by omega⟩
  |succ m ih=>
   intro n i out hn hg ho
   obtain⟨n,rfl⟩: ∃q,n=q+1:=⟨n - 1,by omega⟩
   obtain⟨y,i1,e1,g1,_,_,m1⟩:=nEvent hg
   obtain⟨z,i2,e2,g2,_,_,m2⟩:=nEvent g1
   have es:i64 (((m+1:Nat):Int) - 1)=(m:Int):=by rw[zfn (by omega)];omega
   obtain⟨i',out',q1,q2,q3,q4⟩:=ih n i2 (out++[(y,z)]) (by omega) g2 (by simp;omega)
   refine⟨i',out', ?_,q2,by omega,q4⟩
   rw[zgb,zhx,if_pos (by omega),e1,zaf,e2,zaf,zah (by simp;omega),es]
   exact q1
 obtain⟨i',out',q1,q2,q3,q4⟩:=loop (λ a b c=>bnd1 (zcu c) (λ y29=>some (y29,(a,b)))) y.toNat FU i1 [] (by omega) g1 (by simp;omega)
 have ey:((y.toNat:Nat):Int)=y:=by omega
 rw[ey]at q1
 refine⟨out',i',q1.trans ?_,q2,by omega⟩
 rw[rRel _ (by omega),zaf]
theorem nOrder {l:List Int} {i:Int} (h:GSZ l i): ∃o i',zlj (l,i)=some (o,(l,i'))/\GSZ l i'/\i≤i'/\o.length≤1048576/\ ∀x∈o,pVis x:=by
 have hFU:=zeo
 obtain⟨y,i1,e1,g1,h0,h1,m1,_⟩:=nNext h (n:=4) (by omega) (by omega)
 unfold zlj
 rw[zbq,e1,zaf]
 have loop: ∀(K:List Int->Int->List (Int×Int)->Option ((List (Int×Int))×((List Int)×Int))) (m n:Nat) (i:Int) (out:List (Int×Int)),m<n->out.length+m≤10->GSZ l i->Up out-> ∃i' out',zfz K n l i out m=K l i' out'/\GSZ l i'/\i≤i'/\Up out':=by
  intro K m
  induction m with
  |zero=>
   intro n i out hn ho hg hu
   obtain⟨n,rfl⟩: ∃q,n=q+1:=⟨n - 1,by omega⟩
   exact⟨i,out,by rw[zfz,zhz,if_neg (by omega)],hg,by omega,hu⟩
  |succ m ih=>
   intro n i out hn ho hg hu
   obtain⟨n,rfl⟩: ∃q,n=q+1:=⟨n - 1,by omega⟩
   obtain⟨y,i1,e1,g1,ya,yb,m1⟩:=nEvent hg
   obtain⟨z,i2,e2,g2,za,zb,m2⟩:=nEvent g1
   have es:i64 (((m+1:Nat):Int) - 1)=(m:Int):=by rw[zfn (by omega)];omega
   rw[zfz,zhz,if_pos (by omega)]
   simp only[zbq]
   rw[e1,zaf]
   simp only[]
   rw[e2,zaf,es]
   by_cases h:y=z
   .rw[if_neg (λ h'=>h' h)]
    obtain⟨i',out',q1,q2,q3,q4⟩:=ih n i2 out (by omega) (by omega) g2 hu
    exact⟨i',out',q1,q2,by omega,q4⟩
   .rw[if_pos h,zah (by simp;omega)]
    obtain⟨i',out',q1,q2,q3,q4⟩:=ih n i2 _ (by omega) (by simp;omega) g2 (hu.snoc ⟨ya,yb⟩ ⟨za,zb⟩ h (by omega))
    exact⟨i',out',q1,q2,by omega,q4⟩
 obtain⟨i2,out,e2,g2,m2,hu⟩:=loop (λ a b c=>bnd1 (m_rclose zcu c) (λ y59=>some (y59.1,(a,b)))) y.toNat FU i1 [] (by omega) (by rw[List.length_nil];omega) g1 ⟨λ p hp=>(by cases hp),(by simp)⟩
 have ey:((y.toNat:Nat):Int)=y:=by omega
 rw[ey]at e2
 obtain⟨c1,_,c3⟩:=hu.ok
 refine⟨ordL out,i2,e2.trans ?_,g2,by omega,ordL_len _,c3.1⟩
 rw[rClose _ (by have:=hu.2;omega),zaf,c1]
theorem mkT_len (op:Int) (l:List Vl):(mkT op l).length≤131072:=by
 by_cases h:mkT op l=[]
 .rw[h];simp
 .unfold mkT at h⊢
  split at h
  .rename_i ht
   rw[if_pos ht]
   have:=cmpd_ne.1 h
   rw[cmpd_yes this];exact this.2.2.2
  .exact absurd rfl h
theorem callV_len (f:Int) (a:List Vl):(callV f a).length≤131072:=by unfold callV;split <;>simp[mkT_len]
theorem binV_len (k:Int) (p q:Vl):(binV k p q).length≤131072:=by unfold binV;split <;>simp[mkT_len]
theorem guaV_len (k:Int) (p:Vl) (a:List Int) (q:Vl):(guaV k p a q).length≤131072:=by unfold guaV;split <;>simp[mkT_len]
theorem preV_len (l:List Ofr):(preV l).length≤131072:=by
 unfold preV prefS
 split
 .split <;>simp[mkT_len]
 .simp
theorem rPreV (l:List Ofr) (hl:l.length≤10000000):zge l=some (preV l):=rPrefix l hl
theorem jn_if {ρ:Type} (p:Prop) [Decidable p] (a b:Int) (k:Int->ρ):jn k (λ k2=>if p then(k2 a)else(k2 b))=k (if p then a else b):=by
 rw[zbq];split <;>rfl
theorem jn_s2 {ρ:Type} (x a b:Int) (k:Bool->ρ):jn k (λ q=>if x=a then(q (decide (x=a)))else(q (decide (x=b))))=k (decide (x=a∨x=b)):=by
 rw[zbq]
 by_cases h:x=a
 .rw[if_pos h,decide_eq_true h,decide_eq_true (.inl h)]
 .rw[if_neg h];congr 1;exact decide_eq_decide.2 ⟨.inr,λ h'=>h'.resolve_left h⟩
theorem jn_s3 {ρ:Type} (x a b c:Int) (k:Bool->ρ):jn k (λ q=>if x=a then(q (decide (x=a)))else(if x=b then(q (decide (x=b)))else(q (decide (x=c)))))=k (decide (x=a∨x=b∨x=c)):=by
 rw[zbq]
 by_cases h:x=a
 .rw[if_pos h,decide_eq_true h,decide_eq_true (.inl h)]
 .rw[if_neg h]
  have:=jn_s2 x b c k
  rw[zbq]at this
  rw[this];congr 1;exact decide_eq_decide.2 ⟨.inr,λ h'=>h'.resolve_left h⟩
theorem jn_s4 {ρ:Type} (x a b c d:Int) (k:Bool->ρ):jn k (λ q=>if x=a then(q (decide (x=a)))else(if x=b then(q (decide (x=b)))else(if x=c then(q (decide (x=c)))else(q (decide (x=d))))))=k (decide (x=a∨x=b∨x=c∨x=d)):=by
 rw[zbq]
 by_cases h:x=a
 .rw[if_pos h,decide_eq_true h,decide_eq_true (.inl h)]
 .rw[if_neg h]
  have:=jn_s3 x b c d k
  rw[zbq]at this
  rw[this];congr 1;exact decide_eq_decide.2 ⟨.inr,λ h'=>h'.resolve_left h⟩
theorem jn_s5 {ρ:Type} (x a b c d e:Int) (k:Bool->ρ):jn k (λ q=>if x=a then(q (decide (x=a)))else(if x=b then(q (decide (x=b)))else(if x=c then(q (decide (x=c)))else(if x=d then(q (decide (x=d)))else(q (decide (x=e)))))))=k (decide (x=a∨x=b∨x=c∨x=d∨x=e)):=by
 rw[zbq]
 by_cases h:x=a
 .rw[if_pos h,decide_eq_true h,decide_eq_true (.inl h)]
 .rw[if_neg h]
  have:=jn_s4 x b c d e k
  rw[zbq]at this
  rw[this];congr 1;exact decide_eq_decide.2 ⟨.inr,λ h'=>h'.resolve_left h⟩
abbrev TmR:=Vl×((List Int)×Int)
def TOk (l:List Int) (i:Int) (x:Option TmR):Prop:= ∃v i',x=some (v,(l,i'))/\GSZ l i'/\i≤i'/\v.length≤131072
theorem TOk.le {l:List Int} {i j:Int} {x:Option TmR} (h:TOk l j x) (hij:i≤j):TOk l i x:=by
 obtain⟨v,i',e,g,m,n⟩:=h
 exact⟨v,i',e,g,by omega,n⟩
theorem term_F (self:(List Int)×Int->Int->Int->Option TmR) (c:Int) (hc:0≤c/\c≤1000) (l:List Int) (i d:Int) (hg:GSZ l i) (hs: ∀i2 d2,GSZ l i2->i+1≤i2->TOk l i2 (self (l,i2) d2 c)):TOk l i (zfs self (l,i) d c):=by
 have hFU:=zeo
 obtain⟨k0,i1,e1,g1,k1,k2,m1,m2⟩:=nNext hg (n:=22) (by omega) (by omega)
 unfold zfs
 dsimp only
 rw[e1,zaf,jn_if]
 dsimp only
 have hk:0≤(if d≤1 then Int.tmod k0 5 else k0)/\(if d≤1 then Int.tmod k0 5 else k0)<22/\((if d≤1 then Int.tmod k0 5 else k0)=0∨i+1≤i1):=by
  obtain⟨z,rfl⟩: ∃z:Nat,k0=z:=⟨k0.toNat,by omega⟩
  have:=tmod_nat z 5
  rw[show((5:Nat):Int)=5 from rfl]at this
  rw[this]
  split
  .refine⟨by omega,by omega, ?_⟩
   rcases m2 with h|h
   .left;omega
   .exact .inr h
  .exact⟨by omega,by omega,m2⟩
 generalize(if d≤1 then Int.tmod k0 5 else k0)=k at hk
 obtain⟨ka,kb,kc⟩:=hk
 rw[zbq]
 have mk1: ∀(op:Int) (a:List Vl) (i2:Int),a.length≤1000->GSZ l i2->i≤i2->TOk l i (bnd1 (zbs op a) (λ y=>some (y,(l,i2)))):=λ op a i2 ha g h=>by
  rw[rMakeT op a (by omega),zaf];exact⟨_,i2,rfl,g,h,mkT_len _ _⟩
 by_cases c0:k=0
 .rw[if_pos c0]
  by_cases hc0:0<c
  .obtain⟨y,i2,e2,g2,_,_,m3,_⟩:=nNext g1 (n:=c) hc0 (by omega)
   rw[if_pos hc0,e2,zaf,rCall _ _ (by simp),zaf]
   exact⟨_,i2,rfl,g2,by omega,callV_len _ _⟩
  .rw[if_neg hc0];exact mk1 1 [] i1 (by simp) g1 m1
 rw[if_neg c0]
 have hi1:i+1≤i1:=kc.resolve_left c0
 by_cases c1:k=1
 .rw[if_pos c1];exact mk1 1 [] i1 (by simp) g1 m1
 rw[if_neg c1]
 by_cases c2:k=2
 .rw[if_pos c2];exact mk1 2 [] i1 (by simp) g1 m1
 rw[if_neg c2]
 by_cases c3:k=3
 .obtain⟨y,i2,e2,g2,_,_,m3,_⟩:=nNext g1 (n:=4) (by omega) (by omega)
  rw[if_pos c3,e2,zaf]
  dsimp only
  by_cases hy:y=3
  .rw[if_pos hy];exact mk1 3 [] i2 (by simp) g2 (by omega)
  .obtain⟨z,i3,e3,g3,_,_,m4⟩:=nEvent g2
   rw[if_neg hy,e3,zaf,rMakeT 2 [] (by simp),zaf,rPreV _ (by simp),zaf]
   exact⟨_,i3,rfl,g3,by omega,preV_len _⟩
 rw[if_neg c3,jn_s5]
 dsimp only
 by_cases c4:k=4∨k=5∨k=6∨k=7∨k=8
 .rw[if_pos (decide_eq_true c4),zbq]
  obtain⟨y,i2,e2,g2,ya,yb,m3,_⟩:=nNext g1 (n:=2) (by omega) (by omega)
  have loop: ∀(K:List Int->Int->List Ofr->Option TmR) (m n:Nat) (i0:Int) (out:List Ofr),m<n->GSZ l i0->i1≤i0->out.length+m≤100-> ∃i' out',zee self d c K n l i0 out m=K l i' out'/\GSZ l i'/\i0≤i'/\out'.length≤100:=by
   intro K m
   induction m with
   |zero=>
    intro n i0 out hn hg hi ho
    obtain⟨n,rfl⟩: ∃q,n=q+1:=⟨n - 1,by omega⟩
    exact⟨i0,out,by rw[zee,zfh,if_neg (by omega)],hg,by omega,by omega⟩
   |succ m ih=>
    intro n i0 out hn hg hi ho
    obtain⟨n,rfl⟩: ∃q,n=q+1:=⟨n - 1,by omega⟩
    obtain⟨y,i2,e2,g2,_,_,m2⟩:=nEvent hg
    obtain⟨v,i3,e3,g3,m3,_⟩:=hs i2 (i64 (d - 1)) g2 (by omega)
    have es:i64 (((m+1:Nat):Int) - 1)=(m:Int):=by rw[zfn (by omega)];omega
    obtain⟨i',out',q1,q2,q3,q4⟩:=ih n i3 (out++[(y,v)]) (by omega) g3 (by omega) (by simp;omega)
    refine⟨i',out', ?_,q2,by omega,q4⟩
    rw[zee,zfh,if_pos (by omega),e2,zaf,e3,zaf,zah (by simp;omega),es]
    exact q1
  rw[e2,zaf]
  dsimp only
  have ey:i64 (1+y)=((1+y).toNat:Int):=by rw[zfn (by omega)];omega
  obtain⟨i',out',q1,q2,q3,q4⟩:=loop (λ f p r=>bnd1 (zge r) (λ y160=>some (y160,(f,p)))) (1+y).toNat FU i2 [] (by omega) g2 m3 (by simp;omega)
  rw[ey]
  refine⟨_,i',q1.trans ?_,q2,by omega,preV_len out'⟩
  rw[rPreV _ (by omega),zaf]
 rw[if_neg (λ h=>c4 (of_decide_eq_true h)),jn_s2]
 by_cases c9:k=9∨k=10
 .obtain⟨y,i2,e2,g2,ya,yb,m3,_⟩:=nNext g1 (n:=5) (by omega) (by omega)
  obtain⟨v,i3,e3,g3,m4,_⟩:=hs i2 (i64 (d - 1)) g2 (by omega)
  obtain⟨w,i4,e4,g4,m5,_⟩:=hs i3 (i64 (d - 1)) g3 (by omega)
  rw[if_pos (decide_eq_true c9),e2,zaf]
  dsimp only
  rw[zah (by simp;omega),e3,zaf]
  dsimp only
  rw[e4,zaf,rBin,zaf]
  exact⟨_,i4,rfl,g4,by omega,binV_len _ _ _⟩
 rw[if_neg (λ h=>c9 (of_decide_eq_true h))]
 by_cases c11:k=11
 .obtain⟨v,i3,e3,g3,m4,_⟩:=hs i1 (i64 (d - 1)) g1 (by omega)
  obtain⟨w,i4,e4,g4,m5,_⟩:=hs i3 (i64 (d - 1)) g3 (by omega)
  rw[if_pos c11,e3,zaf]
  dsimp only
  rw[e4,zaf,rBin,zaf]
  exact⟨_,i4,rfl,g4,by omega,binV_len _ _ _⟩
 rw[if_neg c11]
 by_cases c12:k=12
 .obtain⟨v,i3,e3,g3,m4,_⟩:=hs i1 (i64 (d - 1)) g1 (by omega)
  obtain⟨w,i4,e4,g4,m5,_⟩:=hs i3 (i64 (d - 1)) g3 (by omega)
  rw[if_pos c12,e3,zaf]
  dsimp only
  rw[e4,zaf,rBin,zaf]
  exact⟨_,i4,rfl,g4,by omega,binV_len _ _ _⟩
 rw[if_neg c12,jn_s3]
 by_cases c13:k=13∨k=14∨k=15
 .obtain⟨y,i2,e2,g2,ya,yb,m3,_⟩:=nNext g1 (n:=3) (by omega) (by omega)
  obtain⟨v,i3,e3,g3,m4,_⟩:=hs i2 (i64 (d - 1)) g2 (by omega)
  obtain⟨a,i4,e4,g4,m5⟩:=nSet g3
  obtain⟨w,i5,e5,g5,m6,_⟩:=hs i4 (i64 (d - 1)) g4 (by omega)
  have hz:=setZ_len a
  rw[if_pos (decide_eq_true c13),e2,zaf]
  dsimp only
  rw[zah (by simp;omega),e3,zaf]
  dsimp only
  rw[e4,zaf]
  dsimp only
  rw[e5,zaf,rGua _ _ _ _ (by omega),zaf]
  exact⟨_,i5,rfl,g5,by omega,guaV_len _ _ _ _⟩
 rw[if_neg (λ h=>c13 (of_decide_eq_true h))]
 by_cases c16:k=16
 .obtain⟨v,i3,e3,g3,m4,_⟩:=hs i1 (i64 (d - 1)) g1 (by omega)
  obtain⟨a,i4,e4,g4,m5⟩:=nSet g3
  obtain⟨b,i5,e5,g5,m6⟩:=nSet g4
  obtain⟨w,i6,e6,g6,m7,_⟩:=hs i5 (i64 (d - 1)) g5 (by omega)
  have hz:=setZ_len a
  have hz':=setZ_len b
  rw[if_pos c16,e3,zaf]
  dsimp only
  rw[e4,zaf]
  dsimp only
  rw[rSetVal _ (by omega),zaf,e5,zaf]
  dsimp only
  rw[rSetVal _ (by omega),zaf,e6,zaf]
  exact mk1 17 _ i6 (by simp) g6 (by omega)
 rw[if_neg c16]
 by_cases c17:k=17
 .obtain⟨v,i3,e3,g3,m4,_⟩:=hs i1 (i64 (d - 1)) g1 (by omega)
  obtain⟨a,i4,e4,g4,m5⟩:=nPairs g3
  obtain⟨w,i6,e6,g6,m7,_⟩:=hs i4 (i64 (d - 1)) g4 (by omega)
  have hz:=relZ_len a
  rw[if_pos c17,e3,zaf]
  dsimp only
  rw[e4,zaf]
  dsimp only
  rw[rPairsVal _ (by omega),zaf,e6,zaf]
  exact mk1 20 _ i6 (by simp) g6 (by omega)
 rw[if_neg c17]
 by_cases c18:k=18
 .obtain⟨v,i3,e3,g3,m4,_⟩:=hs i1 (i64 (d - 1)) g1 (by omega)
  obtain⟨a,i4,e4,g4,m5⟩:=nSet g3
  have hz:=setZ_len a
  rw[if_pos c18,e3,zaf]
  dsimp only
  rw[e4,zaf]
  dsimp only
  rw[rSetVal _ (by omega),zaf]
  exact mk1 14 _ i4 (by simp) g4 (by omega)
 rw[if_neg c18]
 by_cases c19:k=19
 .obtain⟨v,i3,e3,g3,m4,_⟩:=hs i1 (i64 (d - 1)) g1 (by omega)
  obtain⟨a,i4,e4,g4,m5⟩:=nPairs g3
  have hz:=relZ_len a
  rw[if_pos c19,e3,zaf]
  dsimp only
  rw[e4,zaf]
  dsimp only
  rw[rPairsVal _ (by omega),zaf]
  exact mk1 15 _ i4 (by simp) g4 (by omega)
 rw[if_neg c19]
 by_cases c20:k=20
 .obtain⟨o,i3,e3,g3,m4,ol,_⟩:=nOrder g1
  obtain⟨v,i4,e4,g4,m5,_⟩:=hs i3 (i64 (d - 1)) g3 (by omega)
  have loop: ∀(K:List (Int×Int)->Option TmR) (m j n:Nat) (out:List (Int×Int)),j+m=o.length->m<n->out.length+m≤100000000->zed (o,(l,i3)) K n out j=K (out++o.drop j):=by
   intro K m
   induction m with
   |zero=>
    intro j n out hi hn ho
    obtain⟨n,rfl⟩: ∃q,n=q+1:=⟨n - 1,by omega⟩
    rw[zed,zfg,if_neg (by dsimp only;omega),List.drop_eq_nil_of_le (by omega),List.append_nil]
   |succ m ih=>
    intro j n out hi hn ho
    obtain⟨n,rfl⟩: ∃q,n=q+1:=⟨n - 1,by omega⟩
    have hil:j<o.length:=by omega
    rw[zed,zfg]
    dsimp only
    rw[if_pos (by omega),zah (by omega),zah (by omega),zbv hil,zah (by simp;omega),zbl (by omega),ih (j+1) n _ (by omega) (by omega) (by simp;omega),List.drop_eq_getElem_cons hil,List.append_assoc];rfl
  rw[if_pos c20,e3,zaf,zbq]
  have e:=loop (λ s=>bnd1 (self (l,i3) (i64 (d - 1)) c) (λ y233=>bnd1 (zec s) (λ y234=>bnd1 (zbs 18 [y233.1,y234]) (λ y235=>some (y235,(y233.2.1,y233.2.2)))))) o.length 0 FU [] (by omega) (by omega) (by simp;omega)
  rw[Int.natCast_zero,List.drop_zero,List.nil_append]at e
  have fin:TOk l i (bnd1 (self (l,i3) (i64 (d - 1)) c) (λ y233=>bnd1 (zec o) (λ y234=>bnd1 (zbs 18 [y233.1,y234]) (λ y235=>some (y235,(y233.2.1,y233.2.2)))))):=by
   rw[e4,zaf,rPairsVal _ (by omega),zaf]
   exact mk1 18 _ i4 (by simp) g4 (by omega)
  rw[←e]at fin
  exact fin
 rw[if_neg c20]
 obtain⟨v,i3,e3,g3,m4,_⟩:=hs i1 (i64 (d - 1)) g1 (by omega)
 rw[e3,zaf]
 exact mk1 19 _ i3 (by simp) g3 (by omega)
theorem term_S (c:Int) (hc:0≤c/\c≤1000): ∀(r n:Nat),r<n-> ∀(l:List Int) (i d:Int),GSZ l i->(l.length:Int) - i≤r->TOk l i (zdx n (l,i) d c):=by
 intro r
 induction r with
 |zero=>
  intro n hn l i d hg hr
  obtain⟨n,rfl⟩: ∃q,n=q+1:=⟨n - 1,by omega⟩
  rw[zdx]
  exact term_F _ c hc l i d hg (λ i2 d2 g2 h2=>by have:=g2.2.1;omega)
 |succ r ih=>
  intro n hn l i d hg hr
  obtain⟨n,rfl⟩: ∃q,n=q+1:=⟨n - 1,by omega⟩
  rw[zdx]
  exact term_F _ c hc l i d hg (λ i2 d2 g2 h2=>ih n (by omega) l i2 d2 g2 (by omega))
theorem gTerm {l:List Int} {i:Int} (hg:GSZ l i) (d c:Int) (hc:0≤c/\c≤1000):TOk l i (zfx (l,i) d c):=by
 have hFU:=zeo
 obtain⟨g1,g2,g3⟩:=hg
 exact term_S c hc l.length FU (by omega) l i d ⟨g1,g2,g3⟩ (by omega)
end
noncomputable section
attribute [local irreducible] FU keyF relF pKeys cKeys
theorem gi_mid {α:Type} [Inhabited α] {a:List α} {i:Nat} (h:a.length=i) (x:α) (b:List α):gi (a++x::b) (i:Int)=x:=by
 subst h
 rw[zbv (by simp)];simp
theorem set_mid {α:Type} {a:List α} {i:Nat} (h:a.length=i) (x y:α) (b:List α):(a++x::b).set (Int.toNat (i:Int)) y=(a++[y])++b:=by
 subst h
 rw[Int.toNat_natCast];simp
def opT (v:Vl):Int:=numW (gi (prtW v) 0)
def agT (v:Vl):List Vl:=(prtW v).drop 1
def mapP (f:Vl->Vl):List UInt8->List Vl->List Vl
 |c::cs,x::xs=>(if c=112 then f x else x)::mapP f cs xs
 |_,xs=>xs
def pickP:List UInt8->List Vl->List Vl
 |c::cs,x::xs=>if c=112 then x::pickP cs xs else pickP cs xs
 |_,_=>[]
def holeV (l:List Vl) (k:Int):Vl:=if k<(l.length:Int)/\tmB (gi l k)=true then gi l k else[]
def rbody (f:Vl->Vl) (v:Vl) (l:List Vl):Vl:=
 if tmB v=true then(if opT v=21 then holeV l (numW (gi (agT v) 0))else if opT v=6 then preV ((prsW (agT v)).map (λ o=>(o.1,f o.2)))else mkT (opT v) (mapP f (fm (opT v)) (agT v)))else[]
def subs (op:Int) (l:List Vl):List Vl:=if op=6 then(prsW l).map Prod.snd else pickP (fm op) l
theorem zht {v:Vl} (h:tmB v=true):kindW v=9/\prtW v=intW (opT v)::agT v/\v=mkT (opT v) (agT v)/\tbody (tw 32) (opT v) (agT v)=true/\1≤opT v/\opT v≤21/\(agT v).length≤65534/\IsV 32 v/\v.length≤131072/\(∀x∈agT v,Vd x)/\v=raw 9 (intW (opT v)::agT v):=by
 have hk:=zlp h
 obtain⟨p1,p2,p3,p4⟩:=proc_parts hk
 have hV:=kind_vd (v:=v) (by omega)
 have hs:=znq v
 have hl:(0:Nat)<(prtW v).length:=by omega
 have e0:gi (prtW v) 0=(prtW v)[0]:=by have:=zbv (xs:=prtW v) hl;rwa [Int.natCast_zero]at this
 have hd:prtW v=gi (prtW v) 0::agT v:=by
  unfold agT
  rw[e0]
  have:=List.drop_eq_getElem_cons hl
  rwa [List.drop_zero]at this
 have k0:kindW (gi (prtW v) 0)=1:=by
  have hf:=(cmp_of (c:=9) (by decide) (by rw[hk];rfl)).2
  have:formedB 9 (prtW v)=(decide (1≤(prtW v).length) && betB (gi (prtW v) 0) 1 21):=by simp[formedB]
  rw[this]at hf
  simp only[Bool.and_eq_true,decide_eq_true_eq]at hf
  have h2:=hf.2
  unfold betB at h2
  simp only[Bool.and_eq_true,decide_eq_true_eq,beq_iff_eq]at h2
  unfold kindW;rw[e0,if_pos (zdm.2 (hs.1 _ (List.getElem_mem hl))), ←e0,h2.1];rfl
 have e1:gi (prtW v) 0=intW (opT v):=int_inj k0 (kind_intW _) (by rw[znh (by unfold opT;omega)];rfl)
 have hp:prtW v=intW (opT v)::agT v:=by rw[←e1];exact hd
 have hr:=(cmp_of (c:=9) (by decide) (by rw[hk];rfl)).1
 rw[hp]at hr
 have hx: ∀x∈intW (opT v)::agT v,Vd x:=λ x hx=>hs.1 x (by rw[hp];exact hx)
 have hn:(intW (opT v)::agT v).length≤65535:=by rw[←hp];exact p2
 have hc:cmpd 9 (intW (opT v)::agT v)=v:=by
  rw[cmpd_yes ⟨hn,hx,by rw[←hr];exact hV⟩];exact hr.symm
 have hb:tbody (tw 32) (opT v) (agT v)=true:=by
  have:=h
  unfold tmB at this
  rw[tw,tb,if_pos hk]at this
  exact this
 refine⟨hk,hp,by unfold mkT;rw[hc,if_pos h],hb,p3,p4,by rw[List.length_cons]at hn;omega,hV.1,hV.2,λ x q=>hx x (by simp[q]),hr⟩
theorem pvSplit {v:Vl} (h:tmB v=true):zem v=some (opT v,agT v):=by
 obtain⟨hk,hp,_,_,_,_,hl,_⟩:=zht h
 unfold zem
 rw[vKind,zaf,if_neg (λ q=>q hk),vPartsW,zaf,zah (by rw[hp];simp),vNum,zaf,zah (by rw[hp];simp;omega)]
 have:i64 (numW (gi (prtW v) 0))=opT v:=zfn (by have:=numW_range (gi (prtW v) 0);omega)
 first
  |rfl
  |(rw[this];rfl)
theorem vOpen (v:Vl):zhc v=some (if tmB v=true then(opT v,agT v)else(0,[])):=by
 unfold zhc
 rw[vTerm,zaf]
 cases h:tmB v with
 |false=>rfl
 |true=>rw[if_neg (by simp),pvSplit h,zaf,if_pos rfl]
theorem mapP_len (f:Vl->Vl): ∀(cs:List UInt8) (xs:List Vl),(mapP f cs xs).length=xs.length
 |[],xs=>by cases xs <;>rfl
 |_::_,[]=>rfl
 |c::cs,x::xs=>by rw[mapP,List.length_cons,List.length_cons,mapP_len f cs xs]
theorem mapP_mem {f:Vl->Vl}: ∀{cs:List UInt8} {xs:List Vl} {y:Vl},y∈mapP f cs xs->y∈xs∨ ∃x∈pickP cs xs,y=f x
 |[],xs,y,h=>by cases xs <;>exact .inl h
 |_::_,[],y,h=> .inl h
 |c::cs,x::xs,y,h=>by
  rw[mapP]at h
  rw[pickP]
  rcases List.mem_cons.1 h with h|h
  .by_cases q:c=112
   .rw[if_pos q]at h ⊢;exact .inr ⟨x,List.mem_cons_self,h⟩
   .rw[if_neg q]at h;exact .inl (by simp[h])
  .rcases mapP_mem h with h|⟨z,hz,e⟩
   .exact .inl (by simp[h])
   .refine .inr ⟨z, ?_,e⟩
    by_cases q:c=112
    .rw[if_pos q];exact List.mem_cons_of_mem _ hz
    .rw[if_neg q];exact hz
theorem pickP_mem: ∀{cs:List UInt8} {xs:List Vl} {y:Vl},y∈pickP cs xs->y∈xs
 |[],xs,y,h=>by cases xs <;>cases h
 |_::_,[],y,h=>by cases h
 |c::cs,x::xs,y,h=>by
  rw[pickP]at h
  by_cases q:c=112
  .rw[if_pos q]at h
   rcases List.mem_cons.1 h with h|h
   .simp[h]
   .exact List.mem_cons_of_mem _ (pickP_mem h)
  .rw[if_neg q]at h;exact List.mem_cons_of_mem _ (pickP_mem h)
theorem prsW_mem: ∀{l:List Vl} {o:Ofr},o∈prsW l->o.2∈l
 |[],o,h=>by cases h
 |[x],o,h=>by cases h
 |x::y::t,o,h=>by
  rw[prsW]at h
  rcases List.mem_cons.1 h with h|h
  .subst h;simp
  .exact List.mem_cons_of_mem _ (List.mem_cons_of_mem _ (prsW_mem h))
theorem prsW_len: ∀l:List Vl,2*(prsW l).length≤l.length
 |[]=>by simp[prsW]
 |[x]=>by simp[prsW]
 |x::y::t=>by rw[prsW,List.length_cons,List.length_cons,List.length_cons];have:=prsW_len t;omega
theorem prsW_R: ∀{l:List Vl} {o:Ofr},o∈prsW l->R64 o.1
 |[],o,h=>by cases h
 |[x],o,h=>by cases h
 |x::y::t,o,h=>by
  rw[prsW]at h
  rcases List.mem_cons.1 h with h|h
  .subst h;exact numW_range x
  .exact prsW_R h
theorem subs_mem {op:Int} {l:List Vl} {x:Vl} (h:x∈subs op l):x∈l:=by
 unfold subs at h
 split at h
 .obtain⟨o,ho,rfl⟩:=List.mem_map.1 h
  exact prsW_mem ho
 .exact pickP_mem h
theorem fm_ascii {op:Int} {c:UInt8} (h:c∈fm op):c.toNat<128:=by rcases fm_mem h with rfl|rfl|rfl <;>decide
theorem tmB_nil:tmB []=false:=by
 cases h:tmB []with
 |false=>rfl
 |true=>have:=zlp h;rw[kind_nil]at this;cases this
theorem rbody_len (f:Vl->Vl) (v:Vl) (l:List Vl):(rbody f v l).length≤131072:=by
 unfold rbody
 split
 .split
  .unfold holeV
   split
   .rename_i h;exact(zht h.2).2.2.2.2.2.2.2.2.1
   .simp
  .split
   .exact preV_len _
   .exact mkT_len _ _
 .simp
theorem vReplF (self:Vl->List Vl->Option Vl) (f:Vl->Vl) (v:Vl) (l:List Vl) (hs:tmB v=true-> ∀x∈agT v,self x l=some (f x)) (hf: ∀x,(f x).length≤131072):zkf self v l=some (rbody f v l):=by
 have hFU:=zeo
 unfold zkf rbody
 rw[vOpen,zaf]
 cases ht:tmB v with
 |false=>rw[if_neg (by simp),if_neg (by simp),zbq,if_pos rfl]
 |true=>
  obtain⟨hk,hp,hm,hb,o1,o2,hl,_,_,hV,_⟩:=zht ht
  have hs:=hs ht
  rw[if_pos rfl,if_pos rfl,zbq]
  dsimp only
  rw[if_neg (by omega)]
  by_cases h21:opT v=21
  .rw[if_pos h21,if_pos h21]
   rw[h21]at hb
   have hb:(decide ((agT v).length=1) && numB (gi (agT v) 0) 11)=true:=hb
   simp only[Bool.and_eq_true,decide_eq_true_eq,numB]at hb
   obtain⟨b1,b2,b3,b4⟩:=hb
   rw[zah (by omega),vNum,zaf,zbq]
   unfold holeV
   by_cases q:(l.length:Int)≤numW (gi (agT v) 0)
   .rw[if_pos q];dsimp only;rw[if_pos rfl,if_neg (λ z=>by omega)]
   .rw[if_neg q,zah (by omega),vTerm,zaf]
    cases tmB (gi l (numW (gi (agT v) 0)))with
    |false=>dsimp only;rw[if_pos (by simp),if_neg (by simp)]
    |true=>dsimp only;rw[if_neg (by simp),zah (by omega),if_pos ⟨by omega,rfl⟩]
  rw[if_neg h21,if_neg h21]
  by_cases h6:opT v=6
  .rw[if_pos h6,if_pos h6]
   rw[h6]at hb
   have hb:offB (tw 32) (agT v)=true:=hb
   unfold offB at hb
   simp only[Bool.and_eq_true,decide_eq_true_eq]at hb
   rw[vPairUp _ (by omega) hb.1.2,zaf,zbq]
   have hpl:=prsW_len (agT v)
   have hx: ∀o∈prsW (agT v),self o.2 l=some (f o.2):=λ o ho=>hs _ (prsW_mem ho)
   have loop: ∀(K:List Ofr->Option Vl) (y:List Ofr),y.length≤65535->(∀o∈y,self o.2 l=some (f o.2))-> ∀(m i n:Nat) (pre:List Ofr),i+m=y.length->m<n->pre.length=i->zgr self l y K n (pre++y.drop i) i=K (pre++(y.drop i).map (λ o=>(o.1,f o.2))):=by
    intro K y hy hx m
    induction m with
    |zero=>
     intro i n pre hi hn hpr
     obtain⟨n,rfl⟩: ∃q,n=q+1:=⟨n - 1,by omega⟩
     rw[zgr,zjk,if_neg (by omega),List.drop_eq_nil_of_le (by omega)];rfl
    |succ m ih=>
     intro i n pre hi hn hpr
     obtain⟨n,rfl⟩: ∃q,n=q+1:=⟨n - 1,by omega⟩
     have hil:i<y.length:=by omega
     rw[List.drop_eq_getElem_cons hil,List.map_cons]
     have eg:gi (pre++y[i]::y.drop (i+1)) (i:Int)=y[i]:=gi_mid hpr _ _
     have es:(pre++y[i]::y.drop (i+1)).set (Int.toNat (i:Int)) (y[i].1,f y[i].2)=(pre++[(y[i].1,f y[i].2)])++y.drop (i+1):=set_mid hpr _ _ _
     rw[zgr,zjk,if_pos (by omega),zah (by simp;omega),eg,hx _ (List.getElem_mem hil),zaf,zah (by simp;omega),es,zbl (by omega),ih (i+1) n _ (by omega) (by omega) (by simp;omega),List.append_assoc];rfl
   have:=loop (λ x8=>bnd1 (zfr x8) (λ y77=>some y77)) (prsW (agT v)) (by omega) hx (prsW (agT v)).length 0 FU [] (by omega) (by omega) rfl
   rw[Int.natCast_zero,List.drop_zero,List.nil_append,List.nil_append]at this
   refine this.trans ?_
   rw[vPreV _ (by rw[List.length_map];omega) (λ x hx=>by
    obtain⟨o,_,rfl⟩:=List.mem_map.1 hx
    have:=hf o.2
    dsimp only;omega) (λ x hx=>by
    obtain⟨o,ho,rfl⟩:=List.mem_map.1 hx
    exact prsW_R (o:=o) ho),zaf]
  .rw[if_neg h6,if_neg h6,vClone _ (by omega),zaf,vForm,zaf,zbq]
   have hfl:=fm_len (opT v)
   have hlen:fm (opT v)=[]∨(agT v).length=(fm (opT v)).length:=by
    by_cases hfm:fm (opT v)=[]
    .exact .inl hfm
    .have:=(tbody_fm (sb:=tw 32) hfm (agT v)).1
     rw[this]at hb
     simp only[Bool.and_eq_true,decide_eq_true_eq]at hb
     exact .inr hb.1
   have loop: ∀(K:List Vl->Option Vl) (cs:List UInt8) (y:List Vl),cs.length≤4->(∀c∈cs,c.toNat<128)->y.length=cs.length->(∀x∈y,self x l=some (f x))-> ∀(m i n:Nat) (pre:List Vl),i+m=cs.length->m<n->pre.length=i->zfd self l cs K n (pre++y.drop i) i=K (pre++mapP f (cs.drop i) (y.drop i)):=by
    intro K cs y h4 ha hy hx m
    induction m with
    |zero=>
     intro i n pre hi hn hpr
     obtain⟨n,rfl⟩: ∃q,n=q+1:=⟨n - 1,by omega⟩
     rw[zfd,zgs,if_neg (by omega),List.drop_eq_nil_of_le (by omega:y.length≤i),List.drop_eq_nil_of_le (by omega:cs.length≤i)];rfl
    |succ m ih=>
     intro i n pre hi hn hpr
     obtain⟨n,rfl⟩: ∃q,n=q+1:=⟨n - 1,by omega⟩
     have hil:i<y.length:=by omega
     have hic:i<cs.length:=by omega
     rw[List.drop_eq_getElem_cons hil,List.drop_eq_getElem_cons hic,mapP]
     have eg:gi (pre++y[i]::y.drop (i+1)) (i:Int)=y[i]:=gi_mid hpr _ _
     have es: ∀z,(pre++y[i]::y.drop (i+1)).set (Int.toNat (i:Int)) z=(pre++[z])++y.drop (i+1):=λ z=>set_mid hpr _ z _
     have en:sNx cs i=i+1:=sNx_ascii hic (ha _ (List.getElem_mem hic))
     rw[zfd,zgs,if_pos (by omega),zah (by omega),zbv hic,en]
     by_cases q:cs[i]=112
     .rw[if_pos q,if_pos q,zah (by simp;omega),eg,hx _ (List.getElem_mem hil),zaf,zah (by simp;omega),es,ih (i+1) n _ (by omega) (by omega) (by simp;omega),List.append_assoc];rfl
     .rw[if_neg q,if_neg q,show pre++y[i]::y.drop (i+1)=(pre++[y[i]])++y.drop (i+1)by rw[List.append_assoc];rfl,ih (i+1) n _ (by omega) (by omega) (by simp;omega),List.append_assoc];rfl
   rcases hlen with hn|hlen
   .obtain⟨n,hn'⟩: ∃q,FU=q+1:=⟨FU - 1,by omega⟩
    rw[hn,hn',zfd,zgs,if_neg (by simp)]
    rw[vMade _ _ (by omega) (λ x hx=>by have:=(hV x hx).2;omega),zaf]
    have:mapP f [] (agT v)=agT v:=by cases agT v <;>rfl
    rw[this]
   .have:=loop (λ x6=>bnd1 (zfi (opT v) x6) (λ y109=>some y109)) (fm (opT v)) (agT v) hfl (λ c hc=>fm_ascii hc) hlen hs (fm (opT v)).length 0 FU [] (by omega) (by omega) rfl
    rw[List.drop_zero,List.drop_zero,List.nil_append,List.nil_append]at this
    refine this.trans ?_
    rw[vMade _ _ (by rw[mapP_len];omega) (λ x hx=>by
     rcases mapP_mem hx with h|⟨z,_,rfl⟩
     .have:=(hV x h).2;omega
     .have:=hf z;omega),zaf]
end
noncomputable section
attribute [local irreducible] FU keyF relF pKeys cKeys
theorem rOpT (v:Vl):m_ref16_Op v=some (if tmB v=true then opT v else 0):=by
 unfold m_ref16_Op
 rw[rValid16,zaf]
 cases h:tmB v with
 |false=>rfl
 |true=>
  obtain⟨hk,hp,_⟩:=zht h
  rw[if_neg (by simp),rPartsW,zaf,zah (by rw[hp];simp),rNum,zaf,if_pos rfl]
  have:i64 (numW (gi (prtW v) 0))=opT v:=zfn (by have:=numW_range (gi (prtW v) 0);omega)
  first
   |rfl
   |(rw[this];rfl)
theorem ag_get {v:Vl} {i:Nat} (h:i<(agT v).length) (h':i+1<(prtW v).length):(prtW v)[i+1]=(agT v)[i]:=by
 have:(agT v)[i]?=(prtW v)[i+1]?:=by unfold agT;rw[List.getElem?_drop,Nat.add_comm]
 rw[List.getElem?_eq_getElem h,List.getElem?_eq_getElem h']at this
 exact(Option.some.inj this).symm
def opsV (v:Vl):List Vl:=if tmB v=true then subs (opT v) (agT v)else[]
theorem tm_pre {v:Vl} (h:tmB v=true) (h6:opT v=6):(agT v).length≠0/\(agT v).length % 2=0/\prsChk (tw 32) (agT v)=true/\ascO (prsW (agT v))=true:=by
 have hb:=(zht h).2.2.2.1
 rw[h6]at hb
 have hb:offB (tw 32) (agT v)=true:=hb
 unfold offB at hb
 simp only[Bool.and_eq_true,decide_eq_true_eq]at hb
 exact⟨hb.1.1,hb.1.2,hb.2.1,hb.2.2⟩
theorem tm_fm {v:Vl} (h:tmB v=true):fm (opT v)=[]∨((agT v).length=(fm (opT v)).length/\partsB (tw 32) (opT v) (fm (opT v)) (agT v)=true):=by
 have hb:=(zht h).2.2.2.1
 by_cases hfm:fm (opT v)=[]
 .exact .inl hfm
 .rw[(tbody_fm (sb:=tw 32) hfm (agT v)).1]at hb
  simp only[Bool.and_eq_true,decide_eq_true_eq]at hb
  exact .inr hb
theorem pickP_nil (l:List Vl):pickP [] l=[]:=by cases l <;>rfl
theorem mapP_nil (f:Vl->Vl) (l:List Vl):mapP f [] l=l:=by cases l <;>rfl
theorem pickP_len: ∀(cs:List UInt8) (xs:List Vl),(pickP cs xs).length≤xs.length
 |[],xs=>by rw[pickP_nil];simp
 |_::_,[]=>by simp[pickP]
 |c::cs,x::xs=>by
  have:=pickP_len cs xs
  rw[pickP,List.length_cons]
  split
  .rw[List.length_cons];omega
  .omega
theorem rLayout0 (y2:List Vl) (K:List Vl->Option (List Vl)) (cs:List UInt8) (ag:List Vl) (hy:y2.drop 1=ag) (h4:cs.length≤4) (hf: ∀c∈cs,c=112∨c=115∨c=114) (hl:ag.length=cs.length): ∀(m i n:Nat) (out:List Vl),i+m=cs.length->m<n->out.length+m≤1000->zfj y2 (cs.map (λ c=>c - 32)) K n out i=K (out++pickP (cs.drop i) (ag.drop i)):=by
 intro m
 induction m with
 |zero=>
  intro i n out hi hn ho
  obtain⟨n,rfl⟩: ∃q,n=q+1:=⟨n - 1,by omega⟩
  rw[zfj,zgj,if_neg (by rw[List.length_map];omega),List.drop_eq_nil_of_le (by omega:cs.length≤i),pickP_nil,List.append_nil]
 |succ m ih=>
  intro i n out hi hn ho
  obtain⟨n,rfl⟩: ∃q,n=q+1:=⟨n - 1,by omega⟩
  have hic:i<cs.length:=by omega
  have hil:i<ag.length:=by omega
  have h2:i+1<y2.length:=by
   have:=congrArg List.length hy
   rw[List.length_drop]at this;omega
  have eg:y2[i+1]=ag[i]:=by
   subst hy
   rw[List.getElem_drop];congr 1;omega
  have ec:gi (cs.map (λ c=>c - 32)) (i:Int)=cs[i] - 32:=by rw[zbv (by rw[List.length_map];exact hic),List.getElem_map]
  have e80:=(fm32 (hf _ (List.getElem_mem hic))).1
  rw[zfj,zgj,if_pos (by rw[List.length_map];omega),zbq,zah (by rw[List.length_map];omega),ec,List.drop_eq_getElem_cons hil,List.drop_eq_getElem_cons hic,pickP]
  by_cases q:cs[i]=112
  .rw[if_pos (e80.2 q),if_pos q,zbl (by omega),zah (by omega),zbv h2,zah (by simp;omega),eg]
   dsimp only
   rw[ih (i+1) n _ (by omega) (by omega) (by simp;omega),List.append_assoc];rfl
  .rw[if_neg (λ z=>q (e80.1 z)),if_neg q]
   dsimp only
   rw[zbl (by omega),ih (i+1) n _ (by omega) (by omega) (by omega)]
theorem prsW_snd2 {l:List Vl} {i:Nat} (h:i+1<l.length):(prsW (l.drop i)).map Prod.snd=l[i+1]::(prsW (l.drop (i+2))).map Prod.snd:=by rw[drop_two h,prsW];rfl
theorem rOps (v:Vl):zlu v=some (opsV v):=by
 have hFU:=zeo
 unfold zlu opsV
 rw[rOpT,zaf,rPartsW,zaf,zbq]
 cases ht:tmB v with
 |false=>
  rw[if_neg (by simp),if_neg (by decide),rLayout,zaf,zbq]
  obtain⟨n,hn'⟩: ∃q,FU=q+1:=⟨FU - 1,by omega⟩
  rw[hn',zfj,zgj,if_neg (by simp[fm])];rfl
 |true=>
  obtain⟨hk,hp,hm,hb,o1,o2,hl,_,_,hV,_⟩:=zht ht
  rw[if_pos rfl,if_pos rfl]
  unfold subs
  by_cases h6:opT v=6
  .rw[if_pos h6,if_pos h6,zbq]
   obtain⟨_,he,_⟩:=tm_pre ht h6
   have hpl:(prtW v).length=(agT v).length+1:=by rw[hp,List.length_cons]
   have loop: ∀(m i n:Nat) (out:List Vl),i+2*m=(agT v).length->m<n->out.length+m≤1000000->zib (prtW v) (λ a=>some a) n out ((i+2:Nat):Int)=some (out++(prsW ((agT v).drop i)).map Prod.snd):=by
    intro m
    induction m with
    |zero=>
     intro i n out hi hn ho
     obtain⟨n,rfl⟩: ∃q,n=q+1:=⟨n - 1,by omega⟩
     rw[zib,zkz,if_neg (by omega),List.drop_eq_nil_of_le (by omega)]
     simp[prsW]
    |succ m ih=>
     intro i n out hi hn ho
     obtain⟨n,rfl⟩: ∃q,n=q+1:=⟨n - 1,by omega⟩
     have h1:i+1<(agT v).length:=by omega
     have h2:i+2<(prtW v).length:=by omega
     have eg:(prtW v)[i+2]=(agT v)[i+1]:=ag_get h1 h2
     rw[zib,zkz,if_pos (by omega),zah (by omega),zbv h2,zah (by simp;omega),i64_two (by omega),ih (i+2) n _ (by omega) (by omega) (by simp;omega),prsW_snd2 h1,eg,List.append_assoc];rfl
   have:=loop ((agT v).length / 2) 0 FU [] (by omega) (by omega) (by simp;omega)
   rw[List.drop_zero,List.nil_append]at this
   exact this
  .rw[if_neg h6,if_neg h6,rLayout,zaf,zbq]
   rcases tm_fm ht with hn|⟨hlen,_⟩
   .obtain⟨n,hn'⟩: ∃q,FU=q+1:=⟨FU - 1,by omega⟩
    rw[hn,hn',zfj,zgj,if_neg (by simp),pickP_nil]
   .have:=rLayout0 (prtW v) (λ b=>some b) (fm (opT v)) (agT v) rfl (fm_len _) (λ c hc=>fm_mem hc) hlen (fm (opT v)).length 0 FU [] (by omega) (by have:=fm_len (opT v);omega) (by have:=fm_len (opT v);simp;omega)
    rw[List.drop_zero,List.drop_zero,List.nil_append]at this
    exact this
theorem rOffersT {v:Vl} (ht:tmB v=true) (h6:opT v=6):m_ref16_Offers v=some (prsW (agT v)):=by
 have hFU:=zeo
 unfold m_ref16_Offers
 rw[rOpT,zaf,ht,if_pos rfl,if_neg (λ h=>h h6),rPartsW,zaf,zbq]
 obtain⟨hk,hp,hm,hb,o1,o2,hl,_,_,hV,_⟩:=zht ht
 obtain⟨_,he,_⟩:=tm_pre ht h6
 have hpl:(prtW v).length=(agT v).length+1:=by rw[hp,List.length_cons]
 have loop: ∀(m i n:Nat) (out:List Ofr),i+2*m=(agT v).length->m<n->out.length+m≤1000000->zkt (prtW v) (λ a=>some a) n out ((i+1:Nat):Int)=some (out++prsW ((agT v).drop i)):=by
  intro m
  induction m with
  |zero=>
   intro i n out hi hn ho
   obtain⟨n,rfl⟩: ∃q,n=q+1:=⟨n - 1,by omega⟩
   rw[zkt,znk,if_neg (by omega),List.drop_eq_nil_of_le (by omega)]
   simp[prsW]
  |succ m ih=>
   intro i n out hi hn ho
   obtain⟨n,rfl⟩: ∃q,n=q+1:=⟨n - 1,by omega⟩
   have h1:i+1<(agT v).length:=by omega
   have h2:i+2<(prtW v).length:=by omega
   have h3:i+1<(prtW v).length:=by omega
   have eg:(prtW v)[i+2]=(agT v)[i+1]:=ag_get h1 h2
   have eh:(prtW v)[i+1]=(agT v)[i]:=ag_get (by omega) h3
   rw[zkt,znk,if_pos (by omega),zah (by omega),zbv h3,rNum,zaf,zbl (by omega),zah (by omega),zbv h2,zah (by simp;omega),i64_two (by omega),ih (i+2) n _ (by omega) (by omega) (by simp;omega),drop_two h1,prsW,eg,eh,List.append_assoc];rfl
 have:=loop ((agT v).length / 2) 0 FU [] (by omega) (by omega) (by simp;omega)
 rw[List.drop_zero,List.nil_append]at this
 exact this
def putP:List UInt8->List Vl->List Vl->List Vl
 |[],xs,_=>xs
 |_::_,[],_=>[]
 |_::cs,x::xs,[]=>x::putP cs xs []
 |c::cs,x::xs,o::os=>if c=112 then o::putP cs xs os else x::putP cs xs (o::os)
theorem putP_no {c:UInt8} (h: ¬c=112) (cs:List UInt8) (x:Vl) (xs os:List Vl):putP (c::cs) (x::xs) os=x::putP cs xs os:=by
 cases os with
 |nil=>rw[putP]
 |cons o os=>rw[putP,if_neg h]
def zipO (l:List Ofr) (os:List Vl):List Ofr:=List.zipWith (λ o y=>(o.1,y)) l os
def withV (v:Vl) (os:List Vl):Vl:=if opT v=6 then preV (zipO (prsW (agT v)) os)else mkT (opT v) (putP (fm (opT v)) (agT v) os)
theorem putP_nil (l os:List Vl):putP [] l os=l:=by cases l <;>rfl
theorem putP_len: ∀(cs:List UInt8) (xs os:List Vl),(putP cs xs os).length=xs.length
 |[],xs,os=>by rw[putP_nil]
 |_::_,[],_=>by rw[putP]
 |c::cs,x::xs,[]=>by rw[putP,List.length_cons,List.length_cons,putP_len cs xs]
 |c::cs,x::xs,o::os=>by
  rw[putP]
  split
  .rw[List.length_cons,List.length_cons,putP_len cs xs]
  .rw[List.length_cons,List.length_cons,putP_len cs xs]
theorem rWith {v:Vl} (ht:tmB v=true) (os:List Vl) (ho:os.length=(opsV v).length):m_ref16_With v os=some (withV v os):=by
 have hFU:=zeo
 obtain⟨hk,hp,hm,hb,o1,o2,hl,_,_,hV,_⟩:=zht ht
 have hpl:(prtW v).length=(agT v).length+1:=by rw[hp,List.length_cons]
 unfold opsV subs at ho
 rw[if_pos ht]at ho
 unfold m_ref16_With withV
 rw[rOpT,zaf,ht,if_pos rfl,rPartsW,zaf,zah (by omega),zbq]
 by_cases h6:opT v=6
 .rw[if_pos h6]at ho
  rw[if_pos h6,if_pos h6,rOffersT ht h6,zaf,zbq]
  rw[List.length_map]at ho
  have hpw:=prsW_len (agT v)
  have loop: ∀(K:List Ofr->Option Vl) (y:List Ofr),y.length≤65535->os.length=y.length-> ∀(m i n:Nat) (out:List Ofr),i+m=y.length->m<n->out.length+m≤1000000->znr os y K n out i=K (out++zipO (y.drop i) (os.drop i)):=by
   intro K y hy ho m
   induction m with
   |zero=>
    intro i n out hi hn hout
    obtain⟨n,rfl⟩: ∃q,n=q+1:=⟨n - 1,by omega⟩
    rw[znr,m_ref16_With_B4,if_neg (by omega),List.drop_eq_nil_of_le (by omega:y.length≤i)]
    simp[zipO]
   |succ m ih=>
    intro i n out hi hn hout
    obtain⟨n,rfl⟩: ∃q,n=q+1:=⟨n - 1,by omega⟩
    have h1:i<y.length:=by omega
    have h2:i<os.length:=by omega
    rw[znr,m_ref16_With_B4,if_pos (by omega),zah (by omega),zah (by omega),zbv h1,zbv h2,zah (by simp;omega),zbl (by omega),ih (i+1) n _ (by omega) (by omega) (by simp;omega),List.drop_eq_getElem_cons h1,List.drop_eq_getElem_cons h2,List.append_assoc];rfl
  have:=loop (λ x8=>bnd1 (zge x8) (λ y62=>some y62)) (prsW (agT v)) (by omega) ho (prsW (agT v)).length 0 FU [] (by omega) (by omega) (by simp;omega)
  rw[Int.natCast_zero,List.drop_zero,List.drop_zero,List.nil_append]at this
  refine this.trans ?_
  rw[rPreV _ (by unfold zipO;rw[List.length_zipWith];omega),zaf]
 .rw[if_neg h6]at ho
  rw[if_neg h6,if_neg h6,rLayout,zaf,zbq]
  rcases tm_fm ht with hn|⟨hlen,_⟩
  .obtain⟨n,hn'⟩: ∃q,FU=q+1:=⟨FU - 1,by omega⟩
   rw[hn,hn',zlc,zni,if_neg (by simp),zah (by omega),rMakeT _ _ (by simp;omega),zaf,putP_nil];rfl
  .have loop: ∀(K:List Vl->Option Vl) (cs:List UInt8) (y:List Vl),cs.length≤4->(∀c∈cs,c=112∨c=115∨c=114)->y.length=cs.length->os.length=(pickP cs y).length-> ∀(m i n k:Nat) (pre:List Vl),i+m=cs.length->m<n->pre.length=i+1->os.length=k+(pickP (cs.drop i) (y.drop i)).length->zlc os (cs.map (λ c=>c - 32)) K n (pre++y.drop i) k i=K (pre++putP (cs.drop i) (y.drop i) (os.drop k)):=by
    intro K cs y h4 hf hy ho m
    have hob:=pickP_len cs y
    induction m with
    |zero=>
     intro i n k pre hi hn hpr hk
     obtain⟨n,rfl⟩: ∃q,n=q+1:=⟨n - 1,by omega⟩
     rw[zlc,zni,if_neg (by rw[List.length_map];omega),List.drop_eq_nil_of_le (by omega:cs.length≤i),putP_nil]
    |succ m ih=>
     intro i n k pre hi hn hpr hk
     obtain⟨n,rfl⟩: ∃q,n=q+1:=⟨n - 1,by omega⟩
     have hic:i<cs.length:=by omega
     have hil:i<y.length:=by omega
     have ec:gi (cs.map (λ c=>c - 32)) (i:Int)=cs[i] - 32:=by rw[zbv (by rw[List.length_map];exact hic),List.getElem_map]
     have e80:=(fm32 (hf _ (List.getElem_mem hic))).1
     rw[List.drop_eq_getElem_cons hil,List.drop_eq_getElem_cons hic,pickP]at hk
     rw[List.drop_eq_getElem_cons hil,List.drop_eq_getElem_cons hic]
     rw[zlc,zni,if_pos (by rw[List.length_map];omega),zbq,zah (by rw[List.length_map];omega),ec]
     have h3:i64 ((i:Int)+1)=((i+1:Nat):Int):=zbl (by omega)
     by_cases q:cs[i]=112
     .rw[if_pos q,List.length_cons]at hk
      have h2:k<os.length:=by omega
      have es: ∀z,(pre++y[i]::y.drop (i+1)).set (Int.toNat ((i+1:Nat):Int)) z=(pre++[z])++y.drop (i+1):=λ z=>set_mid hpr _ z _
      rw[if_pos (e80.2 q),List.drop_eq_getElem_cons h2,putP,if_pos q,zah (by omega),h3,zah (by simp;omega),zbv h2,es,zbl (by omega)]
      dsimp only
      rw[ih (i+1) n (k+1) _ (by omega) (by omega) (by simp;omega) (by omega),List.append_assoc];rfl
     .rw[if_neg q]at hk
      rw[if_neg (λ z=>q (e80.1 z)),putP_no q]
      dsimp only
      rw[h3,show pre++y[i]::y.drop (i+1)=(pre++[y[i]])++y.drop (i+1)by rw[List.append_assoc];rfl,ih (i+1) n k _ (by omega) (by omega) (by simp;omega) hk,List.append_assoc];rfl
   have:=loop (λ x6=>need (1≤(List.length x6:Int)) (bnd1 (zbs (opT v) (List.drop (Int.toNat 1) x6)) (λ y109=>some y109))) (fm (opT v)) (agT v) (fm_len _) (λ c hc=>fm_mem hc) hlen ho (fm (opT v)).length 0 FU 0 [intW (opT v)] (by omega) (by have:=fm_len (opT v);omega) rfl (by rw[List.drop_zero,List.drop_zero];omega)
   rw[List.drop_zero,List.drop_zero,Int.natCast_zero,List.drop_zero]at this
   rw[show[intW (opT v)]++agT v=prtW v from hp.symm]at this
   refine this.trans ?_
   rw[zah (by simp;omega),rMakeT _ _ (by simp[putP_len];omega),zaf];rfl
end
noncomputable section
attribute [local irreducible] FU keyF relF pKeys cKeys
theorem mapP_same (f:Vl->Vl): ∀{cs:List UInt8} {xs:List Vl},pickP cs xs=[]->mapP f cs xs=xs
 |[],xs,_=>mapP_nil f xs
 |_::_,[],_=>rfl
 |c::cs,x::xs,h=>by
  rw[pickP]at h
  by_cases q:c=112
  .rw[if_pos q]at h;cases h
  .rw[if_neg q]at h
   rw[mapP,if_neg q,mapP_same f h]
theorem mapP_congr {f g:Vl->Vl}: ∀{cs:List UInt8} {xs:List Vl},(∀x∈pickP cs xs,f x=g x)->mapP f cs xs=mapP g cs xs
 |[],xs,_=>by rw[mapP_nil,mapP_nil]
 |_::_,[],_=>rfl
 |c::cs,x::xs,h=>by
  rw[pickP]at h
  rw[mapP,mapP]
  by_cases q:c=112
  .rw[if_pos q]at h
   rw[if_pos q,if_pos q,h x List.mem_cons_self,mapP_congr (λ z hz=>h z (List.mem_cons_of_mem _ hz))]
  .rw[if_neg q]at h
   rw[if_neg q,if_neg q,mapP_congr h]
theorem mapP_in {f:Vl->Vl}: ∀{cs:List UInt8} {xs:List Vl} {x:Vl},x∈pickP cs xs->f x∈mapP f cs xs
 |[],xs,x,h=>by rw[pickP_nil]at h;cases h
 |_::_,[],x,h=>by cases h
 |c::cs,y::xs,x,h=>by
  rw[pickP]at h
  rw[mapP]
  by_cases q:c=112
  .rw[if_pos q]at h⊢
   rcases List.mem_cons.1 h with h|h
   .subst h;exact List.mem_cons_self
   .exact List.mem_cons_of_mem _ (mapP_in h)
  .rw[if_neg q]at h;exact List.mem_cons_of_mem _ (mapP_in h)
theorem putP_map (f:Vl->Vl): ∀(cs:List UInt8) (xs:List Vl),putP cs xs ((pickP cs xs).map f)=mapP f cs xs
 |[],xs=>by rw[putP_nil,mapP_nil]
 |_::_,[]=>by simp[putP,mapP,pickP]
 |c::cs,x::xs=>by
  rw[pickP,mapP]
  by_cases q:c=112
  .rw[if_pos q,if_pos q,List.map_cons,putP,if_pos q,putP_map f cs xs]
  .rw[if_neg q,if_neg q,putP_no q,putP_map f cs xs]
theorem zipO_map (f:Vl->Vl): ∀l:List Ofr,zipO l ((l.map Prod.snd).map f)=l.map (λ o=>(o.1,f o.2))
 |[]=>rfl
 |o::l=>by
  have:=zipO_map f l
  unfold zipO at this⊢
  rw[List.map_cons,List.map_cons,List.zipWith_cons_cons,this,List.map_cons]
theorem preV_bad {l:List Ofr} {o:Ofr} (h:o∈l) (hn:tmB o.2=false):preV l=[]:=by
 unfold preV
 rw[if_neg (λ z=>by
  have:=List.all_eq_true.1 z o h
  unfold goodO at this
  rw[hn,Bool.and_false]at this;cases this)]
theorem rbody_nil {f:Vl->Vl} {v:Vl} {l:List Vl} (ht:tmB v=true) (h21: ¬opT v=21) {x:Vl} (hx:x∈opsV v) (hf:f x=[]):rbody f v l=[]:=by
 unfold opsV subs at hx
 rw[if_pos ht]at hx
 unfold rbody
 rw[if_pos ht,if_neg h21]
 by_cases h6:opT v=6
 .rw[if_pos h6]at hx⊢
  obtain⟨o,ho,rfl⟩:=List.mem_map.1 hx
  exact preV_bad (o:=(o.1,f o.2)) (List.mem_map.2 ⟨o,ho,rfl⟩) (by dsimp only;rw[hf];exact tmB_nil)
 .rw[if_neg h6]at hx⊢
  exact mk_vd (x:=f x) (mapP_in hx) (by rw[hf];exact nVd)
theorem rbody_with {f:Vl->Vl} {v:Vl} {l:List Vl} (ht:tmB v=true) (h21: ¬opT v=21):rbody f v l=withV v ((opsV v).map f):=by
 unfold rbody withV opsV subs
 rw[if_pos ht,if_neg h21,if_pos ht]
 by_cases h6:opT v=6
 .rw[if_pos h6,if_pos h6,if_pos h6,zipO_map]
 .rw[if_neg h6,if_neg h6,if_neg h6,putP_map]
theorem rbody_same {f:Vl->Vl} {v:Vl} {l:List Vl} (ht:tmB v=true) (h21: ¬opT v=21) (h:opsV v=[]):rbody f v l=v:=by
 have h':=h
 unfold opsV subs at h
 rw[if_pos ht]at h
 unfold rbody
 rw[if_pos ht,if_neg h21]
 by_cases h6:opT v=6
 .rw[if_pos h6]at h
  obtain⟨a1,a2,_⟩:=tm_pre ht h6
  have h:=List.map_eq_nil_iff.1 h
  exfalso
  match hq:agT v with
  |[]=>rw[hq]at a1;exact a1 rfl
  |[x]=>rw[hq]at a2;cases a2
  |x::y::t=>rw[hq,prsW]at h;cases h
 .rw[if_neg h6]at h⊢
  rw[mapP_same f h]
  exact(zht ht).2.2.1.symm
theorem rbody_congr {f g:Vl->Vl} {v:Vl} {l:List Vl} (h:tmB v=true-> ∀x∈opsV v,f x=g x):rbody f v l=rbody g v l:=by
 unfold rbody
 cases ht:tmB v with
 |false=>rw[if_neg (by simp),if_neg (by simp)]
 |true=>
  have h:=h ht
  unfold opsV subs at h
  rw[if_pos ht]at h
  rw[if_pos rfl,if_pos rfl]
  by_cases h21:opT v=21
  .rw[if_pos h21,if_pos h21]
  rw[if_neg h21,if_neg h21]
  by_cases h6:opT v=6
  .rw[if_pos h6]at h
   rw[if_pos h6,if_pos h6]
   congr 1
   exact List.map_congr_left (λ o ho=>by rw[h o.2 (List.mem_map.2 ⟨o,ho,rfl⟩)])
  .rw[if_neg h6]at h
   rw[if_neg h6,if_neg h6,mapP_congr h]
theorem opsV_mem {v x:Vl} (h:x∈opsV v):x∈agT v:=by
 unfold opsV at h
 split at h
 .exact subs_mem h
 .cases h
theorem agT_mem {v x:Vl} (h:x∈agT v):x∈prtW v:=List.mem_of_mem_drop h
theorem opsV_len (v:Vl):(opsV v).length≤65535:=by
 have h1:=(znq v).2.1
 have h2:(agT v).length≤65535:=by unfold agT;rw[List.length_drop];omega
 unfold opsV subs
 split
 .split
  .rw[List.length_map];have:=prsW_len (agT v);omega
  .have:=pickP_len (fm (opT v)) (agT v);omega
 .simp
theorem rReplF (self:Vl->List Vl->Option Vl) (f:Vl->Vl) (v:Vl) (l:List Vl) (hs:tmB v=true-> ∀x∈agT v,self x l=some (f x)):m_ref16_Replace_F self v l=some (rbody f v l):=by
 have hFU:=zeo
 unfold m_ref16_Replace_F
 rw[rOpT,zaf]
 cases ht:tmB v with
 |false=>
  unfold rbody
  rw[show(if false=true then opT v else 0)=(0:Int)from rfl,if_pos rfl,ht,if_neg (by simp)]
 |true=>
  obtain⟨hk,hp,hm,hb,o1,o2,hl,_,_,hV,_⟩:=zht ht
  have hs:=hs ht
  rw[if_pos rfl,if_neg (by omega)]
  by_cases h21:opT v=21
  .unfold rbody
   rw[if_pos h21,ht,if_pos rfl,if_pos h21]
   rw[h21]at hb
   have hb:(decide ((agT v).length=1) && numB (gi (agT v) 0) 11)=true:=hb
   simp only[Bool.and_eq_true,decide_eq_true_eq,numB]at hb
   obtain⟨b1,b2,b3,b4⟩:=hb
   have hpl:(prtW v).length=(agT v).length+1:=by rw[hp,List.length_cons]
   have eg:gi (prtW v) 1=gi (agT v) 0:=by
    have h1:1<(prtW v).length:=by omega
    have h0:0<(agT v).length:=by omega
    have e1:=zbv h1
    have e0:=zbv h0
    rw[Int.natCast_zero]at e0
    rw[e0, ←ag_get h0 h1];exact e1
   rw[rPartsW,zaf,zah (by omega),rNum,zaf,zbq,eg]
   unfold holeV
   by_cases q:(l.length:Int)≤numW (gi (agT v) 0)
   .rw[if_pos q];dsimp only;rw[if_pos rfl,if_neg (λ z=>by omega)]
   .rw[if_neg q,zah (by omega),rValid16,zaf]
    cases tmB (gi l (numW (gi (agT v) 0)))with
    |false=>dsimp only;rw[if_pos (by simp),if_neg (by simp)]
    |true=>dsimp only;rw[if_neg (by simp),zah (by omega),if_pos ⟨by omega,rfl⟩]
  rw[if_neg h21,rOps,zaf]
  have hol:=opsV_len v
  by_cases hz:((opsV v).length:Int)=0
  .rw[if_pos hz,rbody_same ht h21 (List.length_eq_zero_iff.1 (by omega))]
  rw[if_neg hz,zbq]
  have loop: ∀(K:List Vl->Option Vl) (y:List Vl),y.length≤65535->(∀x∈y,self x l=some (f x))-> ∀(m i n:Nat) (pre:List Vl),i+m=y.length->m<n->pre.length=i->zjw self l K n (pre++y.drop i) i=if∃x∈y.drop i,f x=[]then some []else K (pre++(y.drop i).map f):=by
   intro K y hy hx m
   induction m with
   |zero=>
    intro i n pre hi hn hpr
    obtain⟨n,rfl⟩: ∃q,n=q+1:=⟨n - 1,by omega⟩
    rw[zjw,zmh,if_neg (by simp;omega),List.drop_eq_nil_of_le (by omega),if_neg (by simp)];rfl
   |succ m ih=>
    intro i n pre hi hn hpr
    obtain⟨n,rfl⟩: ∃q,n=q+1:=⟨n - 1,by omega⟩
    have hil:i<y.length:=by omega
    have eg: ∀z,gi (pre++z::y.drop (i+1)) (i:Int)=z:=λ z=>gi_mid hpr z _
    have es:(pre++y[i]::y.drop (i+1)).set (Int.toNat (i:Int)) (f y[i])=(pre++[f y[i]])++y.drop (i+1):=set_mid hpr _ _ _
    rw[List.drop_eq_getElem_cons hil,zjw,zmh,if_pos (by simp;omega),zah (by simp;omega),eg,hx _ (List.getElem_mem hil),zaf,zah (by simp;omega),zah (by simp;omega),es,zbl (by omega),ih (i+1) n _ (by omega) (by omega) (by simp;omega)]
    rw[show gi ((pre++[f y[i]])++y.drop (i+1)) (i:Int)=f y[i]by rw[List.append_assoc];exact eg _]
    by_cases q:f y[i]=[]
    .rw[if_pos q,if_pos ⟨_,List.mem_cons_self,q⟩]
    .rw[if_neg q]
     by_cases q2: ∃x∈y.drop (i+1),f x=[]
     .obtain⟨x,q3,q4⟩:=q2
      rw[if_pos ⟨x,q3,q4⟩,if_pos ⟨x,List.mem_cons_of_mem _ q3,q4⟩]
     .rw[if_neg q2,if_neg (by
       rintro ⟨x,q3,q4⟩
       rcases List.mem_cons.1 q3 with h|h
       .subst h;exact q q4
       .exact q2 ⟨x,h,q4⟩),List.map_cons,List.append_assoc];rfl
  have:=loop (λ x6=>bnd1 (m_ref16_With v x6) (λ y45=>some y45)) (opsV v) hol (λ x hx=>hs x (opsV_mem hx)) (opsV v).length 0 FU [] (by omega) (by omega) rfl
  rw[Int.natCast_zero,List.drop_zero,List.nil_append,List.nil_append]at this
  refine this.trans ?_
  by_cases q: ∃x∈opsV v,f x=[]
  .obtain⟨x,q3,q4⟩:=q
   rw[if_pos ⟨x,q3,q4⟩,rbody_nil ht h21 q3 q4]
  .rw[if_neg q,rWith ht _ (by rw[List.length_map]),zaf,rbody_with ht h21]
def rplS (l:List Vl):Nat->Vl->Vl
 |0,_=>[]
 |n+1,v=>rbody (rplS l n) v l
theorem rplS_succ (l:List Vl) (n:Nat) (v:Vl):rplS l (n+1) v=rbody (rplS l n) v l:=rfl
theorem rplS_len (l:List Vl): ∀(n:Nat) (v:Vl),(rplS l n v).length≤131072
 |0,_=>by simp[rplS]
 |n+1,v=>rbody_len _ _ _
theorem both_repl (l:List Vl): ∀(k:Nat),k≤32-> ∀v,(kindW v=9->IsV k v)-> ∀n,k<n->zfw n v l=some (rplS l (k+1) v)/\zig n v l=some (rplS l (k+1) v):=by
 intro k
 induction k with
 |zero=>
  intro _ v hv n hn
  obtain⟨n,rfl⟩: ∃q,n=q+1:=⟨n - 1,by omega⟩
  have ht: ¬tmB v=true:=λ h=>by have h9:=zlp h;have:=(zji (by omega) h9 (hv h9)).1;omega
  rw[zfw,zig,rplS]
  exact⟨vReplF _ _ v l (λ h=>absurd h ht) (rplS_len l 0),rReplF _ _ v l (λ h=>absurd h ht)⟩
 |succ k ih=>
  intro hk v hv n hn
  obtain⟨n,rfl⟩: ∃q,n=q+1:=⟨n - 1,by omega⟩
  rw[zfw,zig,rplS]
  have hs:tmB v=true-> ∀x∈agT v,IsV k x:=λ h x hx=>by
   have h9:=zlp h
   exact(zji (by omega) h9 (hv h9)).2 x (agT_mem hx)
  exact⟨vReplF _ _ v l (λ h x hx=>(ih (by omega) x (λ _=>hs h x hx) n (by omega)).1) (rplS_len l (k+1)),rReplF _ _ v l (λ h x hx=>(ih (by omega) x (λ _=>hs h x hx) n (by omega)).2)⟩
def repl (l:List Vl) (v:Vl):Vl:=rplS l 33 v
theorem vRepl (v:Vl) (l:List Vl):zez v l=some (repl l v):=by
 have hFU:=zeo
 exact(both_repl l 32 (by omega) v (λ h=>(kind_vd (v:=v) (by omega)).1) FU (by omega)).1
theorem rRepl (v:Vl) (l:List Vl):m_ref16_Replace v l=some (repl l v):=by
 have hFU:=zeo
 exact(both_repl l 32 (by omega) v (λ h=>(kind_vd (v:=v) (by omega)).1) FU (by omega)).2
theorem rplS_stable (l:List Vl): ∀(k:Nat),k≤32-> ∀v,(kindW v=9->IsV k v)-> ∀n,k<n->rplS l n v=rplS l (k+1) v:=by
 intro k
 induction k with
 |zero=>
  intro _ v hv n hn
  obtain⟨n,rfl⟩: ∃q,n=q+1:=⟨n - 1,by omega⟩
  have ht: ¬tmB v=true:=λ h=>by have h9:=zlp h;have:=(zji (by omega) h9 (hv h9)).1;omega
  rw[rplS,rplS]
  exact rbody_congr (λ h=>absurd h ht)
 |succ k ih=>
  intro hk v hv n hn
  obtain⟨n,rfl⟩: ∃q,n=q+1:=⟨n - 1,by omega⟩
  rw[rplS_succ,rplS_succ l (k+1)]
  refine rbody_congr (λ h x hx=>ih (by omega) x (λ _=> ?_) n (by omega))
  have h9:=zlp h
  exact(zji (by omega) h9 (hv h9)).2 x (agT_mem (opsV_mem hx))
theorem repl_eq (l:List Vl) (v:Vl):repl l v=rbody (repl l) v l:=by
 show rplS l 33 v=rbody (λ v=>rplS l 33 v) v l
 rw[rplS_succ l 32 v]
 refine rbody_congr (λ h x hx=>(rplS_stable l 31 (by omega) x (λ _=> ?_) 33 (by omega)).symm)
 have h9:=zlp h
 exact(zji (by omega) h9 (zht h).2.2.2.2.2.2.2.1).2 x (agT_mem (opsV_mem hx))
theorem repl_no {l:List Vl} {v:Vl} (h:tmB v=false):repl l v=[]:=by
 rw[repl_eq];unfold rbody;rw[h];rfl
end
noncomputable section
attribute [local irreducible] FU keyF relF pKeys cKeys
theorem mkT_parts {op:Int} (h64:R64 op) {l:List Vl} (h:mkT op l≠[]):opT (mkT op l)=op/\agT (mkT op l)=l/\tmB (mkT op l)=true:=by
 obtain⟨_,_,h3,_,h5,_⟩:=mkT_ne h64 h
 refine⟨?_,by unfold agT;rw[h3];rfl,h5⟩
 unfold opT
 rw[h3,show gi (intW op::l) 0=intW op from rfl,znh h64]
inductive NoH:Vl->Prop
 |no (v:Vl) (h:tmB v=false):NoH v
 |tm (v:Vl) (h21: ¬opT v=21) (hs: ∀x∈opsV v,NoH x):NoH v
theorem nh_mkT {op:Int} (h64:R64 op) (h21: ¬op=21) {l:List Vl} (h: ∀x∈subs op l,NoH x):NoH (mkT op l):=by
 by_cases hc:mkT op l=[]
 .rw[hc];exact .no _ tmB_nil
 .obtain⟨e1,e2,e3⟩:=mkT_parts h64 hc
  refine .tm _ (by rw[e1];exact h21) (λ x hx=>h x ?_)
  unfold opsV at hx
  rwa [if_pos e3,e1,e2]at hx
theorem prs_parts: ∀q:List Ofr,(prsW (partsO q)).map Prod.snd=q.map Prod.snd
 |[]=>rfl
 |o::q=>by
  have:=prs_parts q
  have e:partsO (o::q)=intW o.1::o.2::partsO q:=rfl
  rw[e,prsW,List.map_cons,List.map_cons,this]
theorem prs_partsR: ∀q:List Ofr,(∀o∈q,R64 o.1)->prsW (partsO q)=q
 |[],_=>rfl
 |o::q,h=>by
  have:=prs_partsR q (λ z hz=>h z (List.mem_cons_of_mem _ hz))
  have e:partsO (o::q)=intW o.1::o.2::partsO q:=rfl
  rw[e,prsW,this,znh (h o List.mem_cons_self)]
theorem nh_pre {l:List Ofr} (h: ∀o∈l,NoH o.2):NoH (preV l):=by
 unfold preV
 split
 .unfold prefS
  split
  .exact nh_mkT (op:=1) (by unfold R64;omega) (by omega) (λ x hx=>by
    have:subs 1 []=[]:=by simp[subs,pickP]
    rw[this]at hx;cases hx)
  .refine nh_mkT (op:=6) (by unfold R64;omega) (by omega) (λ x hx=> ?_)
   unfold subs at hx
   rw[if_pos rfl,prs_parts]at hx
   obtain⟨o,ho,rfl⟩:=List.mem_map.1 hx
   exact h o (((sortO_spec l).2.1 o).1 ho)
 .exact .no _ tmB_nil
theorem subs_fm {op:Int} (h6: ¬op=6) (l:List Vl):subs op l=pickP (fm op) l:=by unfold subs;rw[if_neg h6]
theorem nh_none {op:Int} (h64:R64 op) (h21: ¬op=21) (h6: ¬op=6) (hf:fm op=[]) (l:List Vl):NoH (mkT op l):=nh_mkT h64 h21 (λ x hx=>by rw[subs_fm h6,hf,pickP_nil]at hx;cases hx)
theorem nh_call (f:Int) (a:List Vl):NoH (callV f a):=by
 unfold callV
 split
 .exact .no _ tmB_nil
 .exact nh_none (by unfold R64;omega) (by omega) (by omega) (by simp[fm]) _
theorem fm_R {k:Int} {c:UInt8} {cs:List UInt8} (hf:fm k=c::cs):R64 k/\ ¬k=21/\ ¬k=6:=by
 have:=(tbody_fm (sb:=tw 32) (op:=k) (by rw[hf];simp) []).2
 unfold R64;omega
theorem nh_bin {k:Int} {p q:Vl} (hp:NoH p) (hq:NoH q):NoH (binV k p q):=by
 unfold binV
 split
 .rename_i hf
  obtain⟨a,b,c⟩:=fm_R hf
  refine nh_mkT a b (λ x hx=> ?_)
  rw[subs_fm c,hf]at hx
  simp[pickP]at hx
  rcases hx with rfl|rfl <;>assumption
 .exact .no _ tmB_nil
theorem nh_gua {k:Int} {p q:Vl} {a:List Int} (hp:NoH p) (hq:NoH q):NoH (guaV k p a q):=by
 unfold guaV
 split
 .rename_i hf
  obtain⟨a,b,c⟩:=fm_R hf
  refine nh_mkT a b (λ x hx=> ?_)
  rw[subs_fm c,hf]at hx
  simp[pickP]at hx
  rcases hx with rfl|rfl <;>assumption
 .exact .no _ tmB_nil
theorem pick_map {f:Vl->Vl}: ∀(cs:List UInt8) (xs:List Vl),pickP cs (mapP f cs xs)=(pickP cs xs).map f
 |[],xs=>by rw[mapP_nil,pickP_nil];rfl
 |_::_,[]=>by simp[mapP,pickP]
 |c::cs,x::xs=>by
  rw[mapP,pickP,pickP]
  by_cases q:c=112
  .rw[if_pos q,if_pos q,if_pos q,List.map_cons,pick_map cs xs]
  .rw[if_neg q,if_neg q,pick_map cs xs]
theorem gi_in {l:List Vl} {k:Int} (h:k<(l.length:Int)):gi l k∈l∨gi l k=[]:=by
 unfold gi
 by_cases hq:k.toNat<l.length
 .rw[List.getElem?_eq_getElem hq];exact .inl (List.getElem_mem hq)
 .rw[List.getElem?_eq_none (by omega)];exact .inr rfl
theorem nh_repl {l:List Vl} (hl: ∀x∈l,NoH x): ∀(k:Nat),k≤32-> ∀v,(kindW v=9->IsV k v)->NoH (repl l v):=by
 intro k
 induction k with
 |zero=>
  intro _ v hv
  have ht:tmB v=false:=by
   cases h:tmB v with
   |false=>rfl
   |true=>have h9:=zlp h;have:=(zji (by omega) h9 (hv h9)).1;omega
  rw[repl_no ht];exact .no _ tmB_nil
 |succ k ih=>
  intro hk v hv
  cases ht:tmB v with
  |false=>rw[repl_no ht];exact .no _ tmB_nil
  |true=>
   have h9:=zlp ht
   have hp:=(zji (by omega) h9 (hv h9)).2
   obtain⟨_,_,_,_,o1,o2,_⟩:=zht ht
   have hx: ∀x∈agT v,NoH (repl l x):=λ x hx=>ih (by omega) x (λ _=>hp x (agT_mem hx))
   rw[repl_eq]
   unfold rbody
   rw[if_pos ht]
   by_cases h21:opT v=21
   .rw[if_pos h21]
    unfold holeV
    split
    .rename_i hh
     rcases gi_in hh.1 with h|h
     .exact hl _ h
     .rw[h,tmB_nil]at hh;cases hh.2
    .exact .no _ tmB_nil
   rw[if_neg h21]
   by_cases h6:opT v=6
   .rw[if_pos h6]
    refine nh_pre (λ o ho=> ?_)
    obtain⟨z,hz,rfl⟩:=List.mem_map.1 ho
    exact hx _ (prsW_mem hz)
   .rw[if_neg h6]
    refine nh_mkT (by unfold R64;omega) h21 (λ x hx'=> ?_)
    rw[subs_fm h6,pick_map]at hx'
    obtain⟨z,hz,rfl⟩:=List.mem_map.1 hx'
    exact hx _ (pickP_mem hz)
theorem chk_prs {sb:Vl->Bool}: ∀{l:List Vl},prsChk sb l=true-> ∀o∈prsW l,sb o.2=true/\cVis o.1
 |[],_,o,h=>by cases h
 |[x],_,o,h=>by cases h
 |x::y::t,h,o,ho=>by
  rw[prsChk]at h
  simp only[Bool.and_eq_true]at h
  rw[prsW]at ho
  rcases List.mem_cons.1 ho with rfl|ho
  .have e:=h.1.1
   unfold evB at e
   simp only[Bool.and_eq_true,decide_eq_true_eq]at e
   exact⟨h.1.2,e.2⟩
  .exact chk_prs h.2 o ho
theorem pick_sb {sb:Vl->Bool} {op:Int}: ∀{cs:List UInt8} {xs:List Vl},partsB sb op cs xs=true-> ∀x∈pickP cs xs,sb x=true
 |[],xs,_,x,h=>by rw[pickP_nil]at h;cases h
 |_::_,[],_,x,h=>by cases h
 |c::cs,y::xs,hb,x,h=>by
  rw[partsB]at hb
  simp only[Bool.and_eq_true]at hb
  rw[pickP]at h
  by_cases q:c=112
  .rw[if_pos q]at h
   rcases List.mem_cons.1 h with rfl|h
   .have:=hb.1
    unfold partB at this
    rwa [if_pos q]at this
   .exact pick_sb hb.2 x h
  .rw[if_neg q]at h;exact pick_sb hb.2 x h
theorem ops_tm {v:Vl} (ht:tmB v=true) {x:Vl} (hx:x∈opsV v):tmB x=true:=by
 have h9:=zlp ht
 have hp:=(zji (by omega) h9 (zht ht).2.2.2.2.2.2.2.1).2 x (agT_mem (opsV_mem hx))
 have hs:=tw_same (x:=x) (λ _=>hp)
 unfold tmB
 rw[←hs]
 unfold opsV subs at hx
 rw[if_pos ht]at hx
 by_cases h6:opT v=6
 .rw[if_pos h6]at hx
  obtain⟨o,ho,rfl⟩:=List.mem_map.1 hx
  exact(chk_prs (tm_pre ht h6).2.2.1 o ho).1
 .rw[if_neg h6]at hx
  rcases tm_fm ht with hn|⟨_,hb⟩
  .rw[hn,pickP_nil]at hx;cases hx
  .exact pick_sb hb x hx
theorem parts_prs {sb:Vl->Bool}: ∀{l:List Vl},prsChk sb l=true->l.length % 2=0->partsO (prsW l)=l
 |[],_,_=>rfl
 |[x],_,h=>by cases h
 |x::y::t,h,he=>by
  rw[prsChk]at h
  simp only[Bool.and_eq_true]at h
  have:=parts_prs h.2 (by simp at he;omega)
  have e:=evB_kind h.1.1
  have ex:intW (numW x)=x:=int_inj (kind_intW _) e (znh (numW_range x))
  rw[prsW]
  show intW (numW x)::y::partsO (prsW t)=_
  rw[this,ex]
theorem ascO_pw: ∀{l:List Ofr},ascO l=true->l.Pairwise LtO
 |[],_=> .nil
 |[x],_=>by simp
 |x::y::t,h=>by
  rw[ascO]at h
  simp only[Bool.and_eq_true,decide_eq_true_eq]at h
  have ih:=ascO_pw h.2
  refine List.Pairwise.cons (λ z hz=> ?_) ih
  rcases List.mem_cons.1 hz with rfl|hz
  .exact h.1
  .exact LtO.tr h.1 ((List.pairwise_cons.1 ih).1 z hz)
theorem vis_R6 {x:Int} (h:cVis x):R64 x:=by have:=h.1;have:=h.2;unfold R64;omega
theorem pre_facts {v:Vl} (ht:tmB v=true) (h6:opT v=6):(prsW (agT v)).length≠0/\(∀o∈prsW (agT v),tmB o.2=true/\cVis o.1)/\partsO (prsW (agT v))=agT v/\(prsW (agT v)).Pairwise LtO:=by
 obtain⟨a1,a2,a3,a4⟩:=tm_pre ht h6
 have e:=parts_prs a3 a2
 refine⟨λ h=>a1 ?_,λ o ho=>⟨ops_tm ht (x:=o.2) ?_,(chk_prs a3 o ho).2⟩,e,ascO_pw a4⟩
 .rw[←e,partsO_len,h]
 .unfold opsV subs
  rw[if_pos ht,if_pos h6]
  exact List.mem_map.2 ⟨o,ho,rfl⟩
theorem good_all {l:List Ofr} (h: ∀o∈l,tmB o.2=true/\cVis o.1):l.all goodO=true:=List.all_eq_true.2 (λ o ho=>by
 obtain⟨h1,h2⟩:=h o ho
 unfold goodO
 rw[h1,decide_eq_true h2];rfl)
theorem pre_id {v:Vl} (ht:tmB v=true) (h6:opT v=6):preV (prsW (agT v))=v:=by
 obtain⟨a1,a2,a3,a4⟩:=pre_facts ht h6
 unfold preV prefS
 rw[if_pos (good_all a2),if_neg a1, ←sortO_ext a4 (λ _=>Iff.rfl),a3]
 have:=(zht ht).2.2.1
 rw[h6]at this
 exact this.symm
theorem mapP_id: ∀(cs:List UInt8) (xs:List Vl),mapP (λ x=>x) cs xs=xs
 |[],xs=>mapP_nil _ xs
 |_::_,[]=>rfl
 |c::cs,x::xs=>by rw[mapP,mapP_id cs xs];split <;>rfl
theorem rbody_id {v:Vl} (ht:tmB v=true) (h21: ¬opT v=21) (l:List Vl):rbody (λ x=>x) v l=v:=by
 unfold rbody
 rw[if_pos ht,if_neg h21]
 by_cases h6:opT v=6
 .rw[if_pos h6]
  have:(prsW (agT v)).map (λ o=>(o.1,o.2))=prsW (agT v):=List.map_id _
  rw[this,pre_id ht h6]
 .rw[if_neg h6,mapP_id]
  exact(zht ht).2.2.1.symm
theorem repl_noh {v:Vl} (h:NoH v) (l:List Vl):tmB v=true->repl l v=v:=by
 induction h with
 |no v h=>intro ht;rw[h]at ht;cases ht
 |tm v h21 hs ih=>
  intro ht
  rw[repl_eq, ←rbody_congr (f:=λ x=>x) (λ _ x hx=>(ih x hx (ops_tm ht hx)).symm)]
  exact rbody_id ht h21 l
theorem vPick (op:Int) (l:List Vl) (hl:l.length=(fm op).length):zle op l 112=some (pickP (fm op) l):=by
 have hFU:=zeo
 unfold zle
 rw[vForm,zaf,zbq]
 have loop: ∀(K:List Vl->Option (List Vl)) (cs:List UInt8) (y:List Vl),cs.length≤4->(∀c∈cs,c.toNat<128)->y.length=cs.length-> ∀(m i n:Nat) (out:List Vl),i+m=cs.length->m<n->out.length+m≤100->zhg y 112 cs K n out i=K (out++pickP (cs.drop i) (y.drop i)):=by
  intro K cs y h4 ha hy m
  induction m with
  |zero=>
   intro i n out hi hn ho
   obtain⟨n,rfl⟩: ∃q,n=q+1:=⟨n - 1,by omega⟩
   rw[zhg,zjo,if_neg (by omega),List.drop_eq_nil_of_le (by omega:cs.length≤i),pickP_nil,List.append_nil]
  |succ m ih=>
   intro i n out hi hn ho
   obtain⟨n,rfl⟩: ∃q,n=q+1:=⟨n - 1,by omega⟩
   have hil:i<y.length:=by omega
   have hic:i<cs.length:=by omega
   have en:sNx cs i=i+1:=sNx_ascii hic (ha _ (List.getElem_mem hic))
   rw[zhg,zjo,if_pos (by omega),zah (by omega),zbv hic,en,List.drop_eq_getElem_cons hil,List.drop_eq_getElem_cons hic,pickP]
   by_cases q:cs[i]=112
   .rw[if_pos q,if_pos q,zah (by omega),zbv hil,zah (by simp;omega),ih (i+1) n _ (by omega) (by omega) (by simp;omega),List.append_assoc];rfl
   .rw[if_neg q,if_neg q,ih (i+1) n _ (by omega) (by omega) (by omega)]
 have hfl:=fm_len op
 have:=loop (λ x7=>bnd1 (zbp x7) (λ y30=>some y30)) (fm op) l hfl (λ c hc=>fm_ascii hc) hl (fm op).length 0 FU [] (by omega) (by omega) (by simp;omega)
 rw[List.drop_zero,List.drop_zero,List.nil_append]at this
 refine this.trans ?_
 rw[vClip,zaf]
theorem vPick0 (op:Int) (l:List Vl) (hf:fm op=[]):zle op l 112=some []:=by
 have hFU:=zeo
 unfold zle
 obtain⟨n,hn⟩: ∃q,FU=q+1:=⟨FU - 1,by omega⟩
 rw[vForm,zaf,zbq,hf,hn,zhg,zjo,if_neg (by simp),vClip,zaf]
theorem vOps (v:Vl):zla v=some (opsV v):=by
 have hFU:=zeo
 unfold zla opsV
 rw[vOpen,zaf]
 cases ht:tmB v with
 |false=>
  simp only[Bool.false_eq_true,if_false]
  rw[if_pos (by omega),vPick0 0 [] (by simp[fm]),zaf]
 |true=>
  obtain⟨_,_,_,_,o1,o2,hl,_⟩:=zht ht
  rw[if_pos rfl,if_pos rfl]
  dsimp only
  unfold subs
  by_cases h6:opT v=6
  .rw[if_neg (λ h=>h h6),if_pos h6,zbq,vPairUp _ (by omega) (tm_pre ht h6).2.1,zaf]
   have hpl:=prsW_len (agT v)
   have loop: ∀(K:List Vl->Option (List Vl)) (y:List Ofr),y.length≤65535-> ∀(m i n:Nat) (out:List Vl),i+m=y.length->m<n->out.length+m≤1000000->zgc K y n out i=K (out++(y.drop i).map Prod.snd):=by
    intro K y hy m
    induction m with
    |zero=>
     intro i n out hi hn ho
     obtain⟨n,rfl⟩: ∃q,n=q+1:=⟨n - 1,by omega⟩
     rw[zgc,zhw,if_neg (by omega),List.drop_eq_nil_of_le (by omega)];simp
    |succ m ih=>
     intro i n out hi hn ho
     obtain⟨n,rfl⟩: ∃q,n=q+1:=⟨n - 1,by omega⟩
     have hil:i<y.length:=by omega
     rw[zgc,zhw,if_pos (by omega),zah (by omega),zbv hil,zah (by simp;omega),zbl (by omega),ih (i+1) n _ (by omega) (by omega) (by simp;omega),List.drop_eq_getElem_cons hil,List.map_cons,List.append_assoc];rfl
   have:=loop (λ x5=>bnd1 (zbp x5) (λ y31=>some y31)) (prsW (agT v)) (by omega) (prsW (agT v)).length 0 FU [] (by omega) (by omega) (by simp;omega)
   rw[Int.natCast_zero,List.drop_zero,List.nil_append]at this
   refine this.trans ?_
   rw[vClip,zaf]
  .rw[if_pos h6,if_neg h6]
   rcases tm_fm ht with hn|⟨hlen,_⟩
   .rw[vPick0 _ _ hn,zaf,hn,pickP_nil]
   .rw[vPick _ _ hlen,zaf]
theorem vHoles0: ∀(k:Nat),k≤32-> ∀v,(kindW v=9->IsV k v)->NoH v-> ∀n,k<n->zfa n v=some []:=by
 have hFU:=zeo
 have fin:bnd1 (m_sortI []) (λ y32=>bnd1 (zea y32) (λ y33=>bnd1 (zdn y33) (λ y34=>some y34)))=some []:=by
  have h0:sortI []=[]:=List.eq_nil_of_length_eq_zero (by rw[sortI_len];rfl)
  have h1:m_sortI []=some []:=by unfold m_sortI;rw[zah (by simp),h0]
  have h2:zea []=some []:=by unfold zea;rw[if_pos (by simp)]
  rw[h1,zaf,h2,zaf];rfl
 intro k
 induction k with
 |zero=>
  intro _ v hv _ n hn
  obtain⟨n,rfl⟩: ∃q,n=q+1:=⟨n - 1,by omega⟩
  have ht:tmB v=false:=by
   cases h:tmB v with
   |false=>rfl
   |true=>have h9:=zlp h;have:=(zji (by omega) h9 (hv h9)).1;omega
  obtain⟨f,hf⟩: ∃q,FU=q+1:=⟨FU - 1,by omega⟩
  rw[zfa,zlz,vOpen,zaf,ht]
  simp only[Bool.false_eq_true,if_false]
  rw[if_neg (by omega),zbq,vOps,zaf]
  unfold opsV
  rw[ht,if_neg (by simp),hf,zgi,zij,if_neg (by simp)]
  exact fin
 |succ k ih=>
  intro hk v hv hno n hn
  obtain⟨n,rfl⟩: ∃q,n=q+1:=⟨n - 1,by omega⟩
  have loop: ∀(K:List Int->Option (List Int)) (y:List Vl),y.length≤65535->(∀x∈y,zfa n x=some [])-> ∀(m i f:Nat),i+m=y.length->m<f->zgi (zfa n) K y f [] i=K []:=by
   intro K y hy hx m
   induction m with
   |zero=>
    intro i f hi hf
    obtain⟨f,rfl⟩: ∃q,f=q+1:=⟨f - 1,by omega⟩
    rw[zgi,zij,if_neg (by omega)]
   |succ m ih=>
    intro i f hi hf
    obtain⟨f,rfl⟩: ∃q,f=q+1:=⟨f - 1,by omega⟩
    have hil:i<y.length:=by omega
    rw[zgi,zij,if_pos (by omega),zah (by omega),zbv hil,hx _ (List.getElem_mem hil),zaf,zah (by simp),zbl (by omega)]
    exact ih (i+1) f (by omega) (by omega)
  have hol:=opsV_len v
  have hsub: ∀x∈opsV v,NoH x:=by
   cases hno with
   |no _ h=>intro x hx;unfold opsV at hx;rw[h]at hx;cases hx
   |tm _ h21 hs=>exact hs
  have h21: ¬(if tmB v=true then(opT v,agT v)else(0,[])).1=21:=by
   cases ht:tmB v with
   |false=>rw[if_neg (by simp)];dsimp only;omega
   |true=>
    rw[if_pos rfl]
    cases hno with
    |no _ h=>rw[h]at ht;cases ht
    |tm _ h21 hs=>exact h21
  rw[zfa,zlz,vOpen,zaf,if_neg h21,zbq,vOps,zaf]
  have:=loop (λ x3=>bnd1 (m_sortI x3) (λ y32=>bnd1 (zea y32) (λ y33=>bnd1 (zdn y33) (λ y34=>some y34)))) (opsV v) hol (λ x hx=>by
   refine ih (by omega) x (λ _=> ?_) (hsub x hx) n (by omega)
   have ht:tmB v=true:=by
    unfold opsV at hx
    split at hx
    .assumption
    .cases hx
   have h9:=zlp ht
   exact(zji (by omega) h9 (hv h9)).2 x (agT_mem (opsV_mem hx))) (opsV v).length 0 FU (by omega) (by omega)
  rw[Int.natCast_zero]at this
  exact this.trans fin
theorem vHoles {v:Vl} (h:NoH v):m_procterm_Holes v=some []:=by
 have hFU:=zeo
 exact vHoles0 32 (by omega) v (λ h=>(kind_vd (v:=v) (by omega)).1) h FU (by omega)
end
noncomputable section
attribute [local irreducible] FU keyF relF pKeys cKeys
theorem isv_pos {k:Nat} {x:Vl} (h:IsV k x):1≤k:=by cases h <;>omega
theorem mkT_ok {op:Int} {l:List Vl} {k:Nat} (h1:1≤k) (hk:k≤31) (hv: ∀x∈l,IsV k x) (hl:l.length≤65534) (hf:l.flatten.length+12≤131072) (ho:1≤op/\op≤21) (hb:tbody (tw 32) op l=true):
  tmB (mkT op l)=true/\IsV (k+1) (mkT op l)/\(mkT op l).length=l.flatten.length+12/\opT (mkT op l)=op/\agT (mkT op l)=l:=by
 have hfm:formedB 9 (intW op::l)=true:=by
  have:formedB 9 (intW op::l)=(decide (1≤(intW op::l).length) && betB (intW op) 1 21):=by simp[formedB,gi2_00]
  rw[this]
  unfold betB
  rw[numV_intW (by omega),show gi (intW op) 0=1 from rfl,decide_eq_true ho.1,decide_eq_true ho.2]
  simp
 have hlen:(intW op::l).flatten.length=l.flatten.length+9:=by rw[List.flatten_cons,List.length_append,intW_len];omega
 obtain⟨q1,q2,q3,q4,q5⟩:=comp_ok (c:=9) (by decide) (k:=k) (by omega) (l:=intW op::l) (λ x hx=>by
  rcases List.mem_cons.1 hx with rfl|hx
  .obtain⟨k',rfl⟩: ∃q,k=q+1:=⟨k - 1,by omega⟩
   exact intW_IsV _ _
  .exact hv x hx) (by rw[List.length_cons];omega) (by omega) hfm
 have hk9:kindW (raw 9 (intW op::l))=9:=q4
 have ht:tmB (raw 9 (intW op::l))=true:=by
  unfold tmB
  rw[tw,tb,if_pos hk9,q3,show gi (intW op::l) 0=intW op from rfl,znh (by omega)]
  exact hb
 have e:mkT op l=raw 9 (intW op::l):=by unfold mkT;rw[q1,if_pos ht]
 have hne:mkT op l≠[]:=λ h=>by rw[←e,h,tmB_nil]at ht;cases ht
 obtain⟨p1,p2,p3⟩:=mkT_parts (by unfold R64;omega) hne
 exact⟨p3,by rw[e];exact q2,by rw[e,raw_len,hlen],p1,p2⟩
theorem flat_mapP {f:Vl->Vl}: ∀{cs:List UInt8} {xs:List Vl},(∀x∈pickP cs xs,(f x).length≤x.length)->(mapP f cs xs).flatten.length≤xs.flatten.length
 |[],xs,_=>by rw[mapP_nil];omega
 |_::_,[],_=>Nat.le_refl _
 |c::cs,x::xs,h=>by
  rw[pickP]at h
  rw[mapP,List.flatten_cons,List.flatten_cons,List.length_append,List.length_append]
  by_cases q:c=112
  .rw[if_pos q]at h⊢
   have h1:=h x List.mem_cons_self
   have h2:=flat_mapP (f:=f) (λ z hz=>h z (List.mem_cons_of_mem _ hz))
   omega
  .rw[if_neg q]at h⊢
   have h2:=flat_mapP (f:=f) h
   omega
def wO:List Ofr->Nat
 |[]=>0
 |o::q=>9+o.2.length+wO q
theorem flat_partsO: ∀q:List Ofr,(partsO q).flatten.length=wO q
 |[]=>rfl
 |o::q=>by
  have:=flat_partsO q
  have e:partsO (o::q)=intW o.1::o.2::partsO q:=rfl
  rw[e,List.flatten_cons,List.flatten_cons,List.length_append,List.length_append,intW_len,this,wO];omega
theorem wO_app: ∀a b:List Ofr,wO (a++b)=wO a+wO b
 |[],b=>by simp[wO]
 |o::a,b=>by rw[List.cons_append,wO,wO,wO_app a b];omega
theorem wO_sub: ∀(q l:List Ofr),q.Pairwise LtO->(∀x∈q,x∈l)->wO q≤wO l
 |[],l,_,_=>by simp[wO]
 |o::q,l,hp,hs=>by
  obtain⟨hp1,hp2⟩:=List.pairwise_cons.1 hp
  obtain⟨s,t,rfl⟩:=List.append_of_mem (hs o List.mem_cons_self)
  have ih:=wO_sub q (s++t) hp2 (λ x hx=>by
   have h:=hs x (List.mem_cons_of_mem _ hx)
   have hne:x≠o:=λ e=>by have:=hp1 x hx;rw[e]at this;exact LtO.irr _ this
   simp at h⊢
   rcases h with h|h|h
   .exact .inl h
   .exact absurd h hne
   .exact .inr h)
  rw[wO_app]at ih
  rw[wO,wO_app,wO];omega
theorem wO_map {f:Vl->Vl}: ∀{q:List Ofr},(∀o∈q,(f o.2).length≤o.2.length)->wO (q.map (λ o=>(o.1,f o.2)))≤wO q
 |[],_=>Nat.le_refl _
 |o::q,h=>by
  have h1:=h o List.mem_cons_self
  have h2:=wO_map (f:=f) (λ z hz=>h z (List.mem_cons_of_mem _ hz))
  rw[List.map_cons,wO,wO];dsimp only;omega
theorem chk_parts {sb:Vl->Bool}: ∀{q:List Ofr},(∀o∈q,sb o.2=true/\cVis o.1)->prsChk sb (partsO q)=true
 |[],_=>rfl
 |o::q,h=>by
  have e:partsO (o::q)=intW o.1::o.2::partsO q:=rfl
  obtain⟨h1,h2⟩:=h o List.mem_cons_self
  have ev:evB (intW o.1)=true:=by
   unfold evB
   rw[kind_intW,znh (vis_R6 h2),decide_eq_true rfl,decide_eq_true h2];rfl
  rw[e,prsChk,ev,h1,chk_parts (λ z hz=>h z (List.mem_cons_of_mem _ hz))];rfl
theorem pw_ascO: ∀{l:List Ofr},l.Pairwise LtO->ascO l=true
 |[],_=>rfl
 |[x],_=>rfl
 |x::y::t,h=>by
  obtain⟨h1,h2⟩:=List.pairwise_cons.1 h
  rw[ascO,decide_eq_true (h1 y List.mem_cons_self),pw_ascO h2];rfl
theorem partsB_map {sb:Vl->Bool} {op:Int} {f:Vl->Vl}: ∀{cs:List UInt8} {xs:List Vl},partsB sb op cs xs=true->(∀x∈pickP cs xs,sb (f x)=true)->partsB sb op cs (mapP f cs xs)=true
 |[],xs,_,_=>by rw[mapP_nil];simp[partsB]
 |_::_,[],_,_=>by simp[mapP,partsB]
 |c::cs,x::xs,hb,h=>by
  rw[partsB]at hb
  simp only[Bool.and_eq_true]at hb
  rw[pickP]at h
  rw[mapP,partsB]
  by_cases q:c=112
  .rw[if_pos q]at h⊢
   rw[partsB_map hb.2 (λ z hz=>h z (List.mem_cons_of_mem _ hz)),Bool.and_true]
   unfold partB
   rw[if_pos q];exact h x List.mem_cons_self
  .rw[if_neg q]at h⊢
   rw[hb.1,partsB_map hb.2 h];rfl
theorem tw_of {x:Vl} (h:tmB x=true) (hv:IsV 31 x):tw 32 x=true:=by
 rw[tw_same (λ _=>hv)];exact h
theorem step_ok {f:Vl->Vl} {v:Vl} {k:Nat} {l:List Vl} (hk:k≤31) (ht:tmB v=true) (hv:IsV (k+1) v) (h21: ¬opT v=21) (hf: ∀x∈opsV v,tmB (f x)=true/\(f x).length≤x.length/\IsV k (f x)):
  tmB (rbody f v l)=true/\(rbody f v l).length≤v.length/\IsV (k+1) (rbody f v l):=by
 have h9:=zlp ht
 have hp:=(zji (by omega) h9 hv).2
 obtain⟨_,hprt,hm,hb,o1,o2,hl,_,hlen,hV,hr⟩:=zht ht
 have hw:v.length=(agT v).flatten.length+12:=by
  have:=congrArg List.length hr
  rw[raw_len,List.flatten_cons,List.length_append,intW_len]at this;omega
 have hk1:1≤k:=isv_pos (hp (intW (opT v)) (by rw[hprt];exact List.mem_cons_self))
 have hpa: ∀x∈agT v,IsV k x:=λ x hx=>hp x (agT_mem hx)
 by_cases h6:opT v=6
 .obtain⟨a1,a2,a3,a4⟩:=pre_facts ht h6
  have hops: ∀o∈prsW (agT v),o.2∈opsV v:=λ o ho=>by
   unfold opsV subs
   rw[if_pos ht,if_pos h6];exact List.mem_map.2 ⟨o,ho,rfl⟩
  generalize hq:(prsW (agT v)).map (λ o=>(o.1,f o.2))=q
  have hg: ∀o∈q,tmB o.2=true/\cVis o.1:=λ o ho=>by
   subst hq
   obtain⟨z,hz,rfl⟩:=List.mem_map.1 ho
   exact⟨(hf _ (hops z hz)).1,(a2 z hz).2⟩
  have hi: ∀o∈q,IsV k o.2:=λ o ho=>by
   subst hq
   obtain⟨z,hz,rfl⟩:=List.mem_map.1 ho
   exact(hf _ (hops z hz)).2.2
  have hql:q.length=(prsW (agT v)).length:=by subst hq;rw[List.length_map]
  obtain⟨s1,s2,s3⟩:=sortO_spec q
  have hbody:rbody f v l=mkT 6 (partsO (sortO q)):=by
   unfold rbody
   rw[if_pos ht,if_neg h21,if_pos h6,hq]
   unfold preV prefS
   rw[if_pos (good_all hg),if_neg (by omega)]
  have hwq:wO (sortO q)≤(agT v).flatten.length:=by
   have e1:=wO_sub (sortO q) q s1 (λ x hx=>(s2 x).1 hx)
   have e2:wO q≤wO (prsW (agT v)):=by subst hq;exact wO_map (λ o ho=>(hf _ (hops o ho)).2.1)
   have e3:=flat_partsO (prsW (agT v))
   rw[a3]at e3;omega
  have hpl:=partsO_len (sortO q)
  have hpw:=prsW_len (agT v)
  have hsn:(sortO q).length≠0:=λ h=>by
   have hn:sortO q=[]:=List.eq_nil_of_length_eq_zero h
   have hq0:q=[]:=List.eq_nil_iff_forall_not_mem.2 (λ x hx=>by have:=(s2 x).2 hx;rw[hn]at this;cases this)
   rw[hq0]at hql
   exact a1 (by rw[←hql];rfl)
  have hR: ∀o∈sortO q,R64 o.1:=λ o ho=>vis_R6 (hg o ((s2 o).1 ho)).2
  have hb6:tbody (tw 32) 6 (partsO (sortO q))=true:=by
   have:tbody (tw 32) 6 (partsO (sortO q))=offB (tw 32) (partsO (sortO q)):=by unfold tbody;simp
   rw[this]
   unfold offB
   rw[chk_parts (λ o ho=>⟨tw_of (hg o ((s2 o).1 ho)).1 ((hi o ((s2 o).1 ho)).le (by omega)),(hg o ((s2 o).1 ho)).2⟩),prs_partsR _ hR,pw_ascO s1,decide_eq_true (by omega),decide_eq_true (by omega)];rfl
  obtain⟨r1,r2,r3,_⟩:=mkT_ok (op:=6) (l:=partsO (sortO q)) hk1 hk (λ x hx=>by
   obtain⟨o,ho,hx⟩:=List.mem_flatMap.1 hx
   simp at hx
   rcases hx with rfl|rfl
   .obtain⟨k',rfl⟩: ∃q,k=q+1:=⟨k - 1,by omega⟩
    exact intW_IsV _ _
   .exact hi o ((s2 o).1 ho)) (by omega) (by rw[flat_partsO];omega) (by omega) hb6
  rw[hbody]
  exact⟨r1,by rw[r3,flat_partsO];omega,r2⟩
 .have hbody:rbody f v l=mkT (opT v) (mapP f (fm (opT v)) (agT v)):=by
   unfold rbody
   rw[if_pos ht,if_neg h21,if_neg h6]
  rcases tm_fm ht with hn|⟨hlen',hpb⟩
  .rw[hbody,hn,mapP_nil, ←hm];exact⟨ht,Nat.le_refl _,hv⟩
  .have hops: ∀x∈pickP (fm (opT v)) (agT v),x∈opsV v:=λ x hx=>by
    unfold opsV
    rw[if_pos ht,subs_fm h6];exact hx
   by_cases hfm:fm (opT v)=[]
   .rw[hbody,hfm,mapP_nil, ←hm];exact⟨ht,Nat.le_refl _,hv⟩
   have hfl:=flat_mapP (f:=f) (cs:=fm (opT v)) (xs:=agT v) (λ x hx=>(hf x (hops x hx)).2.1)
   have hbt:tbody (tw 32) (opT v) (mapP f (fm (opT v)) (agT v))=true:=by
    rw[(tbody_fm (sb:=tw 32) hfm _).1,mapP_len,decide_eq_true hlen',partsB_map hpb (λ x hx=>tw_of (hf x (hops x hx)).1 ((hf x (hops x hx)).2.2.le (by omega)))];rfl
   obtain⟨r1,r2,r3,_⟩:=mkT_ok (op:=opT v) (l:=mapP f (fm (opT v)) (agT v)) hk1 hk (λ x hx=>by
    rcases mapP_mem hx with h|⟨z,hz,rfl⟩
    .exact hpa x h
    .exact(hf z (hops z hz)).2.2) (by rw[mapP_len];omega) (by omega) ⟨o1,o2⟩ hbt
   rw[hbody]
   exact⟨r1,by rw[r3];omega,r2⟩
def hoV (n:Int):Vl:=mkT 21 [intW n]
theorem hole_ok {n:Int} (h0:0≤n) (h1:n≤11):tmB (hoV n)=true/\IsV 2 (hoV n)/\(hoV n).length=21/\opT (hoV n)=21/\agT (hoV n)=[intW n]:=by
 have hb:tbody (tw 32) 21 [intW n]=true:=by
  have:tbody (tw 32) 21 [intW n]=(decide (([intW n]:List Vl).length=1) && numB (gi [intW n] 0) 11):=by unfold tbody;simp
  rw[this,show gi [intW n] 0=intW n from rfl]
  unfold numB
  rw[kind_intW,znh (by omega),decide_eq_true (⟨h0,h1⟩:0≤n/\n≤11)];rfl
 obtain⟨r1,r2,r3,r4,r5⟩:=mkT_ok (op:=21) (l:=[intW n]) (k:=1) (by omega) (by omega) (λ x hx=>by
  rw[List.mem_singleton]at hx;subst hx;exact intW_IsV _ _) (by simp) (by simp[intW_len]) (by omega) hb
 exact⟨r1,r2,by unfold hoV;rw[r3];simp[intW_len],r4,r5⟩
theorem hole_of {v:Vl} (ht:tmB v=true) (h:opT v=21): ∃n,0≤n/\n≤11/\v=hoV n:=by
 obtain⟨_,_,hm,hb,_⟩:=zht ht
 rw[h]at hb hm
 have hb:(decide ((agT v).length=1) && numB (gi (agT v) 0) 11)=true:=hb
 simp only[Bool.and_eq_true,decide_eq_true_eq,numB]at hb
 obtain⟨b1,b2,b3,b4⟩:=hb
 obtain⟨a,ha⟩:=List.length_eq_one_iff.1 b1
 rw[ha]at b2 b3 b4 hm
 have e:gi [a] 0=a:=rfl
 rw[e]at b2 b3 b4
 have ea:a=intW (numW a):=int_inj b2 (kind_intW _) (by rw[znh (numW_range a)])
 exact⟨numW a,b3,b4,by rw[hm];unfold hoV;rw[←ea]⟩
theorem repl_hole {l:List Vl} {n:Int} (h0:0≤n) (h1:n≤11):repl l (hoV n)=holeV l n:=by
 obtain⟨q1,q2,q3,q4,q5⟩:=hole_ok h0 h1
 rw[repl_eq]
 unfold rbody
 rw[if_pos q1,if_pos q4,q5,show gi [intW n] 0=intW n from rfl,znh (by omega)]
def hoL:List Vl:=[hoV 3,hoV 2,hoV 1,hoV 0]
theorem hole_flip {n:Int} (h0:0≤n):holeV hoL n=if n<4 then hoV (3 - n)else[]:=by
 unfold holeV
 by_cases h4:n<4
 .have:gi hoL n=hoV (3 - n):=by
   have:n=0∨n=1∨n=2∨n=3:=by omega
   rcases this with rfl|rfl|rfl|rfl <;>rfl
  rw[this,(hole_ok (n:=3 - n) (by omega) (by omega)).1,if_pos ⟨by show n<4;omega,rfl⟩,if_pos h4]
 .rw[if_neg (λ h=>h4 h.1),if_neg h4]
theorem hoL_ok: ∀(k:Nat),k≤32-> ∀v,IsV k v->tmB v=true->repl hoL v=[]∨(tmB (repl hoL v)=true/\(repl hoL v).length≤v.length/\IsV k (repl hoL v)):=by
 intro k
 induction k with
 |zero=>intro _ v hv _;have:=isv_pos hv;omega
 |succ k ih=>
  intro hk v hv ht
  have h9:=zlp ht
  have hp:=(zji (by omega) h9 hv).2
  by_cases h21:opT v=21
  .obtain⟨n,n0,n1,e⟩:=hole_of ht h21
   subst e
   obtain⟨q1,q2,q3,q4,q5⟩:=hole_ok n0 n1
   have hpr:=(zht ht).2.1
   have hk1:1≤k:=isv_pos (hp (intW (opT (hoV n))) (by rw[hpr];exact List.mem_cons_self))
   rw[repl_hole n0 n1,hole_flip n0]
   by_cases h4:n<4
   .rw[if_pos h4]
    obtain⟨r1,r2,r3,_⟩:=hole_ok (n:=3 - n) (by omega) (by omega)
    exact .inr ⟨r1,by omega,r2.le (by omega)⟩
   .rw[if_neg h4];exact .inl rfl
  .by_cases q: ∃x∈opsV v,repl hoL x=[]
   .obtain⟨x,hx,hn⟩:=q
    rw[repl_eq]
    exact .inl (rbody_nil ht h21 hx hn)
   .rw[repl_eq]
    exact .inr (step_ok (by omega) ht hv h21 (λ x hx=>(ih (by omega) x (hp x (agT_mem (opsV_mem hx))) (ops_tm ht hx)).resolve_left (λ h=>q ⟨x,hx,h⟩)))
theorem preV_ext {l l':List Ofr} (h: ∀x,x∈l↔x∈l'):preV l=preV l':=by
 have ha:l.all goodO=l'.all goodO:=by
  cases h1:l.all goodO with
  |true=>exact(List.all_eq_true.2 (λ x hx=>List.all_eq_true.1 h1 x ((h x).2 hx))).symm
  |false=>
   cases h2:l'.all goodO with
   |false=>rfl
   |true=>
    have:=List.all_eq_true.2 (λ x hx=>List.all_eq_true.1 h2 x ((h x).1 hx))
    rw[h1]at this;cases this
 have hz:l.length=0↔l'.length=0:=by
  rw[List.length_eq_zero_iff,List.length_eq_zero_iff]
  constructor
  .intro e;subst e;exact List.eq_nil_iff_forall_not_mem.2 (λ x hx=>by have:=(h x).2 hx;cases this)
  .intro e;subst e;exact List.eq_nil_iff_forall_not_mem.2 (λ x hx=>by have:=(h x).1 hx;cases this)
 have hs:sortO l=sortO l':=sortO_ext (sortO_spec l).1 (λ x=>by rw[(sortO_spec l).2.1,h])
 unfold preV prefS
 rw[ha,hs]
 by_cases q:l.length=0
 .rw[if_pos q,if_pos (hz.1 q)]
 .rw[if_neg q,if_neg (λ z=>q (hz.2 z))]
theorem mapP_comp (f g:Vl->Vl): ∀(cs:List UInt8) (xs:List Vl),mapP f cs (mapP g cs xs)=mapP (λ x=>f (g x)) cs xs
 |[],xs=>by rw[mapP_nil,mapP_nil,mapP_nil]
 |_::_,[]=>rfl
 |c::cs,x::xs=>by
  rw[mapP,mapP,mapP,mapP_comp f g cs xs]
  by_cases q:c=112
  .rw[if_pos q,if_pos q,if_pos q]
  .rw[if_neg q,if_neg q,if_neg q]
theorem hole_back (a b c d:Vl) {n:Int} (h0:0≤n) (h4:n<4):holeV [d,c,b,a] (3 - n)=holeV [a,b,c,d] n:=by
 have e:gi [d,c,b,a] (3 - n)=gi [a,b,c,d] n:=by
  have:n=0∨n=1∨n=2∨n=3:=by omega
  rcases this with rfl|rfl|rfl|rfl <;>rfl
 unfold holeV
 rw[e]
 by_cases q:tmB (gi [a,b,c,d] n)=true
 .rw[if_pos ⟨by simp;omega,q⟩,if_pos ⟨by simp;omega,q⟩]
 .rw[if_neg (λ h=>q h.2),if_neg (λ h=>q h.2)]
theorem repl_twice (a b c d:Vl): ∀(k:Nat),k≤32-> ∀v,(kindW v=9->IsV k v)->repl [d,c,b,a] (repl hoL v)=repl [a,b,c,d] v:=by
 intro k
 induction k with
 |zero=>
  intro _ v hv
  have ht:tmB v=false:=by
   cases h:tmB v with
   |false=>rfl
   |true=>have h9:=zlp h;have:=(zji (by omega) h9 (hv h9)).1;omega
  rw[repl_no ht,repl_no ht,repl_no tmB_nil]
 |succ k ih=>
  intro hk v hv
  cases ht:tmB v with
  |false=>rw[repl_no ht,repl_no ht,repl_no tmB_nil]
  |true=>
   have h9:=zlp ht
   have hp:=(zji (by omega) h9 (hv h9)).2
   have hI: ∀x∈opsV v,repl [d,c,b,a] (repl hoL x)=repl [a,b,c,d] x:=λ x hx=>ih (by omega) x (λ _=>hp x (agT_mem (opsV_mem hx)))
   by_cases h21:opT v=21
   .obtain⟨n,n0,n1,e⟩:=hole_of ht h21
    subst e
    rw[repl_hole n0 n1,repl_hole n0 n1,hole_flip n0]
    by_cases h4:n<4
    .rw[if_pos h4,repl_hole (by omega) (by omega),hole_back a b c d n0 h4]
    .rw[if_neg h4,repl_no tmB_nil]
     unfold holeV
     rw[if_neg (λ h=>h4 h.1)]
   by_cases q: ∃x∈opsV v,repl hoL x=[]
   .obtain⟨x,hx,hn⟩:=q
    have e1:=hI x hx
    rw[hn,repl_no tmB_nil]at e1
    rw[repl_eq hoL v,rbody_nil ht h21 hx hn,repl_no tmB_nil,repl_eq [a,b,c,d] v,rbody_nil ht h21 hx e1.symm]
   .have hops: ∀x∈opsV v,tmB (repl hoL x)=true/\(repl hoL x).length≤x.length/\IsV k (repl hoL x):=λ x hx=>(hoL_ok k (by omega) x (hp x (agT_mem (opsV_mem hx))) (ops_tm ht hx)).resolve_left (λ h=>q ⟨x,hx,h⟩)
    obtain⟨w1,_,_⟩:=step_ok (l:=hoL) (by omega) ht (hv h9) h21 hops
    obtain⟨_,_,_,_,o1,o2,_⟩:=zht ht
    rw[repl_eq hoL v,repl_eq [a,b,c,d] v, ←rbody_congr (f:=λ x=>repl [d,c,b,a] (repl hoL x)) (λ _ x hx=>hI x hx)]
    rw[repl_eq [d,c,b,a]]
    by_cases h6:opT v=6
    .obtain⟨a1,a2,a3,a4⟩:=pre_facts ht h6
     have hmem: ∀o∈prsW (agT v),o.2∈opsV v:=λ o ho=>by
      unfold opsV subs
      rw[if_pos ht,if_pos h6];exact List.mem_map.2 ⟨o,ho,rfl⟩
     generalize hq:(prsW (agT v)).map (λ o=>(o.1,repl hoL o.2))=q'
     have hg: ∀o∈q',tmB o.2=true/\cVis o.1:=λ o ho=>by
      subst hq
      obtain⟨z,hz,rfl⟩:=List.mem_map.1 ho
      exact⟨(hops _ (hmem z hz)).1,(a2 z hz).2⟩
     have hql:q'.length=(prsW (agT v)).length:=by subst hq;rw[List.length_map]
     have hbody:rbody (repl hoL) v hoL=mkT 6 (partsO (sortO q')):=by
      unfold rbody
      rw[if_pos ht,if_neg h21,if_pos h6,hq]
      unfold preV prefS
      rw[if_pos (good_all hg),if_neg (by omega)]
     have hne:mkT 6 (partsO (sortO q'))≠[]:=λ h=>by rw[hbody,h,tmB_nil]at w1;cases w1
     obtain⟨p1,p2,p3⟩:=mkT_parts (op:=6) (by unfold R64;omega) hne
     have hs:=(sortO_spec q').2.1
     have hR: ∀o∈sortO q',R64 o.1:=λ o ho=>vis_R6 (hg o ((hs o).1 ho)).2
     rw[hbody]
     unfold rbody
     rw[if_pos p3,p1,p2,if_neg (by omega),if_pos rfl,prs_partsR _ hR,if_pos ht,if_neg h21,if_pos h6]
     have e:(prsW (agT v)).map (λ o=>(o.1,repl [d,c,b,a] (repl hoL o.2)))=q'.map (λ o=>(o.1,repl [d,c,b,a] o.2)):=by
      subst hq;rw[List.map_map];rfl
     rw[e]
     refine preV_ext (λ x=> ?_)
     rw[List.mem_map,List.mem_map]
     constructor
     .rintro ⟨z,hz,rfl⟩;exact⟨z,(hs z).1 hz,rfl⟩
     .rintro ⟨z,hz,rfl⟩;exact⟨z,(hs z).2 hz,rfl⟩
    .have hbody:rbody (repl hoL) v hoL=mkT (opT v) (mapP (repl hoL) (fm (opT v)) (agT v)):=by
      unfold rbody
      rw[if_pos ht,if_neg h21,if_neg h6]
     have hne:mkT (opT v) (mapP (repl hoL) (fm (opT v)) (agT v))≠[]:=λ h=>by rw[hbody,h,tmB_nil]at w1;cases w1
     obtain⟨p1,p2,p3⟩:=mkT_parts (op:=opT v) (by unfold R64;omega) hne
     rw[hbody]
     unfold rbody
     rw[if_pos p3,p1,p2,if_neg h21,if_neg h6,if_pos ht,if_neg h21,if_neg h6,mapP_comp]
end
noncomputable section
attribute [local irreducible] FU keyF relF pKeys cKeys
theorem nh_17 {p a b q:Vl} (np:NoH p) (nq:NoH q):NoH (mkT 17 [p,a,b,q]):=nh_mkT (by unfold R64;omega) (by omega) (λ x hx=>by
 rw[subs_fm (by omega)]at hx
 simp[fm,pickP]at hx
 rcases hx with rfl|rfl <;>assumption)
theorem nh_20 {p a q:Vl} (np:NoH p) (nq:NoH q):NoH (mkT 20 [p,a,q]):=nh_mkT (by unfold R64;omega) (by omega) (λ x hx=>by
 rw[subs_fm (by omega)]at hx
 simp[fm,pickP]at hx
 rcases hx with rfl|rfl <;>assumption)
theorem nh_14 {p a:Vl} (np:NoH p):NoH (mkT 14 [p,a]):=nh_mkT (by unfold R64;omega) (by omega) (λ x hx=>by
 rw[subs_fm (by omega)]at hx
 simp[fm,pickP]at hx
 subst hx;assumption)
theorem nh_15 {p a:Vl} (np:NoH p):NoH (mkT 15 [p,a]):=nh_mkT (by unfold R64;omega) (by omega) (λ x hx=>by
 rw[subs_fm (by omega)]at hx
 simp[fm,pickP]at hx
 subst hx;assumption)
theorem nh_18 {p a:Vl} (np:NoH p):NoH (mkT 18 [p,a]):=nh_mkT (by unfold R64;omega) (by omega) (λ x hx=>by
 rw[subs_fm (by omega)]at hx
 simp[fm,pickP]at hx
 subst hx;assumption)
theorem nh_19 {p:Vl} (np:NoH p):NoH (mkT 19 [p]):=nh_mkT (by unfold R64;omega) (by omega) (λ x hx=>by
 rw[subs_fm (by omega)]at hx
 simp[fm,pickP]at hx
 subst hx;assumption)
def TNk (l:List Int) (i:Int) (x:Option TmR):Prop:= ∃v i',x=some (v,(l,i'))/\GSZ l i'/\i≤i'/\v.length≤131072/\NoH v
theorem TNk.le {l:List Int} {i j:Int} {x:Option TmR} (h:TNk l j x) (hij:i≤j):TNk l i x:=by
 obtain⟨v,i',e,g,m,n⟩:=h
 exact⟨v,i',e,g,by omega,n⟩
theorem termN_F (self:(List Int)×Int->Int->Int->Option TmR) (c:Int) (hc:0≤c/\c≤1000) (l:List Int) (i d:Int) (hg:GSZ l i) (hs: ∀i2 d2,GSZ l i2->i+1≤i2->TNk l i2 (self (l,i2) d2 c)):TNk l i (zfs self (l,i) d c):=by
 have hFU:=zeo
 obtain⟨k0,i1,e1,g1,k1,k2,m1,m2⟩:=nNext hg (n:=22) (by omega) (by omega)
 unfold zfs
 dsimp only
 rw[e1,zaf,jn_if]
 dsimp only
 have hk:0≤(if d≤1 then Int.tmod k0 5 else k0)/\(if d≤1 then Int.tmod k0 5 else k0)<22/\((if d≤1 then Int.tmod k0 5 else k0)=0∨i+1≤i1):=by
  obtain⟨z,rfl⟩: ∃z:Nat,k0=z:=⟨k0.toNat,by omega⟩
  have:=tmod_nat z 5
  rw[show((5:Nat):Int)=5 from rfl]at this
  rw[this]
  split
  .refine⟨by omega,by omega, ?_⟩
   rcases m2 with h|h
   .left;omega
   .exact .inr h
  .exact⟨by omega,by omega,m2⟩
 generalize(if d≤1 then Int.tmod k0 5 else k0)=k at hk
 obtain⟨ka,kb,kc⟩:=hk
 rw[zbq]
 have mk1: ∀(op:Int) (a:List Vl) (i2:Int),NoH (mkT op a)->a.length≤1000->GSZ l i2->i≤i2->TNk l i (bnd1 (zbs op a) (λ y=>some (y,(l,i2)))):=λ op a i2 hn ha g h=>by
  rw[rMakeT op a (by omega),zaf];exact⟨_,i2,rfl,g,h,mkT_len _ _,hn⟩
 by_cases c0:k=0
 .rw[if_pos c0]
  by_cases hc0:0<c
  .obtain⟨y,i2,e2,g2,_,_,m3,_⟩:=nNext g1 (n:=c) hc0 (by omega)
   rw[if_pos hc0,e2,zaf,rCall _ _ (by simp),zaf]
   exact⟨_,i2,rfl,g2,by omega,callV_len _ _,nh_call _ _⟩
  .rw[if_neg hc0];exact mk1 1 [] i1 (nh_none (by unfold R64;omega) (by omega) (by omega) (by simp[fm]) _) (by simp) g1 m1
 rw[if_neg c0]
 have hi1:i+1≤i1:=kc.resolve_left c0
 by_cases c1:k=1
 .rw[if_pos c1];exact mk1 1 [] i1 (nh_none (by unfold R64;omega) (by omega) (by omega) (by simp[fm]) _) (by simp) g1 m1
 rw[if_neg c1]
 by_cases c2:k=2
 .rw[if_pos c2];exact mk1 2 [] i1 (nh_none (by unfold R64;omega) (by omega) (by omega) (by simp[fm]) _) (by simp) g1 m1
 rw[if_neg c2]
 by_cases c3:k=3
 .obtain⟨y,i2,e2,g2,_,_,m3,_⟩:=nNext g1 (n:=4) (by omega) (by omega)
  rw[if_pos c3,e2,zaf]
  dsimp only
  by_cases hy:y=3
  .rw[if_pos hy];exact mk1 3 [] i2 (nh_none (by unfold R64;omega) (by omega) (by omega) (by simp[fm]) _) (by simp) g2 (by omega)
  .obtain⟨z,i3,e3,g3,_,_,m4⟩:=nEvent g2
   rw[if_neg hy,e3,zaf,rMakeT 2 [] (by simp),zaf,rPreV _ (by simp),zaf]
   exact⟨_,i3,rfl,g3,by omega,preV_len _,nh_pre (λ o ho=>by rw[List.mem_singleton]at ho;subst ho;exact nh_none (by unfold R64;omega) (by omega) (by omega) (by simp[fm]) _)⟩
 rw[if_neg c3,jn_s5]
 dsimp only
 by_cases c4:k=4∨k=5∨k=6∨k=7∨k=8
 .rw[if_pos (decide_eq_true c4),zbq]
  obtain⟨y,i2,e2,g2,ya,yb,m3,_⟩:=nNext g1 (n:=2) (by omega) (by omega)
  have loop: ∀(K:List Int->Int->List Ofr->Option TmR) (m n:Nat) (i0:Int) (out:List Ofr),m<n->GSZ l i0->i1≤i0->out.length+m≤100->(∀o∈out,NoH o.2)-> ∃i' out',zee self d c K n l i0 out m=K l i' out'/\GSZ l i'/\i0≤i'/\out'.length≤100/\ ∀o∈out',NoH o.2:=by
   intro K m
   induction m with
   |zero=>
    intro n i0 out hn hg hi ho hno
    obtain⟨n,rfl⟩: ∃q,n=q+1:=⟨n - 1,by omega⟩
    exact⟨i0,out,by rw[zee,zfh,if_neg (by omega)],hg,by omega,by omega,hno⟩
   |succ m ih=>
    intro n i0 out hn hg hi ho hno
    obtain⟨n,rfl⟩: ∃q,n=q+1:=⟨n - 1,by omega⟩
    obtain⟨y,i2,e2,g2,_,_,m2⟩:=nEvent hg
    obtain⟨v,i3,e3,g3,m3,_,nv⟩:=hs i2 (i64 (d - 1)) g2 (by omega)
    have es:i64 (((m+1:Nat):Int) - 1)=(m:Int):=by rw[zfn (by omega)];omega
    obtain⟨i',out',q1,q2,q3,q4,q5⟩:=ih n i3 (out++[(y,v)]) (by omega) g3 (by omega) (by simp;omega) (λ o ho=>by
     rcases List.mem_append.1 ho with h|h
     .exact hno o h
     .rw[List.mem_singleton]at h;subst h;exact nv)
    refine⟨i',out', ?_,q2,by omega,q4,q5⟩
    rw[zee,zfh,if_pos (by omega),e2,zaf,e3,zaf,zah (by simp;omega),es]
    exact q1
  rw[e2,zaf]
  dsimp only
  have ey:i64 (1+y)=((1+y).toNat:Int):=by rw[zfn (by omega)];omega
  obtain⟨i',out',q1,q2,q3,q4,q5⟩:=loop (λ f p r=>bnd1 (zge r) (λ y160=>some (y160,(f,p)))) (1+y).toNat FU i2 [] (by omega) g2 m3 (by simp;omega) (λ o ho=>by cases ho)
  rw[ey]
  refine⟨_,i',q1.trans ?_,q2,by omega,preV_len out',nh_pre q5⟩
  rw[rPreV _ (by omega),zaf]
 rw[if_neg (λ h=>c4 (of_decide_eq_true h)),jn_s2]
 by_cases c9:k=9∨k=10
 .obtain⟨y,i2,e2,g2,ya,yb,m3,_⟩:=nNext g1 (n:=5) (by omega) (by omega)
  obtain⟨v,i3,e3,g3,m4,_,nv⟩:=hs i2 (i64 (d - 1)) g2 (by omega)
  obtain⟨w,i4,e4,g4,m5,_,nw⟩:=hs i3 (i64 (d - 1)) g3 (by omega)
  rw[if_pos (decide_eq_true c9),e2,zaf]
  dsimp only
  rw[zah (by simp;omega),e3,zaf]
  dsimp only
  rw[e4,zaf,rBin,zaf]
  exact⟨_,i4,rfl,g4,by omega,binV_len _ _ _,nh_bin nv nw⟩
 rw[if_neg (λ h=>c9 (of_decide_eq_true h))]
 by_cases c11:k=11
 .obtain⟨v,i3,e3,g3,m4,_,nv⟩:=hs i1 (i64 (d - 1)) g1 (by omega)
  obtain⟨w,i4,e4,g4,m5,_,nw⟩:=hs i3 (i64 (d - 1)) g3 (by omega)
  rw[if_pos c11,e3,zaf]
  dsimp only
  rw[e4,zaf,rBin,zaf]
  exact⟨_,i4,rfl,g4,by omega,binV_len _ _ _,nh_bin nv nw⟩
 rw[if_neg c11]
 by_cases c12:k=12
 .obtain⟨v,i3,e3,g3,m4,_,nv⟩:=hs i1 (i64 (d - 1)) g1 (by omega)
  obtain⟨w,i4,e4,g4,m5,_,nw⟩:=hs i3 (i64 (d - 1)) g3 (by omega)
  rw[if_pos c12,e3,zaf]
  dsimp only
  rw[e4,zaf,rBin,zaf]
  exact⟨_,i4,rfl,g4,by omega,binV_len _ _ _,nh_bin nv nw⟩
 rw[if_neg c12,jn_s3]
 by_cases c13:k=13∨k=14∨k=15
 .obtain⟨y,i2,e2,g2,ya,yb,m3,_⟩:=nNext g1 (n:=3) (by omega) (by omega)
  obtain⟨v,i3,e3,g3,m4,_,nv⟩:=hs i2 (i64 (d - 1)) g2 (by omega)
  obtain⟨a,i4,e4,g4,m5⟩:=nSet g3
  obtain⟨w,i5,e5,g5,m6,_,nw⟩:=hs i4 (i64 (d - 1)) g4 (by omega)
  have hz:=setZ_len a
  rw[if_pos (decide_eq_true c13),e2,zaf]
  dsimp only
  rw[zah (by simp;omega),e3,zaf]
  dsimp only
  rw[e4,zaf]
  dsimp only
  rw[e5,zaf,rGua _ _ _ _ (by omega),zaf]
  exact⟨_,i5,rfl,g5,by omega,guaV_len _ _ _ _,nh_gua nv nw⟩
 rw[if_neg (λ h=>c13 (of_decide_eq_true h))]
 by_cases c16:k=16
 .obtain⟨v,i3,e3,g3,m4,_,nv⟩:=hs i1 (i64 (d - 1)) g1 (by omega)
  obtain⟨a,i4,e4,g4,m5⟩:=nSet g3
  obtain⟨b,i5,e5,g5,m6⟩:=nSet g4
  obtain⟨w,i6,e6,g6,m7,_,nw⟩:=hs i5 (i64 (d - 1)) g5 (by omega)
  have hz:=setZ_len a
  have hz':=setZ_len b
  rw[if_pos c16,e3,zaf]
  dsimp only
  rw[e4,zaf]
  dsimp only
  rw[rSetVal _ (by omega),zaf,e5,zaf]
  dsimp only
  rw[rSetVal _ (by omega),zaf,e6,zaf]
  exact mk1 17 _ i6 (nh_17 nv nw) (by simp) g6 (by omega)
 rw[if_neg c16]
 by_cases c17:k=17
 .obtain⟨v,i3,e3,g3,m4,_,nv⟩:=hs i1 (i64 (d - 1)) g1 (by omega)
  obtain⟨a,i4,e4,g4,m5⟩:=nPairs g3
  obtain⟨w,i6,e6,g6,m7,_,nw⟩:=hs i4 (i64 (d - 1)) g4 (by omega)
  have hz:=relZ_len a
  rw[if_pos c17,e3,zaf]
  dsimp only
  rw[e4,zaf]
  dsimp only
  rw[rPairsVal _ (by omega),zaf,e6,zaf]
  exact mk1 20 _ i6 (nh_20 nv nw) (by simp) g6 (by omega)
 rw[if_neg c17]
 by_cases c18:k=18
 .obtain⟨v,i3,e3,g3,m4,_,nv⟩:=hs i1 (i64 (d - 1)) g1 (by omega)
  obtain⟨a,i4,e4,g4,m5⟩:=nSet g3
  have hz:=setZ_len a
  rw[if_pos c18,e3,zaf]
  dsimp only
  rw[e4,zaf]
  dsimp only
  rw[rSetVal _ (by omega),zaf]
  exact mk1 14 _ i4 (nh_14 nv) (by simp) g4 (by omega)
 rw[if_neg c18]
 by_cases c19:k=19
 .obtain⟨v,i3,e3,g3,m4,_,nv⟩:=hs i1 (i64 (d - 1)) g1 (by omega)
  obtain⟨a,i4,e4,g4,m5⟩:=nPairs g3
  have hz:=relZ_len a
  rw[if_pos c19,e3,zaf]
  dsimp only
  rw[e4,zaf]
  dsimp only
  rw[rPairsVal _ (by omega),zaf]
  exact mk1 15 _ i4 (nh_15 nv) (by simp) g4 (by omega)
 rw[if_neg c19]
 by_cases c20:k=20
 .obtain⟨o,i3,e3,g3,m4,ol,_⟩:=nOrder g1
  obtain⟨v,i4,e4,g4,m5,_,nv⟩:=hs i3 (i64 (d - 1)) g3 (by omega)
  have loop: ∀(K:List (Int×Int)->Option TmR) (m j n:Nat) (out:List (Int×Int)),j+m=o.length->m<n->out.length+m≤100000000->zed (o,(l,i3)) K n out j=K (out++o.drop j):=by
   intro K m
   induction m with
   |zero=>
    intro j n out hi hn ho
    obtain⟨n,rfl⟩: ∃q,n=q+1:=⟨n - 1,by omega⟩
    rw[zed,zfg,if_neg (by dsimp only;omega),List.drop_eq_nil_of_le (by omega),List.append_nil]
   |succ m ih=>
    intro j n out hi hn ho
    obtain⟨n,rfl⟩: ∃q,n=q+1:=⟨n - 1,by omega⟩
    have hil:j<o.length:=by omega
    rw[zed,zfg]
    dsimp only
    rw[if_pos (by omega),zah (by omega),zah (by omega),zbv hil,zah (by simp;omega),zbl (by omega),ih (j+1) n _ (by omega) (by omega) (by simp;omega),List.drop_eq_getElem_cons hil,List.append_assoc];rfl
  rw[if_pos c20,e3,zaf,zbq]
  have e:=loop (λ s=>bnd1 (self (l,i3) (i64 (d - 1)) c) (λ y233=>bnd1 (zec s) (λ y234=>bnd1 (zbs 18 [y233.1,y234]) (λ y235=>some (y235,(y233.2.1,y233.2.2)))))) o.length 0 FU [] (by omega) (by omega) (by simp;omega)
  rw[Int.natCast_zero,List.drop_zero,List.nil_append]at e
  have fin:TNk l i (bnd1 (self (l,i3) (i64 (d - 1)) c) (λ y233=>bnd1 (zec o) (λ y234=>bnd1 (zbs 18 [y233.1,y234]) (λ y235=>some (y235,(y233.2.1,y233.2.2)))))):=by
   rw[e4,zaf,rPairsVal _ (by omega),zaf]
   exact mk1 18 _ i4 (nh_18 nv) (by simp) g4 (by omega)
  rw[←e]at fin
  exact fin
 rw[if_neg c20]
 obtain⟨v,i3,e3,g3,m4,_,nv⟩:=hs i1 (i64 (d - 1)) g1 (by omega)
 rw[e3,zaf]
 exact mk1 19 _ i3 (nh_19 nv) (by simp) g3 (by omega)
theorem termN_S (c:Int) (hc:0≤c/\c≤1000): ∀(r n:Nat),r<n-> ∀(l:List Int) (i d:Int),GSZ l i->(l.length:Int) - i≤r->TNk l i (zdx n (l,i) d c):=by
 intro r
 induction r with
 |zero=>
  intro n hn l i d hg hr
  obtain⟨n,rfl⟩: ∃q,n=q+1:=⟨n - 1,by omega⟩
  rw[zdx]
  exact termN_F _ c hc l i d hg (λ i2 d2 g2 h2=>by have:=g2.2.1;omega)
 |succ r ih=>
  intro n hn l i d hg hr
  obtain⟨n,rfl⟩: ∃q,n=q+1:=⟨n - 1,by omega⟩
  rw[zdx]
  exact termN_F _ c hc l i d hg (λ i2 d2 g2 h2=>ih n (by omega) l i2 d2 g2 (by omega))
theorem gTermN {l:List Int} {i:Int} (hg:GSZ l i) (d c:Int) (hc:0≤c/\c≤1000):TNk l i (zfx (l,i) d c):=by
 have hFU:=zeo
 obtain⟨g1,g2,g3⟩:=hg
 exact termN_S c hc l.length FU (by omega) l i d ⟨g1,g2,g3⟩ (by omega)
end
noncomputable section
attribute [local irreducible] FU keyF relF pKeys cKeys
theorem mkT_yes {op:Int} {l:List Vl} {k:Nat} (hk:k≤30) (hv: ∀x∈l,IsV (k+1) x) (hl:l.length≤1000) (hf:l.flatten.length≤100000) (ho:1≤op/\op≤21) (hb:tbody (tw 32) op l=true):
  mkT op l=raw 9 (intW op::l)/\IsV (k+2) (mkT op l)/\prtW (mkT op l)=intW op::l/\kindW (mkT op l)=9/\tmB (mkT op l)=true/\(mkT op l).length=l.flatten.length+12:=by
 have hfm:formedB 9 (intW op::l)=true:=by
  have:formedB 9 (intW op::l)=(decide (1≤(intW op::l).length) && betB (intW op) 1 21):=by simp[formedB,gi2_00]
  rw[this]
  unfold betB
  rw[numV_intW (by omega),show gi (intW op) 0=1 from rfl,decide_eq_true ho.1,decide_eq_true ho.2]
  simp
 obtain⟨q1,q2,q3,q4,q5⟩:=comp_ok (c:=9) (by decide) (k:=k+1) (by omega) (l:=intW op::l) (λ x hx=>by
  rcases List.mem_cons.1 hx with rfl|hx
  .exact intW_IsV _ _
  .exact hv x hx) (by rw[List.length_cons];omega) (by rw[List.flatten_cons,List.length_append,intW_len];omega) hfm
 have hk9:kindW (raw 9 (intW op::l))=9:=q4
 have ht:tmB (raw 9 (intW op::l))=true:=by
  unfold tmB
  rw[tw,tb,if_pos hk9,q3,show gi (intW op::l) 0=intW op from rfl,znh (by omega)]
  exact hb
 have e:mkT op l=raw 9 (intW op::l):=by unfold mkT;rw[q1,if_pos ht]
 rw[e]
 exact⟨rfl,q2,q3,hk9,ht,by rw[raw_len,List.flatten_cons,List.length_append,intW_len];omega⟩
theorem tbody_small (op:Int) (h:op=1∨op=2∨op=3∨op=4):tbody (tw 32) op []=true:=by unfold tbody;rw[if_pos h];rfl
theorem awake16:m_law16_awake=some true:=by
 obtain⟨a1,a2,a3,a4,a5,a6⟩:=mkT_yes (op:=1) (l:=[]) (k:=0) (by omega) (by simp) (by simp) (by simp) (by omega) (tbody_small 1 (.inl rfl))
 obtain⟨b1,b2,b3,b4,b5,b6⟩:=mkT_yes (op:=2) (l:=[]) (k:=0) (by omega) (by simp) (by simp) (by simp) (by omega) (tbody_small 2 (.inr (.inl rfl)))
 generalize hst:mkT 1 []=st at a1 a2 a3 a4 a5 a6
 generalize hsk:mkT 2 []=sk at b1 b2 b3 b4 b5 b6
 have ts:tw 32 st=true:=by rw[tw_same (λ _=>a2.le (by omega))];exact a5
 have tk:tw 32 sk=true:=by rw[tw_same (λ _=>b2.le (by omega))];exact b5
 have n2:numW (intW 2)=2:=znh (by omega)
 have n3:numW (intW 3)=3:=znh (by omega)
 have e2:evB (intW 2)=true:=by unfold evB;rw[kind_intW,n2];decide
 have e3:evB (intW 3)=true:=by unfold evB;rw[kind_intW,n3];decide
 have hlt:cmpO (2,sk) (3,st)<0:=cmpO_lt0.2 (.inl (by dsimp only;omega))
 have hso:sortO [(3,st),(2,sk)]=[(2,sk),(3,st)]:=(sortO_ext (l:=[(3,st),(2,sk)]) (s:=[(2,sk),(3,st)]) (by simp[hlt]) (λ x=>by simp[or_comm])).symm
 have hb:tbody (tw 32) 6 [intW 2,sk,intW 3,st]=true:=by
  unfold tbody
  rw[if_neg (by decide),if_neg (by decide),if_pos rfl]
  unfold offB
  simp only[prsChk,prsW,ascO,e2,e3,ts,tk,n2,n3,hlt]
  simp[ascO,hlt]
 obtain⟨p1,p2,p3,p4,p5,p6⟩:=mkT_yes (op:=6) (l:=[intW 2,sk,intW 3,st]) (k:=1) (by omega) (λ x hx=>by
  simp at hx
  rcases hx with rfl|rfl|rfl|rfl
  .exact intW_IsV _ _
  .exact b2
  .exact intW_IsV _ _
  .exact a2) (by simp) (by simp[intW_len,a6,b6]) (by omega) hb
 have hpre:preV [(3,st),(2,sk)]=mkT 6 [intW 2,sk,intW 3,st]:=by
  unfold preV prefS
  have hg:([(3,st),(2,sk)]:List Ofr).all goodO=true:=by
   simp[goodO,a5,b5]
  rw[if_pos hg,if_neg (by simp),hso];rfl
 have hstop:zjb=some st:=by rw[vStop,hst]
 have hskip:m_procterm_Skip=some sk:=by
  unfold m_procterm_Skip
  rw[vMade 2 [] (by simp) (by simp),zaf,hsk]
 have shs:Sh40 st:=by unfold Sh40;rw[a6];simp
 have shk:Sh40 sk:=by unfold Sh40;rw[b6];simp
 have hP:zfr [(3,st),(2,sk)]=some (mkT 6 [intW 2,sk,intW 3,st]):=by
  rw[vPreV _ (by simp) (λ x hx=>by simp at hx;rcases hx with rfl|rfl;exact shs;exact shk) (λ x hx=>by simp at hx;rcases hx with rfl|rfl <;>(unfold R64;dsimp only;omega)),hpre]
 generalize hpp:mkT 6 [intW 2,sk,intW 3,st]=pp at p1 p2 p3 p4 p5 p6 hP
 have hsplit:zem pp=some (6,[intW 2,sk,intW 3,st]):=by
  unfold zem
  rw[vKind,zaf,if_neg (λ h=>h p4),vPartsW,zaf,p3,zah (by simp),show gi (intW 6::[intW 2,sk,intW 3,st]) 0=intW 6 from rfl,vNum,zaf,zah (by simp),znh (by omega)];rfl
 have hoff:m_procterm_Offers pp=some [(2,sk),(3,st)]:=by
  unfold m_procterm_Offers zhc
  rw[vTerm,zaf,p5,if_neg (by simp),hsplit,zaf,zaf]
  dsimp only
  rw[if_neg (by simp),vPairUp _ (by simp) (by simp),zaf]
  simp only[prsW,n2,n3]
 have hhide:znm st [0]=some []:=by
  rw[vHide shs (by simp) (λ x hx=>by simp at hx;subst hx;unfold R64;omega)]
  have:sVal [0]=[]:=by unfold sVal;rw[if_neg (by decide)]
  rw[this,mk_vd (x:=[]) (by simp) nVd]
 unfold m_law16_awake
 rw[hstop,zaf,hskip,zaf,hP,zaf,hoff,zaf,zbq]
 unfold m_procterm_Valid m_procterm_Op
 rw[vTerm,zaf,zaf,p5,if_pos rfl,zaf,if_neg (by simp),hsplit,zaf,zaf]
 dsimp only
 rw[if_pos rfl,if_pos (by simp),zah (by simp),if_pos (by rfl),zah (by simp),rMakeT 2 [] (by simp),zaf,hsk,if_pos (by rfl),zaf,hhide,zaf];rfl
end
noncomputable section
attribute [local irreducible] FU keyF relF pKeys cKeys
theorem gHoled {l:List Int}: ∀(d n:Nat),d<n->d≤3-> ∀i,GSZ l i-> ∃v i',zje n (l,i) (d:Int)=some (v,(l,i'))/\GSZ l i':=by
 have hFU:=zeo
 intro d
 induction d with
 |zero=>
  intro n hn _ i hg
  obtain⟨n,rfl⟩: ∃q,n=q+1:=⟨n - 1,by omega⟩
  obtain⟨y,i1,e1,g1,_⟩:=nNext hg (n:=4) (by omega) (by omega)
  rw[zje,m_law16_holed_F,zbq,if_pos (by omega)]
  dsimp only
  rw[if_pos rfl,e1,zaf,rInt,zaf,rMakeT _ _ (by simp),zaf]
  exact⟨_,i1,rfl,g1⟩
 |succ d ih=>
  intro n hn hd i hg
  obtain⟨n,rfl⟩: ∃q,n=q+1:=⟨n - 1,by omega⟩
  obtain⟨y,i1,e1,g1,_⟩:=nNext hg (n:=4) (by omega) (by omega)
  rw[zje,m_law16_holed_F,zbq,if_neg (by omega)]
  dsimp only
  rw[e1,zaf]
  dsimp only
  by_cases hy:y=0
  .obtain⟨z,i2,e2,g2,_⟩:=nNext g1 (n:=4) (by omega) (by omega)
   rw[if_pos (decide_eq_true hy),e2,zaf,rInt,zaf,rMakeT _ _ (by simp),zaf]
   exact⟨_,i2,rfl,g2⟩
  .obtain⟨t,i2,e2,g2,_,_⟩:=gTerm g1 2 1 (by omega)
   rw[if_neg (λ h=>hy (of_decide_eq_true h)),e2,zaf]
   dsimp only
   rw[rOps,zaf]
   by_cases hz:((opsV t).length:Int)=0
   .rw[if_pos hz];exact⟨_,i2,rfl,g2⟩
   .have ht:tmB t=true:=by
     cases h:tmB t with
     |true=>rfl
     |false=>exact absurd (by unfold opsV;rw[h];rfl) hz
    have hol:=opsV_len t
    rw[if_neg hz,zbq]
    have ed:i64 (((d+1:Nat):Int) - 1)=(d:Int):=by rw[zfn (by omega)];omega
    have loop: ∀(K:List Int->Int->List Vl->Option TmR) (m j f:Nat) (os:List Vl) (i0:Int),os.length≤65535->j+m=os.length->m<f->GSZ l i0-> ∃os' i',os'.length=os.length/\zlv (zje n) ((d+1:Nat):Int) K f l i0 os j=K l i' os'/\GSZ l i':=by
     intro K m
     induction m with
     |zero=>
      intro j f os i0 hos hj hf hg
      obtain⟨f,rfl⟩: ∃q,f=q+1:=⟨f - 1,by omega⟩
      exact⟨os,i0,rfl,by rw[zlv,m_law16_holed_B2,if_neg (by omega)],hg⟩
     |succ m ihm=>
      intro j f os i0 hos hj hf hg
      obtain⟨f,rfl⟩: ∃q,f=q+1:=⟨f - 1,by omega⟩
      obtain⟨w,i3,e3,g3⟩:=ih n (by omega) (by omega) i0 hg
      obtain⟨os',i4,q1,q2,q3⟩:=ihm (j+1) f (os.set j w) i3 (by rw[List.length_set];omega) (by rw[List.length_set];omega) (by omega) g3
      refine⟨os',i4,by rw[q1,List.length_set], ?_,q3⟩
      rw[zlv,m_law16_holed_B2,if_pos (by omega),ed,e3,zaf,zah (by omega),zbl (by omega),Int.toNat_natCast]
      exact q2
    obtain⟨os',i3,q1,q2,q3⟩:=loop (λ x0 x1 x6=>bnd1 (m_ref16_With t x6) (λ y31=>some (y31,(x0,x1)))) (opsV t).length 0 FU (opsV t) i2 hol (by omega) (by omega) g2
    rw[Int.natCast_zero]at q2
    refine⟨withV t os',i3,q2.trans ?_,q3⟩
    rw[rWith ht _ q1,zaf]
theorem proctermReplaces_true (x0:Vl) (x1:List Vl) (x2:List Int) (_:x0.length≤maxLen) (_:x1.length≤maxLen/\ ∀x∈x1,x.length≤maxLen) (h2:x2.length≤maxLen/\ ∀x∈x2,(Lit.int .i64 x).wf=true):zjp x0 x1 x2=some true:=by
 have hFU:=zeo
 have g0:GSZ x2 0:=⟨by omega,by omega,by have:=h2.1;unfold maxLen at this;omega⟩
 obtain⟨t,i1,e1,g1⟩:=gHoled 3 FU (by omega) (by omega) 0 g0
 obtain⟨a,i2,e2,g2,_,_,na⟩:=gTermN g1 2 1 (by omega)
 obtain⟨b,i3,e3,g3,_,_,nb⟩:=gTermN g2 2 1 (by omega)
 obtain⟨c,i4,e4,g4,_,_,nc⟩:=gTermN g3 1 1 (by omega)
 obtain⟨d,i5,e5,g5,_,_,nd⟩:=gTermN g4 2 1 (by omega)
 obtain⟨y,i6,e6,g6,ya,yb,_⟩:=nNext g5 (n:=5) (by omega) (by omega)
 have hy:0≤Int.tmod y 4/\Int.tmod y 4<4:=by
  obtain⟨z,rfl⟩: ∃z:Nat,y=z:=⟨y.toNat,by omega⟩
  have:=tmod_nat z 4
  rw[show((4:Nat):Int)=4 from rfl]at this
  rw[this];omega
 have e1:m_law16_holed (x2,0) 3=some (t,(x2,i1)):=e1
 have etw:=repl_twice a b c d 32 (by omega) t (λ h=>(kind_vd (v:=t) (by omega)).1)
 have enr:NoH (repl [a,b,c,d] t):=nh_repl (λ x hx=>by
  simp at hx
  rcases hx with rfl|rfl|rfl|rfl <;>assumption) 32 (by omega) t (λ h=>(kind_vd (v:=t) (by omega)).1)
 have eid:repl [] (repl [a,b,c,d] t)=repl [a,b,c,d] t:=by
  cases ht:tmB (repl [a,b,c,d] t)with
  |true=>exact repl_noh enr [] ht
  |false=>
   rw[repl_no ht]
   have:repl [a,b,c,d] t=[]∨tmB (repl [a,b,c,d] t)=true:=by
    rw[repl_eq]
    unfold rbody
    split
    .split
     .unfold holeV
      split
      .rename_i h;exact .inr h.2
      .exact .inl rfl
     .split
      .by_cases q:preV ((prsW (agT t)).map (λ o=>(o.1,repl [a,b,c,d] o.2)))=[]
       .exact .inl q
       .right
        unfold preV prefS at q⊢
        split at q
        .rename_i hh
         rw[if_pos hh]
         split at q
         .rename_i h0;rw[if_pos h0];exact(mkT_parts (by unfold R64;omega) q).2.2
         .rename_i h0;rw[if_neg h0];exact(mkT_parts (by unfold R64;omega) q).2.2
        .exact absurd rfl q
      .rename_i ht2 _ _
       by_cases q:mkT (opT t) (mapP (repl [a,b,c,d]) (fm (opT t)) (agT t))=[]
       .exact .inl q
       .right
        obtain⟨_,_,_,_,o1,o2,_⟩:=zht ht2
        exact(mkT_parts (by unfold R64;omega) q).2.2
    .exact .inl rfl
   rcases this with h|h
   .exact h.symm
   .rw[ht]at h;cases h
 unfold zjp m_gen_New
 rw[zaf]
 dsimp only
 rw[e1,zaf];dsimp only
 rw[e2,zaf];dsimp only
 rw[e3,zaf];dsimp only
 rw[e4,zaf];dsimp only
 rw[e5,zaf];dsimp only
 rw[e6,zaf];dsimp only
 rw[rInt,zaf,rMakeT _ _ (by simp),zaf,rInt,zaf,rMakeT _ _ (by simp),zaf,rInt,zaf,rMakeT _ _ (by simp),zaf,rInt,zaf,rMakeT _ _ (by simp),zaf]
 rw[vRepl,zaf,vRepl,zaf,zah (by simp),zah (by simp),zah (by simp),zah (by simp)]
 rw[show gi [a,b,c,d] 3=d from rfl,show gi [a,b,c,d] 2=c from rfl,show gi [a,b,c,d] 1=b from rfl,show gi [a,b,c,d] 0=a from rfl]
 rw[show([mkT 21 [intW 3],mkT 21 [intW 2],mkT 21 [intW 1],mkT 21 [intW 0]]:List Vl)=hoL from rfl]
 rw[vRepl,zaf,zbq,awake16,zaf,if_pos rfl,vRepl,zaf,rRepl,zaf,if_pos rfl,vRepl,zaf,rRepl,zaf,if_pos rfl,zah (by simp;omega),vRepl,zaf,zah (by simp;omega),rRepl,zaf,if_pos rfl,rRepl,zaf,if_pos rfl,if_pos etw,vHoles enr,zaf,if_pos (by simp),vRepl,zaf,eid,decide_eq_true rfl]
end
noncomputable section
open Go.ChangeShapes Go.WideShapes Go.ChangeAt Go.RowKit
theorem o_api_Value:Opens Tryz.prog 22 1 (λ x:List UInt8=>[.exact (.string (bs x))]) (λ x=>x.length+1) (λ x=>x.length≤maxLen):=λ e0 W fuel cs y h=>(opens_str underlying22) e0 W fuel cs y h
theorem o_L_api_Value:Opens Tryz.prog 26 1 (λ xs:List (List UInt8)=>[.row 1 zaa xs]) (λ xs=>szL (λ x=>x.length+1) xs+1) (λ xs=>xs.length≤maxLen/\ ∀x∈xs,(λ x=>x.length≤maxLen) x):=λ e0 W fuel cs y h=>(opens_slice underlying26 (by kernel_rfl) (by decide) o_api_Value) e0 W fuel cs y h
theorem o_int:Opens Tryz.prog 3 1 (λ x:Int=>[.exact (.int .i64 x)]) (λ _=>1) (λ x=>(Lit.int .i64 x).wf=true):=λ e0 W fuel cs y h=>(opens_int underlying3) e0 W fuel cs y h
theorem o_L_int:Opens Tryz.prog 23 1 (λ xs:List Int=>[.row 1 zbf xs]) (λ xs=>szL (λ _=>1) xs+1) (λ xs=>xs.length≤maxLen/\ ∀x∈xs,(λ x=>(Lit.int .i64 x).wf=true) x):=λ e0 W fuel cs y h=>(opens_slice underlying23 (by kernel_rfl) (by decide) o_int) e0 W fuel cs y h
set_option maxRecDepth 100000 in
theorem proctermReplaces_lifted (os:Os) (started:os.Started) (H:Type) (enc:TypeId×Value->H):
  ReturnsInHanded {} Tryz.checked os 4 .any (Rows.proctermReplacesSpec.pre6 enc Tryz.prog Tryz.f4 Rows.proctermReplacesRow.domain false) (Rows.proctermReplacesSpec.post enc Tryz.prog Tryz.f4 false true false false):=by
 refine returnsInHanded_of_change (C:=Tryz.checked) Tryz.own started (by kernel_rfl) func4
  (ChangeSpec.witness6 (enc:=enc) (C:=Tryz.checked) false ⟨#[], #[.string ⟨#[]⟩, .slice none 0 0, .slice none 0 0],[]⟩ 8 (by kernel_rfl) (by kernel_rfl) (by kernel_rfl) (by kernel_rfl)) ?_
 intro W base args ds gs before hval0 hW hcnd _
 have hval: ∀(j:Nat) t v,Tryz.f4.params[j]?=some t->args[j]?=some v->Value.okWide Tryz.prog W .any base t v:=hval0
 have hW':=hW
 obtain⟨p,q,hA0,hV,rfl,hfz,hnd⟩:=hW
 have hA:DataW.TrodAll enc Tryz.prog W 0 (λ _=>true) true Tryz.f4.params.toList args.toList ds p:=hA0
 rw[Tryz.params4]at hA hval
 obtain⟨v0,vs0,d0,ds0,p0,q0,hargs,rfl,rfl,h0,r0⟩:=trodAll_cons hA
 obtain⟨v1,vs1,d1,ds1,p1,q1,rfl,rfl,rfl,h1,r1⟩:=trodAll_cons r0
 obtain⟨v2,vs2,d2,ds2,p2,q2,rfl,rfl,rfl,h2,r2⟩:=trodAll_cons r1
 obtain⟨rfl,rfl,rfl⟩:=trodAll_nil r2
 obtain rfl:args= #[v0,v1,v2]:=by cases args;simp_all
 obtain⟨rfl,rfl⟩:=trodVars_none hV
 clear hA0
 simp only[List.append_nil]at hW'
 have hlt:=hW'.lt
 obtain⟨x0,qq0,g0,s0⟩:=arg_open o_api_Value (plain_str underlying22 (hval 0 22 v0 rfl rfl)) h0
 obtain⟨x1,qq1,g1,s1⟩:=arg_open o_L_api_Value (plain_slice underlying26 (hval 1 26 v1 rfl rfl)) h1
 obtain⟨x2,qq2,g2,s2⟩:=arg_open o_L_int (plain_slice underlying23 (hval 2 23 v2 rfl rfl)) h2
 refine(Pure.call (m_law16_ProctermReplaces_ok x0 x1 x2 true (proctermReplaces_true x0 x1 x2 qq0 qq1 qq2)) (vs:=[v0,v1,v2]) ⟨g0.1,g1.1,g2.1,trivial⟩).mono λ e W' ⟨he,hb⟩=> ?_
 subst he
 exact⟨_,rfl,post_of_below (pa:=p0++(p1++(p2++[]))) (pv:=[]) hW' (λ _ _ _=>trodAll_cons_mk (shut_bool underlying4 true) trodAll_mk0)
  (λ sp hsp=>trodAll_cons_mk (trod_after (by kernel_rfl) (of_decide_eq_true (by kernel_rfl)) h0 hb (λ x hx=>hlt x (by simp[hx])) (λ x hx=>by simp[hx]) sp hsp) (trodAll_cons_mk (trod_after (by kernel_rfl) (of_decide_eq_true (by kernel_rfl)) h1 hb (λ x hx=>hlt x (by simp[hx])) (λ x hx=>by simp[hx]) sp hsp) (trodAll_cons_mk (trod_after (by kernel_rfl) (of_decide_eq_true (by kernel_rfl)) h2 hb (λ x hx=>hlt x (by simp[hx])) (λ x hx=>by simp[hx]) sp hsp) (trodAll_mk0))))
  (λ _ _=>rfl) (by simp) hb (ok_one (by kernel_rfl) rfl (okWide_bool_mk underlying4 true))⟩
theorem proctermReplaces_holds:Rows.ProctermReplacesSaid:=
 OpenClaim.holds_of_wide 4 Tryz.f4 rfl rfl rfl rfl rfl rfl rfl ⟨rfl,rfl,rfl,rfl,rfl⟩ rfl rfl rfl rfl rfl (by kernel_rfl) func4 (by kernel_rfl)
  (of_decide_eq_true (by kernel_rfl)) (by unfold Func.isWrapper;first|(rw[if_pos (by decide+kernel)];kernel_rfl)|(rw[if_neg (by decide+kernel)];exact⟨rfl,rfl⟩))
  (λ os started H enc _=>proctermReplaces_lifted os started H enc)
end
end Go.Proofs.YtloigebekdkijaaGreat
