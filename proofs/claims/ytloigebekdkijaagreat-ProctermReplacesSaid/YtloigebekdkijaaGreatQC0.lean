/- Parts, merged. -/
import GoSem.Core.View
import Derived.IntWalk
import Derived.Laws.RangeString
namespace Go.Proofs.YtloigebekdkijaaGreat
noncomputable section
def need (p:Prop) [Decidable p] {ρ:Type} (m:Option ρ):Option ρ:=if p then m else none
theorem zag {p:Prop} [Decidable p] {ρ:Type} {m:Option ρ} {r:ρ} (h:need p m=some r):p/\m=some r:=by
  unfold need at h;split at h
  . exact⟨‹_›,h⟩
  . cases h
theorem zah {p:Prop} [Decidable p] {ρ:Type} {m:Option ρ} (h:p):need p m=m:=if_pos h
def jn {κ ρ:Type} (k:κ) (m:κ->ρ):ρ:=m k
def bnd1 {α ρ:Type} (m:Option α) (k:α->Option ρ):Option ρ:=m.bind k
theorem zac {α ρ:Type} {m:Option α} {k:α->Option ρ} {r:ρ} (h:bnd1 m k=some r): ∃a,m=some a/\k a=some r:=by
  unfold bnd1 at h;exact Option.bind_eq_some_iff.1 h
def nilc (p:Prop) {ρ:Type} (a b:Option ρ):Option ρ:=by
  classical exact if p then(if a=b then a else none)else b
theorem nilc_some {p:Prop} {ρ:Type} {a b:Option ρ} {r:ρ} (h:nilc p a b=some r):(p->a=some r)/\b=some r:=by
  unfold nilc at h
  split at h
  . split at h
    . rename_i e;exact⟨λ _=>h,e ▸ h⟩
    . cases h
  . rename_i hp;exact⟨λ h'=>absurd h' hp,h⟩
theorem nilc_eq {p:Prop} {ρ:Type} {a b:Option ρ} (h:p->a=b):nilc p a b=b:=by
  unfold nilc
  split
  . rename_i hp;rw[if_pos (h hp),h hp]
  . rfl
theorem zdb {p:Prop} [Decidable p] {ρ:Type} {a b:Option ρ} {r:ρ} (h:(if p then a else b)=some r) (hp:p):a=some r:=by rwa [if_pos hp]at h
theorem zdc {p:Prop} [Decidable p] {ρ:Type} {a b:Option ρ} {r:ρ} (h:(if p then a else b)=some r) (hp: ¬p):b=some r:=by rwa [if_neg hp]at h
def FU:Nat:=18446744073709551616
abbrev i64 (x:Int):Int:=IntKind.i64.wrap x
theorem zfn {x:Int} (h: -9223372036854775808≤x/\x≤9223372036854775807):i64 x=x:=IntWalk.i64_in x (by omega)
def u8i (x:Int):UInt8:=UInt8.ofNat (IntKind.u8.wrap x).toNat
def gi {α:Type} [Inhabited α] (xs:List α) (i:Int):α:=(xs[i.toNat]?).getD default
theorem gi_get {α:Type} [Inhabited α] {xs:List α} {i:Int} (h0:0≤i) (h1:i<xs.length):xs[i.toNat]?=some (gi xs i):=by
  have:i.toNat<xs.length:=by omega
  simp[gi,List.getElem?_eq_getElem this]
theorem zbv {α:Type} [Inhabited α] {xs:List α} {i:Nat} (h:i<xs.length):gi xs (i:Int)=xs[i]:=by simp[gi,h]
def bOr (k:IntKind) (a b:Int):Int:=k.wrap ((BitVec.ofInt k.bits a |||BitVec.ofInt k.bits b).toNat:Int)
def ltB:List UInt8->List UInt8->Bool
  |_,[]=>false
  |[],_::_=>true
  |a::x,b::y=>a<b ||(a ==b && ltB x y)
abbrev ltS (a b:List UInt8):Prop:=ltB a b=true
theorem wrap_u8n (x:Int):IntKind.u8.wrap x=x % 256:=by
  unfold IntKind.wrap IntKind.bits IntKind.signed
  simp
theorem u8i_eq (x:Int):IntKind.u8.wrap x=((u8i x).toNat:Int):=by
  unfold u8i
  rw[wrap_u8n]
  have:(x % 256).toNat<256:=by omega
  simp;omega
theorem u8_lt (a:UInt8):(a.toNat:Int)<256:=by have:=UInt8.toNat_lt a;omega
theorem zjx {k:IntKind} (hk:(k matches .i8)=false) (a:UInt8):k.wrap (a.toNat:Int)=(a.toNat:Int):=by
  have:=u8_lt a
  cases k <;>simp at hk <;>unfold IntKind.wrap IntKind.bits IntKind.signed <;>simp <;>omega
end
noncomputable section
inductive Nd where
  |nil
  |mk (op n:Int) (kids:List Nd)
instance:Inhabited Nd:=⟨.nil⟩
end
noncomputable section
def sNx (s:List UInt8) (pos:Nat):Nat:=if pos<s.length then pos+(Utf8.decode ⟨s.toArray⟩ pos).2 else pos
theorem sNx_ascii {s:List UInt8} {pos:Nat} (h:pos<s.length) (ha:(s[pos]'h).toNat<128):sNx s pos=pos+1:=by
 unfold sNx
 rw[if_pos h,decode_ascii ⟨s.toArray⟩ pos (by simpa[ByteArray.size]using h) ha]
end
noncomputable section
section
variable {α:Type}
def cfOf (c:α->α->Option Int) (x y:α):Int:=(c x y).getD 0
def ltC (c:α->α->Option Int) (x y:α):Bool:=decide (cfOf c x y<0)
structure CmpOk (c:α->α->Option Int):Prop where
  all: ∀x y, ∃r,c x y=some r
  irrefl: ∀x,ltC c x x=false
  trans: ∀x y z,ltC c x y=true->ltC c y z=true->ltC c x z=true
  ntrans: ∀x y z,ltC c x y=false->ltC c y z=false->ltC c x z=false
  total: ∀x y,ltC c x y=false->ltC c y x=false->x=y
def sortC (c:α->α->Option Int) (xs:List α):List α:=xs.mergeSort λ x y=> !ltC c y x
def m_sortby (c:α->α->Option Int) (xs:List α):Option (List α):=by
  classical exact if xs.length<4611686018427387904/\CmpOk c then some (sortC c xs)else none
theorem m_sortby_some {c:α->α->Option Int} {xs r:List α} (h:m_sortby c xs=some r):xs.length<4611686018427387904/\CmpOk c/\r=sortC c xs:=by
  unfold m_sortby at h
  split at h
  . rename_i hc;exact⟨hc.1,hc.2,(Option.some.inj h).symm⟩
  . cases h
theorem m_sortby_eq {c:α->α->Option Int} {xs:List α} (hl:xs.length<4611686018427387904) (hc:CmpOk c):m_sortby c xs=some (sortC c xs):=by
  unfold m_sortby;rw[if_pos ⟨hl,hc⟩]
end
def sortI (xs:List Int):List Int:=xs.mergeSort λ x y=>decide (x≤y)
def m_sortI (xs:List Int):Option (List Int):=need (xs.length<4611686018427387904) (some (sortI xs))
end
noncomputable section
def cG (l:List (Int×Int)) (k:Int):List Int:=(l.filter (λ p=>decide (p.1=k))).map (λ p=>p.2)
def cReach (g:Int->List Int):Nat->List Int->List Int->Option (List Int)
  |0,_,_=>none
  |_+1,out,[]=>some out
  |n+1,out,e::q=>if e∈out then cReach g n out q else need (q.length+(g e).length≤137438953472/\out.length+1≤137438953472) (cReach g n (out++[e]) (q++g e))
def cR (l:List (Int×Int)) (k:Int):Option (List Int):=cReach (cG l) FU [] (cG l k)
def cRd (l:List (Int×Int)) (k:Int):List Int:=(cR l k).getD []
def cKeys:List Int:=(List.range 1024).map (λ i:Nat=>(i:Int)+2)
def cP (l:List (Int×Int)):List (Int×Int):=cKeys.flatMap (λ k=>(cRd l k).map (λ e=>(k,e)))
abbrev cVis (x:Int):Prop:=2≤x/\x<1026
def pcmp (x y:Int×Int):Option Int:=some (if x.1<y.1 then -1 else if y.1<x.1 then 1 else if x.2<y.2 then -1 else if y.2<x.2 then 1 else 0)
def m_close (l:List (Int×Int)):Option (List (Int×Int)×Int):=by
  classical exact
    if l.length≤137438953472 then
      if∃p∈l, ¬(cVis p.1/\cVis p.2)then some ([],1)
      else if(∀k,(cR l k).isSome=true)/\(cP l).length≤137438953472 then
        if∃k,k∈cRd l k then some ([],14)else some (sortC pcmp (cP l),0)
      else none
    else none
theorem pcmp_lt (x y:Int×Int):ltC pcmp x y=true↔x.1<y.1∨(x.1=y.1/\x.2<y.2):=by
  unfold ltC cfOf pcmp
  rw[decide_eq_true_iff]
  simp only[Option.getD_some]
  split
  . omega
  . split
    . omega
    . split
      . omega
      . split <;>omega
theorem pcmp_ltF (x y:Int×Int):ltC pcmp x y=false↔ ¬(x.1<y.1∨(x.1=y.1/\x.2<y.2)):=by
  rw[←pcmp_lt];simp
theorem pcmp_ok:CmpOk pcmp where
  all:=λ x y=>⟨_,rfl⟩
  irrefl:=λ x=>by rw[pcmp_ltF];omega
  trans:=λ x y z h1 h2=>by rw[pcmp_lt]at *;omega
  ntrans:=λ x y z h1 h2=>by rw[pcmp_ltF]at *;omega
  total:=λ x y h1 h2=>by
    rw[pcmp_ltF]at*
    exact Prod.ext (by omega) (by omega)
theorem le_pcmp (x y:Int×Int):(!ltC pcmp y x)=true↔ ¬(y.1<x.1∨(y.1=x.1/\y.2<x.2)):=by
  rw[←pcmp_ltF];simp
theorem sortC_pcmp_perm {a b:List (Int×Int)} (h:a.Perm b):sortC pcmp a=sortC pcmp b:=by
  unfold sortC
  refine List.Perm.eq_of_pairwise (le:=λ x y=>(!ltC pcmp y x)=true) (λ x y _ _ h1 h2=> ?_) ?_ ?_ ?_
  . rw[le_pcmp]at*
    exact Prod.ext (by omega) (by omega)
  . exact List.pairwise_mergeSort (λ a b c h1 h2=>by rw[le_pcmp]at *;omega) (λ a b=>by
      rw[Bool.or_eq_true,le_pcmp,le_pcmp];omega) _
  . exact List.pairwise_mergeSort (λ a b c h1 h2=>by rw[le_pcmp]at *;omega) (λ a b=>by
      rw[Bool.or_eq_true,le_pcmp,le_pcmp];omega) _
  . exact((List.mergeSort_perm a _).trans h).trans (List.mergeSort_perm b _).symm
theorem cReach_nodup {g:Int->List Int}: ∀(n:Nat) (out q r:List Int),out.Nodup->cReach g n out q=some r->r.Nodup
  |0,_,_,_,_,h=>by cases h
  |_+1,out,[],r,hn,h=>by cases h;exact hn
  |n+1,out,e::q,r,hn,h=>by
    rw[cReach]at h
    split at h
    . exact cReach_nodup n _ _ _ hn h
    . rename_i he
      obtain⟨_,h⟩:=zag h
      refine cReach_nodup n _ _ _ ?_ h
      rw[List.nodup_append]
      refine⟨hn,by simp,λ a ha b hb=> ?_⟩
      simp at hb;subst hb
      exact λ e'=>he (e' ▸ ha)
theorem nodup_leZ {α:Type} [BEq α] [LawfulBEq α]: ∀{l m:List α},l.Nodup->(∀x∈l,x∈m)->l.length≤m.length
  |[],_,_,_=>Nat.zero_le _
  |a::l,m,hn,h=>by
    have ha:=h a List.mem_cons_self
    rw[List.nodup_cons]at hn
    have:=nodup_leZ (l:=l) (m:=m.erase a) hn.2 (λ x hx=>(List.mem_erase_of_ne (λ e=>hn.1 (by rw[←e];exact hx))).2 (h x (List.mem_cons_of_mem _ hx)))
    rw[List.length_erase_of_mem ha]at this
    have:=List.length_pos_of_mem ha
    simp;omega
theorem perm_of_nodupZ {α:Type} [BEq α] [LawfulBEq α]: ∀{l m:List α},l.Nodup->m.Nodup->(∀x,x∈l↔x∈m)->l.Perm m
  |[],m,_,_,h=>by
    have:m=[]:=List.eq_nil_iff_forall_not_mem.2 (λ x hx=>by have:=(h x).2 hx;cases this)
    rw[this]
  |a::l,m,hn,hm,h=>by
    have ha:=(h a).1 List.mem_cons_self
    rw[List.nodup_cons]at hn
    refine((perm_of_nodupZ (l:=l) (m:=m.erase a) hn.2 (hm.erase a) (λ x=> ?_)).cons a).trans (List.perm_cons_erase ha).symm
    rw[hm.mem_erase_iff]
    constructor
    . intro hx;exact⟨λ e=>hn.1 (e ▸ hx),(h x).1 (List.mem_cons_of_mem _ hx)⟩
    . rintro ⟨h1,h2⟩
      rcases List.mem_cons.1 ((h x).2 h2)with e|e
      . exact absurd e h1
      . exact e
def cQ (l:List (Int×Int)) (ks:List Int):List (Int×Int):=ks.flatMap (λ k=>(cRd l k).map (λ e=>(k,e)))
theorem cRd_nodup (l:List (Int×Int)) (k:Int):(cRd l k).Nodup:=by
  unfold cRd
  cases h:cR l k with
  |none=>exact List.nodup_nil
  |some r=>exact cReach_nodup _ _ _ _ List.nodup_nil h
theorem cQ_mem {l:List (Int×Int)} {ks:List Int} {p:Int×Int}:p∈cQ l ks↔p.1∈ks/\p.2∈cRd l p.1:=by
  unfold cQ
  rw[List.mem_flatMap]
  constructor
  . rintro ⟨k,hk,hp⟩
    obtain⟨e,he,rfl⟩:=List.mem_map.1 hp
    exact⟨hk,he⟩
  . rintro ⟨h1,h2⟩
    exact⟨_,h1,List.mem_map.2 ⟨_,h2,rfl⟩⟩
theorem cQ_nodup (l:List (Int×Int)): ∀{ks:List Int},ks.Nodup->(cQ l ks).Nodup
  |[],_=>List.nodup_nil
  |k::ks,h=>by
    rw[List.nodup_cons]at h
    show((cRd l k).map (λ e=>(k,e))++cQ l ks).Nodup
    rw[List.nodup_append]
    refine⟨?_,cQ_nodup l h.2, ?_⟩
    . rw[List.nodup_iff_pairwise_ne,List.pairwise_map]
      exact(List.nodup_iff_pairwise_ne.1 (cRd_nodup l k)).imp (λ hab e=>hab (by injection e))
    . intro a ha b hb hab
      subst hab
      obtain⟨e,_,rfl⟩:=List.mem_map.1 ha
      exact h.1 (cQ_mem.1 hb).1
theorem cKeys_mem {k:Int}:k∈cKeys↔cVis k:=by
  unfold cKeys cVis
  rw[List.mem_map]
  constructor
  . rintro ⟨i,hi,rfl⟩;rw[List.mem_range]at hi;omega
  . rintro ⟨h1,h2⟩;exact⟨(k - 2).toNat,by rw[List.mem_range];omega,by omega⟩
theorem cKeys_nodup:cKeys.Nodup:=by
  unfold cKeys
  rw[List.nodup_iff_pairwise_ne,List.pairwise_map]
  exact(List.nodup_iff_pairwise_ne.1 List.nodup_range).imp (λ {a b} hab e=>hab (by have e':(a:Int)+2=(b:Int)+2:=e;omega))
end
noncomputable section
def rFrom (R:List (Int×Int)) (p:Int×Int):List (Int×Int):=(R.filter (λ q=>decide (p.2=q.1))).map (λ q=>(p.1,q.2))
def rStep (R:List (Int×Int)):List (Int×Int):=R.flatMap (rFrom R)
def rIter (rel:List (Int×Int)->Option (List (Int×Int))):Nat->List (Int×Int)->Option (List (Int×Int))
  |0,_=>none
  |n+1,R=>need ((R++rStep R).length≤137438953472) (bnd1 (rel (R++rStep R)) (λ N=>if R.length<N.length then rIter rel n N else some N))
def m_rclose (rel:List (Int×Int)->Option (List (Int×Int))) (l:List (Int×Int)):Option (List (Int×Int)×Int):=by
  classical
  exact(need (l.length≤137438953472) (if∃p∈l, ¬(cVis p.1/\cVis p.2)then some ([],1)else bnd1 (rel l) (λ R=>bnd1 (rIter rel FU R) (λ N=>need (N.length≤137438953472) (if∃p∈N,p.1=p.2 then some ([],14)else some (N,0))))))
end
end Go.Proofs.YtloigebekdkijaaGreat
