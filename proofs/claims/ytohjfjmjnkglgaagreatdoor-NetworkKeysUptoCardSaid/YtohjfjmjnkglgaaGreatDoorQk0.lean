/- Parts, merged. -/
import GoSem.Core.View
import Derived.IntWalk
import Derived.Laws.RangeString
import Derived.Lib.ItoaNum
namespace Go.Proofs.YtohjfjmjnkglgaaGreatDoor
noncomputable section
def need (p:Prop) [Decidable p] {ρ:Type} (m:Option ρ):Option ρ:=if p then m else none
theorem zad {p:Prop} [Decidable p] {ρ:Type} {m:Option ρ} {r:ρ} (h:need p m=some r):p/\m=some r:=by
  unfold need at h;split at h
  . exact⟨‹_›,h⟩
  . cases h
theorem need_pos {p:Prop} [Decidable p] {ρ:Type} {m:Option ρ} (h:p):need p m=m:=if_pos h
def jn {κ ρ:Type} (k:κ) (m:κ->ρ):ρ:=m k
def bnd1 {α ρ:Type} (m:Option α) (k:α->Option ρ):Option ρ:=m.bind k
theorem zae {α ρ:Type} {m:Option α} {k:α->Option ρ} {r:ρ} (h:bnd1 m k=some r): ∃a,m=some a/\k a=some r:=by
  unfold bnd1 at h;exact Option.bind_eq_some_iff.1 h
theorem bnd1_eq {α ρ:Type} {m:Option α} {k:α->Option ρ} {a:α} (h:m=some a):bnd1 m k=k a:=by subst h;rfl
def nilc (p:Prop) {ρ:Type} (a b:Option ρ):Option ρ:=by
  classical exact if p then(if a=b then a else none)else b
theorem nilc_some {p:Prop} {ρ:Type} {a b:Option ρ} {r:ρ} (h:nilc p a b=some r):(p->a=some r)/\b=some r:=by
  unfold nilc at h
  split at h
  . split at h
    . rename_i e;exact⟨λ _=>h,e ▸ h⟩
    . cases h
  . rename_i hp;exact⟨λ h'=>absurd h' hp,h⟩
theorem zcg {p:Prop} [Decidable p] {ρ:Type} {a b:Option ρ} {r:ρ} (h:(if p then a else b)=some r) (hp:p):a=some r:=by rwa [if_pos hp]at h
theorem zcf {p:Prop} [Decidable p] {ρ:Type} {a b:Option ρ} {r:ρ} (h:(if p then a else b)=some r) (hp: ¬p):b=some r:=by rwa [if_neg hp]at h
def FU:Nat:=18446744073709551616
abbrev i64 (x:Int):Int:=IntKind.i64.wrap x
theorem i64_id {x:Int} (h: -9223372036854775808≤x/\x≤9223372036854775807):i64 x=x:=IntWalk.i64_in x (by omega)
def u8i (x:Int):UInt8:=UInt8.ofNat (IntKind.u8.wrap x).toNat
def gi {α:Type} [Inhabited α] (xs:List α) (i:Int):α:=(xs[i.toNat]?).getD default
theorem gi_get {α:Type} [Inhabited α] {xs:List α} {i:Int} (h0:0≤i) (h1:i<xs.length):xs[i.toNat]?=some (gi xs i):=by
  have:i.toNat<xs.length:=by omega
  simp[gi,List.getElem?_eq_getElem this]
theorem gi_nat {α:Type} [Inhabited α] {xs:List α} {i:Nat} (h:i<xs.length):gi xs (i:Int)=xs[i]:=by simp[gi,h]
def bOr (k:IntKind) (a b:Int):Int:=k.wrap ((BitVec.ofInt k.bits a |||BitVec.ofInt k.bits b).toNat:Int)
theorem wrap_u8n (x:Int):IntKind.u8.wrap x=x % 256:=by
  unfold IntKind.wrap IntKind.bits IntKind.signed
  simp
theorem u8i_eq (x:Int):IntKind.u8.wrap x=((u8i x).toNat:Int):=by
  unfold u8i
  rw[wrap_u8n]
  have:(x % 256).toNat<256:=by omega
  simp;omega
theorem u8_lt (a:UInt8):(a.toNat:Int)<256:=by have:=UInt8.toNat_lt a;omega
theorem wrap_u8 {k:IntKind} (hk:(k matches .i8)=false) (a:UInt8):k.wrap (a.toNat:Int)=(a.toNat:Int):=by
  have:=u8_lt a
  cases k <;>simp at hk <;>unfold IntKind.wrap IntKind.bits IntKind.signed <;>simp <;>omega
end
noncomputable section
inductive Nd where
  |nil
  |mk (op n:Int) (kids:List Nd)
instance:Inhabited Nd:=⟨.nil⟩
end
noncomputable section
def sNx (s:List UInt8) (pos:Nat):Nat:=if pos<s.length then pos+(Utf8.decode ⟨s.toArray⟩ pos).2 else pos
end
noncomputable section
section
variable {κ β:Type} [DecidableEq κ]
def lookL:List (κ×β)->κ->Option β
  |[],_=>none
  |x::l,k=>if x.1=k then some x.2 else lookL l k
def putL:List (κ×β)->κ->β->List (κ×β)
  |[],k,v=>[(k,v)]
  |x::l,k,v=>if x.1=k then(k,v)::l else x::putL l k v
end
section
variable {ξ σ ρ:Type}
end
end
noncomputable section
section
variable {α:Type}
def cfOf (c:α->α->Option Int) (x y:α):Int:=(c x y).getD 0
def ltC (c:α->α->Option Int) (x y:α):Bool:=decide (cfOf c x y<0)
def sortC (c:α->α->Option Int) (xs:List α):List α:=xs.mergeSort λ x y=> !ltC c y x
end
def sortI (xs:List Int):List Int:=xs.mergeSort λ x y=>decide (x≤y)
def m_sortI (xs:List Int):Option (List Int):=need (xs.length<4611686018427387904) (some (sortI xs))
end
noncomputable section
section
variable {α:Type}
structure CmpOn (S:α->Prop) (c:α->α->Option Int):Prop where
  all: ∀x y,S x->S y-> ∃r,c x y=some r
  irrefl: ∀x,S x->ltC c x x=false
  trans: ∀x y z,S x->S y->S z->ltC c x y=true->ltC c y z=true->ltC c x z=true
  ntrans: ∀x y z,S x->S y->S z->ltC c x y=false->ltC c y z=false->ltC c x z=false
  total: ∀x y,S x->S y->ltC c x y=false->ltC c y x=false->x=y
def m_sortbyOn (xs:List α) (c:α->α->Option Int):Option (List α):=by
  classical exact if xs.length<4611686018427387904/\CmpOn (λ x=>x∈xs) c then some (sortC c xs)else none
theorem m_sortbyOn_some {c:α->α->Option Int} {xs r:List α} (h:m_sortbyOn xs c=some r):xs.length<4611686018427387904/\CmpOn (λ x=>x∈xs) c/\r=sortC c xs:=by
  unfold m_sortbyOn at h
  split at h
  . rename_i hc;exact⟨hc.1,hc.2,(Option.some.inj h).symm⟩
  . cases h
theorem m_sortbyOn_eq {c:α->α->Option Int} {xs:List α} (hl:xs.length<4611686018427387904) (hc:CmpOn (λ x=>x∈xs) c):m_sortbyOn xs c=some (sortC c xs):=by
  unfold m_sortbyOn;rw[if_pos ⟨hl,hc⟩]
def m_sortR (c:α->α->Option Int) (xs:List α):Option (List α):=m_sortbyOn xs c
end
end
noncomputable section
end
noncomputable section
end
noncomputable section
abbrev ExC:=(List ((List UInt8)×Int×Bool×(Int×Int)×(List (Int×Int×Int))))×(List ((List UInt8)×Int×(List Int)×(List (List UInt8))))×(List (Int×Int×Int×Int×(Int×Int)))×(List (List UInt8))
abbrev ExP:=List UInt8×List UInt8×List Int×Bool
abbrev ExB:=ExC×List ExP×Int
def exKid (a:Nat) (k:Int) (l:List ExP):List ExP:=l.set a ((gi l (a:Int)).1,(gi l (a:Int)).2.1,(gi l (a:Int)).2.2.1++[k],(gi l (a:Int)).2.2.2)
def exSt (a:Nat) (k:Int) (l:List ExP):List ExP:=l.set a ((gi l (a:Int)).1,(gi l (a:Int)).2.1,(gi l (a:Int)).2.2.1,if(gi l (a:Int)).2.2.2=true then true else(gi l k).2.2.2)
def exKids (self:ExB->List UInt8->List (List UInt8)->Option (Int×ExB)) (v:List UInt8) (way:List (List UInt8)) (a:Nat):List (List UInt8)->ExB->Option ExB
  |[],b=>some b
  |x::os,b=>bnd1 (self b x (way++[v])) λ r=>need (0≤r.1/\r.1<(r.2.2.1.length:Int)/\a<r.2.2.1.length/\(gi r.2.2.1 (a:Int)).2.2.1.length<137438953472) (exKids self v way a os (r.2.1,exSt a r.1 (exKid a r.1 r.2.2.1),r.2.2.2))
section
variable (fop:List UInt8->Option Int) (fhd:ExC->List UInt8->Option (List UInt8×Int)) (fstr fpar:Int->Option Bool) (fos:List UInt8->Option (List (List UInt8)))
def m_exam_F (self:ExB->List UInt8->List (List UInt8)->Option (Int×ExB)) (b:ExB) (v:List UInt8) (way:List (List UInt8)):Option (Int×ExB):=
  need (way.length<137438953472/\b.2.1.length<137438953472)<|bnd1 (fop v) λ o=>
  if(o=5/\v∈way)∨(32:Int)≤(way.length:Int)∨64≤b.2.2 then some ((b.2.1.length:Int),(b.1,b.2.1++[(v,[],[],false)],b.2.2))else
  bnd1 (fhd b.1 v) λ h=>if¬h.2=0 then some ((b.2.1.length:Int),(b.1,b.2.1++[(v,[],[],false)],i64 (b.2.2+1)))else
  bnd1 (fop h.1) λ o2=>bnd1 (fstr o2) λ s=>if¬s=true then some ((b.2.1.length:Int),(b.1,b.2.1++[(v,[],[],false)],i64 (b.2.2+1)))else
  bnd1 (fpar o2) λ p=>bnd1 (fos h.1) λ os=>need (os.length<137438953472)<|
  bnd1 (exKids self v way b.2.1.length os (b.1,b.2.1++[(v,h.1,[],p)],i64 (b.2.2+1))) λ b'=>some ((b.2.1.length:Int),b')
def m_exam_S:Nat->ExB->List UInt8->List (List UInt8)->Option (Int×ExB)
  |0=>λ _ _ _=>none
  |n+1=>m_exam_F fop fhd fstr fpar fos (m_exam_S n)
def m_examine (b:ExB) (v:List UInt8) (way:List (List UInt8)):Option (Int×ExB):=need (b.2.1=[]) (m_exam_S fop fhd fstr fpar fos FU b v way)
end
end
noncomputable section
end
noncomputable section
end
noncomputable section
def keyL (s:List Int):List UInt8:=s.flatMap (λ n=>Lib.itoa n++[44])
def m_key (s:List Int):Option (List UInt8):=need (s.length≤4294967296/\ ∀n∈s, -9223372036854775808≤n/\n≤9223372036854775807) (some (keyL s))
end
noncomputable section
def insE (x:Int):List Int->List Int
  |[]=>[x]
  |y::l=>if x≤y then x::y::l else y::insE x l
def sortE:List Int->List Int
  |[]=>[]
  |x::l=>insE x (sortE l)
theorem insE_perm (x:Int): ∀l:List Int,(insE x l).Perm (x::l)
  |[]=> .refl _
  |y::l=>by
    rw[insE]
    split
    . exact .refl _
    . exact((insE_perm x l).cons y).trans (.swap x y l)
theorem sortE_perm: ∀l:List Int,(sortE l).Perm l
  |[]=> .refl _
  |x::l=>(insE_perm x _).trans ((sortE_perm l).cons x)
theorem insE_pw (x:Int): ∀l:List Int,l.Pairwise (λ a b=>a≤b)->(insE x l).Pairwise (λ a b=>a≤b)
  |[],_=>List.pairwise_singleton _ _
  |y::l,h=>by
    rw[insE]
    have h1:=List.pairwise_cons.1 h
    split
    . rename_i hxy
      refine List.pairwise_cons.2 ⟨λ z hz=> ?_,h⟩
      rcases List.mem_cons.1 hz with rfl|hz
      . exact hxy
      . have:=h1.1 z hz;omega
    . refine List.pairwise_cons.2 ⟨λ z hz=> ?_,insE_pw x l h1.2⟩
      rcases List.mem_cons.1 ((insE_perm x l).mem_iff.1 hz)with rfl|hz
      . omega
      . exact h1.1 z hz
theorem sortE_pw: ∀l:List Int,(sortE l).Pairwise (λ a b=>a≤b)
  |[]=>List.Pairwise.nil
  |x::l=>insE_pw x _ (sortE_pw l)
theorem sort_uniq: ∀{l m:List Int},l.Pairwise (λ a b=>a≤b)->m.Pairwise (λ a b=>a≤b)->l.Perm m->l=m
  |[],m,_,_,hp=>(List.nil_perm.1 hp).symm
  |x::l,[],_,_,hp=>absurd hp.length_eq (by simp)
  |x::l,y::m,hl,hm,hp=>by
    have h1:=List.pairwise_cons.1 hl
    have h2:=List.pairwise_cons.1 hm
    have e:x=y:=by
      have a1:x∈y::m:=hp.mem_iff.1 List.mem_cons_self
      have a2:y∈x::l:=hp.mem_iff.2 List.mem_cons_self
      rcases List.mem_cons.1 a1 with h|h
      . exact h
      . rcases List.mem_cons.1 a2 with g|g
        . exact g.symm
        . have:=h2.1 x h;have:=h1.1 y g;omega
    subst e
    rw[sort_uniq h1.2 h2.2 (List.Perm.cons_inv hp)]
theorem sortE_eq (l:List Int):sortE l=sortI l:=by
  refine sort_uniq (sortE_pw l) ?_ ((sortE_perm l).trans (List.mergeSort_perm l _).symm)
  unfold sortI
  have:=List.pairwise_mergeSort (le:=λ x y:Int=>decide (x≤y)) (λ a b c h1 h2=>by simp only[decide_eq_true_eq]at *;omega) (λ a b=>by simp only[Bool.or_eq_true,decide_eq_true_eq];omega) l
  exact this.imp (λ h=>of_decide_eq_true h)
def m_sortE (xs:List Int):Option (List Int):=need (xs.length<4611686018427387904) (some (sortE xs))
theorem m_sortE_I (xs:List Int):m_sortE xs=m_sortI xs:=by unfold m_sortE m_sortI;rw[sortE_eq]
def nilcD (p:Prop) [Decidable p] {ρ:Type} (a b:Option ρ):Option ρ:=if p then nilc p a b else b
theorem nilcD_some {p:Prop} [Decidable p] {ρ:Type} {a b:Option ρ} {r:ρ} (h:nilcD p a b=some r):(p->a=some r)/\b=some r:=by
  unfold nilcD at h
  split at h
  . exact nilc_some h
  . rename_i hp;exact⟨λ h'=>absurd h' hp,h⟩
end
end Go.Proofs.YtohjfjmjnkglgaaGreatDoor
