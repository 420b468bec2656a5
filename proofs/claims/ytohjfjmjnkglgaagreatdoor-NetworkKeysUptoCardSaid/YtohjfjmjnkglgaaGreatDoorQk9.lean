/- Part of a merged text. -/
import Derived.Test.YtohjfjmjnkglgaaGreatDoorQk4
import Derived.Test.YtohjfjmjnkglgaaGreatDoorQk0
import Derived.Test.YtohjfjmjnkglgaaGreatDoorQk3
import Derived.Test.YtohjfjmjnkglgaaGreatDoorCards
import Derived.Test.YtohjfjmjnkglgaaGreatDoorChecked
import Derived.JoinedCond
import Derived.SevenTiedAt
import Derived.Test.YtohjfjmjnkglgaaGreatDoorQk7
import Derived.LaidMore
import Derived.Deep.DeepWitnessRowRef
import Derived.Deep.DeepHandedRow
import Derived.Stop.Joined
import Derived.Test.YtohjfjmjnkglgaaGreatDoorTie
import Derived.Test.YtohjfjmjnkglgaaGreatDoorQk8
namespace Go.Proofs.YtohjfjmjnkglgaaGreatDoor
open _root_.Go.Proofs.Tryz
noncomputable section
def dvl (l:List UInt8):Nat:=l.foldl (λ a d=>10*a+(d.toNat - 48)) 0
theorem dd_eq (u:Nat):Lib.decDigits u=if u<10 then[UInt8.ofNat (48+u)]else Lib.decDigits (u / 10)++[UInt8.ofNat (48+u % 10)]:=by
  rw[Lib.decDigits]
  split <;>rfl
theorem dd_dig: ∀(k u:Nat),u≤k-> ∀d∈Lib.decDigits u,48≤d.toNat/\d.toNat≤57:=by
  intro k
  induction k with
  |zero=>
    intro u hu d hd
    rw[dd_eq,if_pos (by omega)]at hd
    rw[List.mem_singleton.1 hd,UInt8.toNat_ofNat']
    omega
  |succ k ih=>
    intro u hu d hd
    rw[dd_eq]at hd
    split at hd
    . rw[List.mem_singleton.1 hd,UInt8.toNat_ofNat'];omega
    . rcases List.mem_append.1 hd with h|h
      . exact ih (u / 10) (by omega) d h
      . rw[List.mem_singleton.1 h,UInt8.toNat_ofNat'];omega
theorem dd_val: ∀(k u:Nat),u≤k->dvl (Lib.decDigits u)=u:=by
  intro k
  induction k with
  |zero=>
    intro u hu
    rw[dd_eq,if_pos (by omega)]
    simp only[dvl,List.foldl_cons,List.foldl_nil,UInt8.toNat_ofNat']
    omega
  |succ k ih=>
    intro u hu
    rw[dd_eq]
    split
    . simp only[dvl,List.foldl_cons,List.foldl_nil,UInt8.toNat_ofNat'];omega
    . have:=ih (u / 10) (by omega)
      unfold dvl at this⊢
      rw[List.foldl_append,this]
      simp only[List.foldl_cons,List.foldl_nil,UInt8.toNat_ofNat']
      omega
theorem dd_inj {u v:Nat} (h:Lib.decDigits u=Lib.decDigits v):u=v:=by
  rw[←dd_val u u (Nat.le_refl _),h,dd_val v v (Nat.le_refl _)]
theorem it_no (n:Int): ∀d∈Lib.itoa n,d.toNat=45∨(48≤d.toNat/\d.toNat≤57):=by
  intro d hd
  unfold Lib.itoa at hd
  split at hd
  . rcases List.mem_cons.1 hd with h|h
    . left;rw[h];rfl
    . exact .inr (dd_dig _ _ (Nat.le_refl _) d h)
  . exact .inr (dd_dig _ _ (Nat.le_refl _) d hd)
theorem it_inj {a b:Int} (h:Lib.itoa a=Lib.itoa b):a=b:=by
  unfold Lib.itoa at h
  have no45: ∀u t,Lib.decDigits u=45::t->False:=λ u t e=>by
    have:=(dd_dig u u (Nat.le_refl _) 45 (by rw[e];exact List.mem_cons_self)).1
    revert this;decide
  split at h <;>split at h
  . have:=dd_inj (List.cons.inj h).2;omega
  . exact(no45 _ _ h.symm).elim
  . exact(no45 _ _ h).elim
  . have:=dd_inj h;omega
theorem split44: ∀{p q r s:List UInt8},(44:UInt8)∉p->(44:UInt8)∉q->p++44::r=q++44::s->p=q/\r=s
  |[],[],_,_,_,_,h=>⟨rfl,(List.cons.inj h).2⟩
  |[],y::q,_,_,_,hq,h=>(hq (by rw[(List.cons.inj h).1];exact List.mem_cons_self)).elim
  |x::p,[],_,_,hp,_,h=>(hp (by rw[←(List.cons.inj h).1];exact List.mem_cons_self)).elim
  |x::p,y::q,_,_,hp,hq,h=>by
    obtain⟨e,h⟩:=List.cons.inj h
    obtain⟨e1,e2⟩:=split44 (λ m=>hp (List.mem_cons_of_mem _ m)) (λ m=>hq (List.mem_cons_of_mem _ m)) h
    exact⟨by rw[e,e1],e2⟩
theorem it_44 (n:Int):(44:UInt8)∉Lib.itoa n:=λ h=>by
  have:=it_no n 44 h
  revert this;decide
theorem keyL_cons (x:Int) (l:List Int):keyL (x::l)=Lib.itoa x++44::keyL l:=by
  unfold keyL;rw[List.flatMap_cons,List.append_assoc];rfl
theorem key_inj: ∀{a b:List Int},keyL a=keyL b->a=b
  |[],[],_=>rfl
  |[],y::b,h=>by rw[keyL_cons]at h;exact absurd h (by simp[keyL])
  |x::a,[],h=>by rw[keyL_cons]at h;exact absurd h (by simp[keyL])
  |x::a,y::b,h=>by
    rw[keyL_cons,keyL_cons]at h
    obtain⟨e1,e2⟩:=split44 (it_44 x) (it_44 y) h
    rw[it_inj e1,key_inj e2]
theorem key_iff {a b:List Int}:keyL a=keyL b↔a=b:=⟨key_inj,λ h=>by rw[h]⟩
theorem key_zero (a:List Int): ¬keyL (a++[0])=keyL a:=λ h=>by
  have:=congrArg List.length (key_inj h)
  simp at this
end
noncomputable section
set_option maxRecDepth 100000
theorem FU_big:18446744073709551616≤FU:=Nat.le_refl _
attribute [local irreducible] FU
theorem eq_loop (a b:List Int) (hl:a.length=b.length) (ha:a.length≤1048576) (K:Unit->Option Bool): ∀(m i n:Nat),i+m=a.length->m<n->zfc a b K n (i:Int)=if a.drop i=b.drop i then K ()else some false:=by
  intro m
  induction m with
  |zero=>
    intro i n hi hn
    obtain⟨n,rfl⟩: ∃q,n=q+1:=⟨n - 1,by omega⟩
    rw[zfc,zgt,if_neg (by omega),List.drop_eq_nil_of_le (by omega),List.drop_eq_nil_of_le (by omega),if_pos rfl]
  |succ m ih=>
    intro i n hi hn
    obtain⟨n,rfl⟩: ∃q,n=q+1:=⟨n - 1,by omega⟩
    have h1:i<a.length:=by omega
    have h2:i<b.length:=by omega
    rw[zfc,zgt,if_pos (by omega),need_pos (by omega),need_pos (by omega),gi_nat h1,gi_nat h2,List.drop_eq_getElem_cons h1,List.drop_eq_getElem_cons h2]
    by_cases h:a[i]=b[i]
    . rw[if_neg (λ g=>g h),show i64 ((i:Int)+1)=((i+1:Nat):Int)by rw[i64_id (by omega)];omega,ih (i+1) n (by omega) (by omega)]
      by_cases g:a.drop (i+1)=b.drop (i+1)
      . rw[if_pos g,if_pos (by rw[h,g])]
      . rw[if_neg g,if_neg (λ e=>g (List.cons.inj e).2)]
    . rw[if_pos h,if_neg (λ e=>h (List.cons.inj e).1)]
theorem eq_int (a b:List Int) (ha:a.length≤1048576):zga a b=some (decide (a=b)):=by
  unfold zga
  by_cases hl:a.length=b.length
  . rw[if_neg (by omega)]
    have:=eq_loop a b hl ha (λ _=>some true) a.length 0 FU (by omega) (by have:=FU_big;omega)
    show zfc a b (λ _=>some true) FU 0=_
    rw[show(0:Int)=((0:Nat):Int)from rfl,this,List.drop_zero,List.drop_zero]
    by_cases h:a=b
    . rw[if_pos h,decide_eq_true h]
    . rw[if_neg h,decide_eq_false h]
  . rw[if_pos (by omega),decide_eq_false (λ h=>hl (by rw[h]))]
theorem networkKeys_true (a b : List Int) (ha : a.length ≤ maxLen ∧ ∀ y ∈ a, (Lit.int .i64 y).wf = true) (hb : b.length ≤ maxLen ∧ ∀ y ∈ b, (Lit.int .i64 y).wf = true)
    (hsz:(szL (λ _:Int=>1) a+1)+(szL (λ _:Int=>1) b+1)≤1048576):m_law22_NetworkKeys a b=some true:=by
  have l1:=szL_len (sz:=λ _:Int=>1) (λ x=>Nat.le_refl _) a
  have l2:=szL_len (sz:=λ _:Int=>1) (λ x=>Nat.le_refl _) b
  have rng: ∀{l:List Int},(∀y∈l,(Lit.int .i64 y).wf=true)-> ∀n∈l, -9223372036854775808≤n/\n≤9223372036854775807:=λ h n hn=>by
    have:=h n hn
    simpa[Lit.wf,IntKind.min,IntKind.max,IntKind.signed,IntKind.bits]using this
  have k1:m_key a=some (keyL a):=by unfold m_key;rw[need_pos ⟨by omega,rng ha.2⟩]
  have k2:m_key b=some (keyL b):=by unfold m_key;rw[need_pos ⟨by omega,rng hb.2⟩]
  have k3:m_key (a++[0])=some (keyL (a++[0])):=by
    unfold m_key
    rw[need_pos ⟨by rw[List.length_append,List.length_singleton];omega,λ n hn=>by
      rcases List.mem_append.1 hn with h|h
      . exact rng ha.2 n h
      . rw[List.mem_singleton.1 h];omega⟩]
  unfold m_law22_NetworkKeys
  show bnd1 m_law22_awake _=_
  rw[awake_true,bnd1_eq rfl,if_pos rfl,k1,bnd1_eq rfl,k2,bnd1_eq rfl,eq_int a b (by omega),bnd1_eq rfl]
  have e:decide (keyL a=keyL b)=decide (a=b):=decide_eq_decide.2 key_iff
  rw[if_pos e,need_pos (by omega),need_pos (by simp;omega),k3,bnd1_eq rfl,bnd1_eq rfl]
  rw[decide_eq_true (key_zero a)]
end
end Go.Proofs.YtohjfjmjnkglgaaGreatDoor
