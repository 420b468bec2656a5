/- Parts, merged. -/
import Derived.Test.YtohjfjmjnkglgaaGreatDoorQk2
import Derived.Lib.AppendZeros
import Derived.Test.YtohjfjmjnkglgaaGreatDoorRows
import Derived.ProofKit
import Derived.OpenShut
import Derived.Deep.Slices
import Derived.Deep.Strs
import Derived.JoinedCond
import Derived.Lib.AppendStr
import Derived.Maps.Range
import Derived.Maps.Ext
import Derived.Maps.RangeWalk
import Derived.Shelf.SlSortCmp.NoneTotal
import Derived.Sort.OwnSortedInts
import Derived.Test.YtohjfjmjnkglgaaGreatDoorQk0
import Derived.Lib.OthersKept
import Derived.LaidEql
import Derived.Shelf.SortM.Plain
import Derived.Shelf.SortM.SortNone
import Derived.Lone
import Derived.StepT
import Derived.Calls
namespace Go.Proofs.YtohjfjmjnkglgaaGreatDoor
open _root_.Go.Proofs.Tryz
noncomputable section
open Go.RowKit
section
variable {P:Program} {ops:Array Oper} {E:Env} {n:Nat} {QA:Exit->AF->Items->Prop} {af:AF} {σ:Items}
inductive Dep (ops:Array Oper) (i:Nat):Nat->Prop where
 |one {j:Nat} {o:Oper} {e:Edge} (h:ops[j]?=some o) (he:e∈o.after) (hb:Region.binds .any e=true) (hi:e.on=i):Dep ops i j
 |more {j:Nat} {o:Oper} {e:Edge} (h:ops[j]?=some o) (he:e∈o.after) (hb:Region.binds .any e=true) (hd:Dep ops i e.on):Dep ops i j
def Down (ops:Array Oper) (listed:Array Bool):Prop:= ∀j o,ops[j]?=some o->listed.getD j false=true-> ∀e∈o.after,Region.binds .any e=true->listed.getD e.on false=true
theorem Dep.unlisted {i j:Nat} {listed:Array Bool} (hd:Dep ops i j) (hD:Down ops listed) (hi:listed.getD i false=false):listed.getD j false=false/\j∉Region.ready .any ops listed:=by
 induction hd with
 |one h he hb hi'=>
  subst hi'
  constructor
  .cases hl:listed.getD _ false with
   |false=>rfl
   |true=>have:=hD _ _ h hl _ he hb;rw[hi]at this;cases this
  .intro hr
   obtain⟨_,o',ho',hall⟩:=mem_ready.1 hr
   rw[h]at ho';injection ho' with ho';subst ho'
   have:=hall _ he hb
   rw[hi]at this;cases this
 |more h he hb _ ih=>
  constructor
  .cases hl:listed.getD _ false with
   |false=>rfl
   |true=>have:=hD _ _ h hl _ he hb;rw[ih.1]at this;cases this
  .intro hr
   obtain⟨_,o',ho',hall⟩:=mem_ready.1 hr
   rw[h]at ho';injection ho' with ho';subst ho'
   have:=hall _ he hb
   rw[ih.1]at this;cases this
theorem Down.step {i:Nat} {listed:Array Bool} (hD:Down ops listed) (hr:i∈Region.ready .any ops listed):Down ops (listed.setIfInBounds i true):=by
 intro j o ho hj e he hb
 obtain⟨_,oi,hoi,hall⟩:=mem_ready.1 hr
 refine getD_set_true ?_
 by_cases hji:j=i
 .subst hji;rw[hoi]at ho;injection ho with ho;subst ho;exact hall e he hb
 .rw[getD_set_ne false (Ne.symm hji)]at hj;exact hD j o ho hj e he hb
def reach (i:Nat):List Oper->Nat->List Nat->List Nat
 |[],_,acc=>acc
 |o::l,k,acc=>reach i l (k+1) (bif o.after.any (λ e=>Region.binds .any e && (Nat.beq e.on i ||acc.contains e.on))then k::acc else acc)
theorem reach_dep {i:Nat}: ∀(l:List Oper) (k:Nat) (acc:List Nat),(∀j,l[j]?=ops[k+j]?)->(∀j∈acc,Dep ops i j)-> ∀j∈reach i l k acc,Dep ops i j
 |[],_,_,_,ha,j,hj=>ha j hj
 |o::l,k,acc,hl,ha,j,hj=>by
  have h0:ops[k]?=some o:=by simpa using(hl 0).symm
  refine reach_dep l (k+1) _ (λ j=>by have:=hl (j+1);simpa[Nat.add_assoc,Nat.add_comm 1 j]using this) (λ q hq=> ?_) j hj
  cases hc:o.after.any (λ e=>Region.binds .any e && (Nat.beq e.on i ||acc.contains e.on))with
  |false=>rw[hc]at hq;exact ha q hq
  |true=>
   rw[hc]at hq
   rcases List.mem_cons.1 hq with rfl|hq
   .rw[Array.any_eq_true]at hc
    obtain⟨x,hx,hc⟩:=hc
    simp only[Bool.and_eq_true,Bool.or_eq_true]at hc
    rcases hc.2 with h|h
    .exact .one h0 (Array.getElem_mem hx) hc.1 (Nat.eq_of_beq_eq_true h)
    .exact .more h0 (Array.getElem_mem hx) hc.1 (ha _ (by simpa using h))
   .exact ha q hq
def Has (kp σ:Items):Prop:= ∀it∈kp,it∈σ
def YieldsI (P:Program) (ops:Array Oper) (kp:Items) (o:Oper) (av:AV) (af:AF):Prop:=
 (Sat ops o af false/\av=undefA)∨(Sat ops o af true/\ ∀σ,Has kp σ->Reads P o af σ av)
theorem YieldsI.put {kp:Items} {o oj:Oper} {av:AV} (x:AV) (h: ∀d,oj.dst=some d->d∉o.looksAt ops) (hy:YieldsI P ops kp o av af):YieldsI P ops kp o av (af.put oj.dst x):=
 hy.imp (λ⟨h1,h2⟩=>⟨(Sat.put_iff x h).2 h1,h2⟩) (λ⟨h1,h2⟩=>⟨(Sat.put_iff x h).2 h1,λ σ hk=>(h2 σ hk).put x h⟩)
theorem YieldsI.unput {kp:Items} {o oj:Oper} {av:AV} (x:AV) (h: ∀d,oj.dst=some d->d∉o.looksAt ops) (hy:YieldsI P ops kp o av (af.put oj.dst x)):YieldsI P ops kp o av af:=
 hy.imp (λ⟨h1,h2⟩=>⟨(Sat.put_iff x h).1 h1,h2⟩) (λ⟨h1,h2⟩=>⟨(Sat.put_iff x h).1 h1,λ σ hk=>(h2 σ hk).unput x h⟩)
variable {kp:Items}
def NewAt (P:Program) (o:Oper) (t:TypeId) (c:List AV):Prop:=o.guard=none/\ ∀af σ,Loud P o af σ (λ a s=> ∃b,a=pA b 0/\s=boxI t b c::σ)
def stepK (P:Program) (ops:Array Oper) (kp:Items) (kd:Nat) (i:Nat) (K:AF->Items->Prop) (af:AF) (σ:Items):Prop:=
 match kd with
 |3=>stepA P ops i (λ af' σ'=>Has kp σ'/\K af' σ') af σ
 |4=>match ops[i]? with|none=>K af σ|some o=> ∃av,YieldsI P ops kp o av af/\K (af.put o.dst av) σ
 |0=>match ops[i]? with|none=>K af σ|some o=> ∃av,YieldsA P ops o av af/\K (af.put o.dst av) σ
 |1=>match ops[i]? with|none=>K af σ|some o=> ∃av,YieldsS P ops σ o av af/\K (af.put o.dst av) σ
 |5=> ∃o t c,ops[i]?=some o/\NewAt P o t c/\ ∀b,K (af.put o.dst (pA b 0)) (boxI t b c::σ)
 |_=>stepA P ops i K af σ
theorem stepK_3 {i:Nat} {K:AF->Items->Prop} (h:stepA P ops i (λ af' σ'=>Has kp σ'/\K af' σ') af σ):stepK P ops kp 3 i K af σ:=by unfold stepK;exact h
theorem stepK_mono {kd i:Nat} {K K':AF->Items->Prop} (h: ∀af σ,K af σ->K' af σ) (hh:stepK P ops kp kd i K af σ):stepK P ops kp kd i K' af σ:=by
 unfold stepK at*
 split at hh
 .exact stepA_mono (λ af σ ⟨a,b⟩=>⟨a,h _ _ b⟩) hh
 .split at hh
  .exact h _ _ hh
  .obtain⟨av,h1,h2⟩:=hh;exact⟨av,h1,h _ _ h2⟩
 .split at hh
  .exact h _ _ hh
  .obtain⟨av,h1,h2⟩:=hh;exact⟨av,h1,h _ _ h2⟩
 .split at hh
  .exact h _ _ hh
  .obtain⟨av,h1,h2⟩:=hh;exact⟨av,h1,h _ _ h2⟩
 .obtain⟨o,t,c,h0,h1,h2⟩:=hh;exact⟨o,t,c,h0,h1,λ b=>h _ _ (h2 b)⟩
 .exact stepA_mono h hh
theorem stepA_of_new {i:Nat} {K:AF->Items->Prop} (hh: ∃o t c,ops[i]?=some o/\NewAt P o t c/\ ∀b,K (af.put o.dst (pA b 0)) (boxI t b c::σ)):stepA P ops i K af σ:=by
 obtain⟨o,t,c,h0,⟨hg,hl⟩,h2⟩:=hh
 unfold stepA;simp only[h0]
 exact .inr ⟨.inl ⟨hg,rfl⟩,_,hl af σ,λ a s ⟨b,e1,e2⟩=>by subst e1 e2;exact h2 b⟩
theorem stepA_of_read {i:Nat} {o:Oper} {av:AV} {K:AF->Items->Prop} (h0:ops[i]?=some o) (h1:YieldsS P ops σ o av af) (h2:K (af.put o.dst av) σ):stepA P ops i K af σ:=by
 unfold stepA;simp only[h0]
 rcases h1 with⟨g1,rfl⟩|⟨g1,g2⟩
 .exact .inl ⟨g1,h2⟩
 .exact .inr ⟨g1,_,loud_of_reads g2,λ a s ⟨e1,e2⟩=>by subst e1 e2;exact h2⟩
theorem YieldsI.at {o:Oper} {av:AV} (h:YieldsI P ops kp o av af) (hk:Has kp σ):YieldsS P ops σ o av af:=h.imp id (λ⟨a,b⟩=>⟨a,b σ hk⟩)
def anyK (P:Program) (ops:Array Oper) (kp:Items) (kinds:Nat->Nat) (K:AF->Items->Prop):Nat->Array Bool->AF->Items->Prop
 |0,listed,af,σ=>Region.ready .any ops listed=[]/\K af σ
 |fuel+1,listed,af,σ=>(Region.ready .any ops listed=[]->K af σ)/\ ∀i∈Region.ready .any ops listed,stepK P ops kp (kinds i) i (anyK P ops kp kinds K fuel (listed.setIfInBounds i true)) af σ/\(kinds i=4->Has kp σ)
theorem stepA_of_K {kd i:Nat} {K:AF->Items->Prop} (hkp:kd=4->Has kp σ) (hh:stepK P ops kp kd i K af σ):stepA P ops i K af σ:=by
 by_cases h4:kd=4
 .subst h4
  unfold stepK at hh
  simp only at hh
  split at hh
  .rename_i h0;unfold stepA;simp only[h0];exact hh
  .rename_i o h0
   obtain⟨av,h1,h2⟩:=hh
   exact stepA_of_read h0 (h1.at (hkp rfl)) h2
 .unfold stepK at hh
  split at hh
  .exact stepA_mono (λ af σ h=>h.2) hh
  .exact absurd rfl h4
  .split at hh
   .rename_i h0;unfold stepA;simp only[h0];exact hh
   .rename_i o h0
    obtain⟨av,h1,h2⟩:=hh
    exact h1.step h0 h2
  .split at hh
   .rename_i h0;unfold stepA;simp only[h0];exact hh
   .rename_i o h0
    obtain⟨av,h1,h2⟩:=hh
    exact stepA_of_read h0 h1 h2
  .exact stepA_of_new hh
  .exact hh
theorem anyA_of_anyK {kinds:Nat->Nat} {K:AF->Items->Prop}: ∀(fuel:Nat) (listed:Array Bool) (af:AF) (σ:Items),anyK P ops kp kinds K fuel listed af σ->anyA P ops K fuel listed af σ
 |0,_,_,_,h=>h
 |fuel+1,listed,af,σ,h=>⟨h.1,λ i hi=>stepA_mono (λ af σ hh=>anyA_of_anyK fuel _ af σ hh) (stepA_of_K (h.2 i hi).2 (h.2 i hi).1)⟩
def YieldsK (P:Program) (ops:Array Oper) (kp:Items) (kd:Nat) (σ:Items) (o:Oper) (av:AV) (af:AF):Prop:=match kd with|0=>YieldsA P ops o av af|4=>YieldsI P ops kp o av af/\Has kp σ|_=>YieldsS P ops σ o av af
def okK (ki kj:Nat):Bool:=match ki with
 |0=>true
 |4=>Nat.beq kj 0 ||Nat.beq kj 1 ||Nat.beq kj 3 ||Nat.beq kj 4 ||Nat.beq kj 5
 |_=>Nat.beq kj 0 ||Nat.beq kj 1 ||Nat.beq kj 4
theorem stepK_put {ki kj j:Nat} {oi oj:Oper} {av:AV} (hj:ops[j]?=some oj) (hap:oi.apart ops oj=true) (hk:okK ki kj=true) {K:AF->Items->Prop}
  (hy:YieldsK P ops kp ki σ oi av af) (h:stepK P ops kp kj j K (af.put oi.dst av) σ):stepK P ops kp kj j (λ af' σ'=>YieldsK P ops kp ki σ' oi av af'/\K (af'.put oi.dst av) σ') af σ:=by
 obtain⟨h1,h2,h3⟩:=Oper.apart_spec hap
 have hput: ∀u,YieldsK P ops kp ki σ oi av (af.put oj.dst u):=λ u=>by
  unfold YieldsK at hy⊢
  split at hy
  .exact YieldsA.put u h3 hy
  .exact⟨hy.1.put u h3,hy.2⟩
  .exact YieldsS.put u h3 hy
 unfold stepK at h
 split at h
 .-- a change that keeps kp
  refine stepK_3 ?_
  unfold stepA at h⊢
  simp only[hj]at h⊢
  rcases h with⟨g1,g2,g3⟩|⟨g1,post,g2,g3⟩
  .refine .inl ⟨(Sat.put_iff av h1).1 g1,g2,hput undefA, ?_⟩
   rw[←AF.put_comm af av undefA h2];exact g3
  .refine .inr ⟨(Sat.put_iff av h1).1 g1,post,g2.unput av h1,λ u σ' hp=>⟨(g3 u σ' hp).1, ?_, ?_⟩⟩
   .have hkp:=(g3 u σ' hp).1
    unfold YieldsK at hy⊢
    split at hy
    .exact YieldsA.put u h3 hy
    .exact⟨hy.1.put u h3,hkp⟩
    .rename_i n0 n4;simp[okK]at hk <;>(split at hk <;>simp_all)
   .rw[←AF.put_comm af av u h2];exact(g3 u σ' hp).2
 .simp only[stepK,hj]at h⊢
  obtain⟨u,g1,g2⟩:=h
  refine⟨u,g1.unput av h1,hput u, ?_⟩
  rw[←AF.put_comm af av u h2];exact g2
 .simp only[stepK,hj]at h⊢
  obtain⟨u,g1,g2⟩:=h
  refine⟨u, ?_,hput u, ?_⟩
  .exact g1.imp (λ⟨a,b⟩=>⟨(Sat.put_iff av h1).1 a,b⟩) (λ⟨a,b⟩=>⟨(Sat.put_iff av h1).1 a,λ M w ev hM hx=>b M w ev hM (λ y hy=>by rw[ev_put af av h1 y hy];exact hx y hy)⟩)
  .rw[←AF.put_comm af av u h2];exact g2
 .simp only[stepK,hj]at h⊢
  obtain⟨u,g1,g2⟩:=h
  refine⟨u,g1.unput av h1,hput u, ?_⟩
  rw[←AF.put_comm af av u h2];exact g2
 .obtain⟨o',t,c,h0,hnew,g2⟩:=h
  rw[hj]at h0;cases h0
  refine⟨oj,t,c,hj,hnew,λ b=>⟨?_, ?_⟩⟩
  .unfold YieldsK at hy⊢
   split at hy
   .exact YieldsA.put _ h3 hy
   .exact⟨hy.1.put _ h3,λ y hm=>List.mem_cons_of_mem _ (hy.2 y hm)⟩
   .rename_i n0 n4;simp[okK]at hk <;>(split at hk <;>simp_all)
  .rw[←AF.put_comm af av (pA b 0) h2];exact g2 b
 .rename_i n0 n1 n2 n3 n5
  have hki:ki=0:=by
   unfold okK at hk
   split at hk
   .rfl
   .simp only[Bool.or_eq_true]at hk
    rcases hk with(((h|h)|h)|h)|h
    .exact absurd (Nat.eq_of_beq_eq_true h) n2
    .exact absurd (Nat.eq_of_beq_eq_true h) n3
    .exact absurd (Nat.eq_of_beq_eq_true h) n0
    .exact absurd (Nat.eq_of_beq_eq_true h) n1
    .exact absurd (Nat.eq_of_beq_eq_true h) n5
   .simp only[Bool.or_eq_true]at hk
    rcases hk with(h|h)|h
    .exact absurd (Nat.eq_of_beq_eq_true h) n2
    .exact absurd (Nat.eq_of_beq_eq_true h) n3
    .exact absurd (Nat.eq_of_beq_eq_true h) n1
  subst hki
  have e: ∀K af σ,stepK P ops kp kj j K af σ=stepA P ops j K af σ:=λ K af σ=>by
   unfold stepK
   split <;>first|rfl|exact absurd rfl ‹_›
  rw[e]
  exact stepA_put hj hap hy h
theorem anyK_first {kinds:Nat->Nat} {K:AF->Items->Prop} {i:Nat} {oi:Oper} {av:AV} (hi:ops[i]?=some oi) (hki:kinds i=0∨kinds i=1∨kinds i=4):
  ∀(fuel:Nat) (listed:Array Bool) (af:AF) (σ:Items),Down ops listed->
   (∀j oj,ops[j]?=some oj->j≠i->listed.getD j true=false-> ¬Dep ops i j->oi.apart ops oj=true/\okK (kinds i) (kinds j)=true)->
   i∈Region.ready .any ops listed->YieldsK P ops kp (kinds i) σ oi av af->
   anyK P ops kp kinds K fuel (listed.setIfInBounds i true) (af.put oi.dst av) σ->anyK P ops kp kinds K (fuel+1) listed af σ:=by
 intro fuel
 have one: ∀{K':AF->Items->Prop} {af:AF} {σ:Items},YieldsK P ops kp (kinds i) σ oi av af->K' (af.put oi.dst av) σ->stepK P ops kp (kinds i) i K' af σ/\(kinds i=4->Has kp σ):=λ hy hk=>by
  rcases hki with h|h|h <;>rw[h]at hy⊢
  .exact⟨by simp only[stepK,hi];exact⟨av,hy,hk⟩,λ h=>by cases h⟩
  .exact⟨by simp only[stepK,hi];exact⟨av,hy,hk⟩,λ h=>by cases h⟩
  .exact⟨by simp only[stepK,hi];exact⟨av,hy.1,hk⟩,λ _=>hy.2⟩
 induction fuel with
 |zero=>
  intro listed af σ _ _ hr hy H
  refine⟨λ h=>(by rw[h]at hr;cases hr),λ j hj=> ?_⟩
  by_cases hji:j=i
  .subst hji;exact one hy H
  .have:=ready_mono hj hji
   rw[H.1]at this
   cases this
 |succ fuel ih=>
  intro listed af σ hD hfree hr hy H
  refine⟨λ h=>(by rw[h]at hr;cases hr),λ j hj=> ?_⟩
  by_cases hji:j=i
  .subst hji;exact one hy H
  .have h1:=H.2 j (ready_mono hj hji)
   obtain⟨hjun,oj,hoj,hall⟩:=mem_ready.1 hj
   have hiun:listed.getD i false=false:=by
    have:=(mem_ready.1 hr).1
    cases hl:listed.getD i false with
    |false=>rfl
    |true=>
     rcases Nat.lt_or_ge i listed.size with h'|h'
     .simp[h']at this hl;rw[this]at hl;cases hl
     .simp[Array.getElem?_eq_none h']at hl
   have hnd: ¬Dep ops i j:=λ hd=>(hd.unlisted hD hiun).2 hj
   obtain⟨hap,hkk⟩:=hfree j oj hoj hji hjun hnd
   have h2:=stepK_put hoj hap hkk hy h1.1
   have hfree': ∀k ok,ops[k]?=some ok->k≠i->(listed.setIfInBounds j true).getD k true=false-> ¬Dep ops i k->oi.apart ops ok=true/\okK (kinds i) (kinds k)=true:=λ k ok hk hki hun hno=>by
    refine hfree k ok hk hki ?_ hno
    by_cases hjk:j=k
    .subst hjk;exact hjun
    .rw[getD_set_ne true hjk]at hun;exact hun
   refine⟨stepK_mono (λ af' σ' h3=>ih (listed.setIfInBounds j true) af' σ' (hD.step hj) hfree' (ready_mono hr (Ne.symm hji)) h3.1 ?_) h2,h1.2⟩
   rw[Array.setIfInBounds_comm _ _ hji]
   exact h3.2
def opI (P:Program) (kp:Items) (o:Oper) (af:AF) (K:AF->Prop):Prop:= ∃av,(∀σ,Has kp σ->Reads P o af σ av)/\K (af.put o.dst av)
def opK (P:Program) (kp:Items) (kd:Nat) (o:Oper) (af:AF) (σ:Items) (K:AF->Items->Prop):Prop:=match kd with
 |3=>opB P o af σ (λ af' σ'=>Has kp σ'/\K af' σ')
 |4=>Has kp σ/\opI P kp o af (λ af'=>K af' σ)
 |0=>opA P o af (λ af'=>K af' σ)
 |1=>opR P o af σ (λ af'=>K af' σ)
 |_=>opB P o af σ K
def wpP (P:Program) (ops:Array Oper) (kp:Items) (K:AF->Items->Prop):List (Nat×Nat)->AF->Items->Prop
 |[],af,σ=>K af σ
 |(kd,i)::rest,af,σ=> ∃o,ops[i]?=some o/\((Sat ops o af false/\(kd=3∨kd=4->Has kp σ)/\wpP P ops kp K rest (af.put o.dst undefA) σ)∨(Sat ops o af true/\opK P kp kd o af σ (wpP P ops kp K rest)))
def kindOf (plan:List (Nat×Nat)) (i:Nat):Nat:=((plan.find? (λ p=>Nat.beq p.2 i)).map (·.1)).getD 2
def freeK (ops:Array Oper) (plan:List (Nat×Nat)) (listed:Array Bool) (i:Nat):Bool:=
 match ops[i]? with
 |none=>false
 |some oi=>
  let dep:=reach i ops.toList 0 []
  (List.range ops.size).all λ j=>Nat.beq j i ||listed.getD j true ||dep.contains j ||(match ops[j]? with|none=>false|some oj=>oi.apart ops oj && okK (kindOf plan i) (kindOf plan j))
def lexK (ops:Array Oper) (plan:List (Nat×Nat)):List (Nat×Nat)->Array Bool->Bool
 |[],listed=>(Region.ready .any ops listed).isEmpty
 |(kd,k)::rest,listed=>Nat.beq (kindOf plan k) kd && !(Nat.beq kd 5) && (bif Nat.beq kd 0 ||Nat.beq kd 1 ||Nat.beq kd 4 then(Region.ready .any ops listed).contains k && freeK ops plan listed k else(Region.ready .any ops listed) ==[k]) && lexK ops plan rest (listed.setIfInBounds k true)
theorem freeK_spec {plan:List (Nat×Nat)} {listed:Array Bool} {i:Nat} {oi:Oper} (hi:ops[i]?=some oi) (h:freeK ops plan listed i=true) (j:Nat) (oj:Oper) (hj:ops[j]?=some oj) (hne:j≠i) (hun:listed.getD j true=false) (hnd: ¬Dep ops i j):
  oi.apart ops oj=true/\okK (kindOf plan i) (kindOf plan j)=true:=by
 unfold freeK at h
 simp only[hi]at h
 have hlt:j<ops.size:=(Array.getElem?_eq_some_iff.1 hj).1
 have h1:=List.all_eq_true.1 h j (List.mem_range.2 hlt)
 simp only[Bool.or_eq_true,hun,hj,Bool.and_eq_true]at h1
 rcases h1 with((h1|h1)|h1)|h1
 .exact absurd (Nat.eq_of_beq_eq_true h1) hne
 .cases h1
 .exact absurd (reach_dep ops.toList 0 [] (λ q=>by simp) (λ q hq=>by simp at hq) j (by simpa using h1)) hnd
 .exact h1
theorem anyK_of_lex {plan:List (Nat×Nat)} {K:AF->Items->Prop}: ∀(l:List (Nat×Nat)) (listed:Array Bool) (af:AF) (σ:Items),Down ops listed->
  lexK ops plan l listed=true->wpP P ops kp K l af σ->anyK P ops kp (kindOf plan) K l.length listed af σ
 |[],_,_,_,_,hB,h=>⟨by simpa[lexK]using hB,h⟩
 |(kd,k)::l,listed,af,σ,hD,hB,h=>by
  obtain⟨o,h0,h⟩:=h
  simp only[lexK,Bool.and_eq_true]at hB
  obtain⟨⟨⟨hB0,hB5⟩,hB1⟩,hB2⟩:=hB
  have hkd:kindOf plan k=kd:=Nat.eq_of_beq_eq_true hB0
  have h5:kd≠5:=λ e=>by subst e;simp at hB5
  by_cases hq:kd=0∨kd=1∨kd=4
  .have hqb:(Nat.beq kd 0 ||Nat.beq kd 1 ||Nat.beq kd 4)=true:=by rcases hq with h|h|h <;>rw[h] <;>rfl
   rw[hqb]at hB1
   simp only[cond_true,Bool.and_eq_true]at hB1
   obtain⟨hr,hf⟩:=hB1
   have hr':k∈Region.ready .any ops listed:=by simpa using hr
   have hy: ∃av,YieldsK P ops kp (kindOf plan k) σ o av af/\wpP P ops kp K l (af.put o.dst av) σ:=by
    rw[hkd]
    rcases h with⟨h1,hkp,h2⟩|⟨h1,h2⟩
    .refine⟨undefA, ?_,h2⟩
     unfold YieldsK
     split
     .exact .inl ⟨h1,rfl⟩
     .exact⟨.inl ⟨h1,rfl⟩,hkp (.inr rfl)⟩
     .exact .inl ⟨h1,rfl⟩
    .rcases hq with rfl|rfl|rfl
     .obtain⟨av,g1,g2⟩:=h2
      exact⟨av, .inr ⟨h1,g1⟩,g2⟩
     .obtain⟨av,g1,g2⟩:=h2
      exact⟨av, .inr ⟨h1,g1⟩,g2⟩
     .obtain⟨hkp,av,g1,g2⟩:=h2
      exact⟨av,⟨.inr ⟨h1,g1⟩,hkp⟩,g2⟩
   obtain⟨av,hy,hK⟩:=hy
   exact anyK_first (kinds:=kindOf plan) h0 (by rw[hkd];exact hq) l.length listed af σ hD (freeK_spec h0 hf) hr' hy (anyK_of_lex l _ _ σ (hD.step hr') hB2 hK)
  .have hqb:(Nat.beq kd 0 ||Nat.beq kd 1 ||Nat.beq kd 4)=false:=by
    cases h1:Nat.beq kd 0 with
    |true=>exact absurd (.inl (Nat.eq_of_beq_eq_true h1)) hq
    |false=>cases h2:Nat.beq kd 1 with
     |true=>exact absurd (.inr (.inl (Nat.eq_of_beq_eq_true h2))) hq
     |false=>cases h3:Nat.beq kd 4 with
      |true=>exact absurd (.inr (.inr (Nat.eq_of_beq_eq_true h3))) hq
      |false=>rfl
   rw[hqb]at hB1
   simp only[cond_false,beq_iff_eq]at hB1
   have hr':k∈Region.ready .any ops listed:=by rw[hB1];simp
   refine⟨λ h0=>(by rw[h0]at hB1;cases hB1),λ j hj=> ?_⟩
   rw[hB1]at hj
   obtain rfl:j=k:=by simpa using hj
   rw[hkd]
   refine⟨?_,λ h4=>absurd (.inr (.inr h4)) hq⟩
   by_cases h3:kd=3
   .subst h3
    refine stepK_3 ?_
    unfold stepA;simp only[h0]
    rcases h with⟨h1,hkp,h2⟩|⟨h1,h2⟩
    .exact .inl ⟨h1,hkp (.inl rfl),anyK_of_lex l _ _ σ (hD.step hr') hB2 h2⟩
    .obtain⟨post,p1,p2⟩:=h2
     exact .inr ⟨h1,post,p1,λ av σ' hp=>⟨(p2 av σ' hp).1,anyK_of_lex l _ _ σ' (hD.step hr') hB2 (p2 av σ' hp).2⟩⟩
   have e: ∀K af σ,stepK P ops kp kd j K af σ=stepA P ops j K af σ:=λ K af σ=>by
    unfold stepK
    split
    .exact absurd rfl h3
    .exact absurd (.inr (.inr rfl)) hq
    .exact absurd (.inl rfl) hq
    .exact absurd (.inr (.inl rfl)) hq
    .exact absurd rfl h5
    .rfl
   rw[e]
   unfold stepA;simp only[h0]
   rcases h with⟨h1,_,h2⟩|⟨h1,h2⟩
   .exact .inl ⟨h1,anyK_of_lex l _ _ σ (hD.step hr') hB2 h2⟩
   .refine .inr ⟨h1, ?_⟩
    have h3:opB P o af σ (wpP P ops kp K l):=by
     unfold opK at h2
     split at h2
     .exact absurd rfl h3
     .exact absurd (.inr (.inr rfl)) hq
     .exact absurd (.inl rfl) hq
     .exact absurd (.inr (.inl rfl)) hq
     .exact h2
    obtain⟨post,p1,p2⟩:=h3
    exact⟨post,p1,λ av σ' hp=>anyK_of_lex l _ _ σ' (hD.step hr') hB2 (p2 av σ' hp)⟩
def planKB (plan:List (Nat×Nat)) (l:List Oper) (n:Nat):Bool:=dstB l.toArray n && Nat.beq plan.length l.length && lexK l.toArray plan plan (Array.replicate l.length false)
variable {ks:List KFr}
theorem zck (kp:Items) (plan:List (Nat×Nat)) {id:Nat} {l:List Oper} (hm:P.follows .mixedOrders=true) (hB:planKB plan l n=true)
  (h:wpP P l.toArray kp (den P E n ks .normal) plan af σ):awp P E n (.region id l.toArray true) (den P E n ks) af σ:=by
 simp only[planKB,Bool.and_eq_true]at hB
 intro a w hh
 refine wp_region_any hm ?_
 have hD:Down l.toArray (Array.replicate l.length false):=λ j o _ hj=>by
  rw[Array.getD_eq_getD_getElem?,Array.getElem?_replicate]at hj
  split at hj <;>cases hj
 have hl:plan.length=l.length:=Nat.eq_of_beq_eq_true hB.1.2
 have h1:=anyA_of_anyK (kp:=kp) _ _ _ _ (anyK_of_lex (plan:=plan) plan (Array.replicate l.length false) af σ hD hB.2 h)
 rw[hl]at h1
 simpa using wpAny_of_anyA hB.1.1 _ _ af σ a _ h1 hh.drew
variable {K:AF->Items->Prop} {rest:List (Nat×Nat)} {dst:Option Tmp} {op:Op} {ty0:TypeId} {pos0:String} {after0:Array Edge} {i kd:Nat}
theorem opK_q {o:Oper} (hkd:kd=3∨kd=4->Has kp σ) (h:opA P o af (λ af'=>K af' σ)):opK P kp kd o af σ K:=by
 obtain⟨av,h1,h2⟩:=h
 unfold opK
 split
 .exact⟨_,loud_of_quiet σ h1,λ a s ⟨e1,e2⟩=>by subst e1 e2;exact⟨hkd (.inl rfl),h2⟩⟩
 .exact⟨hkd (.inr rfl),av,λ σ _=>h1.reads σ,h2⟩
 .exact⟨av,h1,h2⟩
 .exact⟨av,h1.reads σ,h2⟩
 .exact⟨_,loud_of_quiet σ h1,λ a s ⟨e1,e2⟩=>by subst e1 e2;exact h2⟩
theorem zcn (h:K af σ):wpP P ops kp K [] af σ:=h
theorem P_q (hkd:kd=3∨kd=4->Has kp σ) (hi:ops[i]?=some ⟨dst,op,ty0,pos0,after0,none⟩) (h:opA P ⟨dst,op,ty0,pos0,after0,none⟩ af (λ af'=>wpP P ops kp K rest af' σ)):wpP P ops kp K ((kd,i)::rest) af σ:=⟨_,hi, .inr ⟨.inl ⟨rfl,rfl⟩,opK_q (K:=wpP P ops kp K rest) hkd h⟩⟩
theorem P_r (hi:ops[i]?=some ⟨dst,op,ty0,pos0,after0,none⟩) (h:opR P ⟨dst,op,ty0,pos0,after0,none⟩ af σ (λ af'=>wpP P ops kp K rest af' σ)):wpP P ops kp K ((1,i)::rest) af σ:=⟨_,hi, .inr ⟨.inl ⟨rfl,rfl⟩,h⟩⟩
theorem P_l (hi:ops[i]?=some ⟨dst,op,ty0,pos0,after0,none⟩) (h:opB P ⟨dst,op,ty0,pos0,after0,none⟩ af σ (wpP P ops kp K rest)):wpP P ops kp K ((2,i)::rest) af σ:=⟨_,hi, .inr ⟨.inl ⟨rfl,rfl⟩,h⟩⟩
variable {j:Nat} {want:Bool} {dg:Tmp} {c:Bool} {p:Prop} [Decidable p]
theorem Py_q (hkd:kd=3∨kd=4->Has kp σ) (hi:ops[i]?=some ⟨dst,op,ty0,pos0,after0,some (j,want)⟩) (hj:(ops[j]?).bind (·.dst)=some dg) (hv:af dg= .exact (.bool want)) (h:opA P ⟨dst,op,ty0,pos0,after0,some (j,want)⟩ af (λ af'=>wpP P ops kp K rest af' σ)):wpP P ops kp K ((kd,i)::rest) af σ:=
 ⟨_,hi, .inr ⟨by simpa using Sat.mk (want:=want) hj hv,opK_q (K:=wpP P ops kp K rest) hkd h⟩⟩
theorem Py_r (hi:ops[i]?=some ⟨dst,op,ty0,pos0,after0,some (j,want)⟩) (hj:(ops[j]?).bind (·.dst)=some dg) (hv:af dg= .exact (.bool want)) (h:opR P ⟨dst,op,ty0,pos0,after0,some (j,want)⟩ af σ (λ af'=>wpP P ops kp K rest af' σ)):wpP P ops kp K ((1,i)::rest) af σ:=
 ⟨_,hi, .inr ⟨by simpa using Sat.mk (want:=want) hj hv,h⟩⟩
theorem Py_l (hi:ops[i]?=some ⟨dst,op,ty0,pos0,after0,some (j,want)⟩) (hj:(ops[j]?).bind (·.dst)=some dg) (hv:af dg= .exact (.bool want)) (h:opB P ⟨dst,op,ty0,pos0,after0,some (j,want)⟩ af σ (wpP P ops kp K rest)):wpP P ops kp K ((2,i)::rest) af σ:=
 ⟨_,hi, .inr ⟨by simpa using Sat.mk (want:=want) hj hv,h⟩⟩
theorem P_n (hkd:kd=3∨kd=4->Has kp σ) (hi:ops[i]?=some ⟨dst,op,ty0,pos0,after0,some (j,want)⟩) (hj:(ops[j]?).bind (·.dst)=some dg) (hv:af dg= .exact (.bool (!want))) (h:wpP P ops kp K rest (af.put dst undefA) σ):wpP P ops kp K ((kd,i)::rest) af σ:=
 ⟨_,hi, .inl ⟨by simpa using Sat.mk (want:=want) hj hv,hkd,h⟩⟩
theorem P_u (hkd:kd=3∨kd=4->Has kp σ) (hi:ops[i]?=some ⟨dst,op,ty0,pos0,after0,some (j,want)⟩) (hj:(ops[j]?).bind (·.dst)=some dg) (hv:af dg=undefA) (h:wpP P ops kp K rest (af.put dst undefA) σ):wpP P ops kp K ((kd,i)::rest) af σ:=
 ⟨_,hi, .inl ⟨.inr ⟨j,want,dg,undef,rfl,hj,hv,rfl⟩,hkd,h⟩⟩
variable {pl:List (Nat×Nat)}
theorem zfd (dg:Tmp) (hv:af dg= .exact (.bool (decide p))) (h1:p->wpP P ops kp K pl (af.put (some dg) (.exact (.bool true))) σ) (h2: ¬p->wpP P ops kp K pl (af.put (some dg) (.exact (.bool false))) σ):wpP P ops kp K pl af σ:=by
 by_cases hp:p
 .have:=h1 hp;rwa [put_b hv (by simp[hp])]at this
 .have:=h2 hp;rwa [put_b hv (by simp[hp])]at this
theorem P_splitB (dg:Tmp) (hv:af dg= .exact (.bool c)) (h1:c=true->wpP P ops kp K pl (af.put (some dg) (.exact (.bool true))) σ) (h2: ¬c=true->wpP P ops kp K pl (af.put (some dg) (.exact (.bool false))) σ):wpP P ops kp K pl af σ:=by
 by_cases hp:c=true
 .have:=h1 hp;rwa [put_b hv hp]at this
 .have:=h2 hp;rwa [put_b hv (by simpa using hp)]at this
theorem Has.mk0:Has [] σ:=λ it h=>by cases h
theorem Has.cons {it:Item} {kp:Items} (h:it∈σ) (h':Has kp σ):Has (it::kp) σ:=λ x hx=>by
 rcases List.mem_cons.1 hx with rfl|hx
 .exact h
 .exact h' x hx
theorem no34_0:(0:Nat)=3∨(0:Nat)=4->Has kp σ:=λ h=>by rcases h with h|h <;>cases h
theorem zdl:(1:Nat)=3∨(1:Nat)=4->Has kp σ:=λ h=>by rcases h with h|h <;>cases h
theorem no34_2:(2:Nat)=3∨(2:Nat)=4->Has kp σ:=λ h=>by rcases h with h|h <;>cases h
theorem P_l3 (hi:ops[i]?=some ⟨dst,op,ty0,pos0,after0,none⟩) (h:opB P ⟨dst,op,ty0,pos0,after0,none⟩ af σ (λ af' σ'=>Has kp σ'/\wpP P ops kp K rest af' σ')):wpP P ops kp K ((3,i)::rest) af σ:=⟨_,hi, .inr ⟨.inl ⟨rfl,rfl⟩,h⟩⟩
theorem P_r4 (hk:Has kp σ) (hi:ops[i]?=some ⟨dst,op,ty0,pos0,after0,none⟩) (h:opI P kp ⟨dst,op,ty0,pos0,after0,none⟩ af (λ af'=>wpP P ops kp K rest af' σ)):wpP P ops kp K ((4,i)::rest) af σ:=⟨_,hi, .inr ⟨.inl ⟨rfl,rfl⟩,hk,h⟩⟩
theorem opI_mk {t:Tmp} {it:Item} {a0:AV} {K:AF->Prop} {gd:Option (Nat×Bool)} (hm:it∈kp) (h: ∀ρ,opR P ⟨some t,op,ty0,pos0,after0,gd⟩ af (it::ρ) (λ af'=>af'=af.put (some t) a0)) (hk:K (af.put (some t) a0)):opI P kp ⟨some t,op,ty0,pos0,after0,gd⟩ af K:=by
 refine⟨a0,λ σ hkp=> ?_,hk⟩
 obtain⟨s1,s2,rfl⟩:=List.append_of_mem (hkp it hm)
 obtain⟨av,h1,h2⟩:=h (s1++s2)
 have:av=a0:=by have:=congrFun h2 t;rwa [AF.put_same,AF.put_same]at this
 subst this
 exact h1.perm List.perm_middle
end
end
noncomputable section
open Go.RowKit
section
variable {P:Program} {E:Env} {n:Nat} {af:AF} {σ:Items} {K:AF->Prop} {d:Option Tmp} {ty:TypeId} {pos:String} {after:Array Edge} {g:Option (Nat×Bool)} {ks:List KFr}
def AV.nilq (p:Prop):AV:=⟨λ _ _ v=> ∃b:Bool,v= .bool b/\(b=true->p),λ _ _ h=>h⟩
def AV.nilqn (p:Prop):AV:=⟨λ _ _ v=> ∃b:Bool,v= .bool b/\(b=false->p),λ _ _ h=>h⟩
theorem awp_condu {c:Operand} {x y:Code} {QA:Exit->AF->Items->Prop} {p:Prop} (hc:af.ev c= .nilq p) (ht:p->awp P E n x QA af σ) (hf:awp P E n y QA af σ):awp P E n (.cond c x y) QA af σ:=by
 intro a w hh
 have h1:=hh.ev c
 rw[hc]at h1
 obtain⟨b,e1,hb⟩:=h1
 exact wp_cond_split e1 (λ e=>ht (hb e) a w hh) (λ _=>hf a w hh)
theorem k_cond_u {c:Operand} {x y:Code} {p:Prop} (hc:af.ev c= .nilq p) (ht:p->awp P E n x (den P E n ks) af σ) (hf:awp P E n y (den P E n ks) af σ):awp P E n (.cond c x y) (den P E n ks) af σ:=awp_condu hc ht hf
variable {α:Type} {m:Nat} {enc:α->List AV} {xs:List α} {v:Value}
theorem equal_nil {t:TypeId} {e:TypeId} (ht:P.underlying t=some (.slice e)) (A:Option Addr) (l c:Nat) (w:World):(Op.equal t (.slice A l c) (.slice none 0 0)).run P w= .ok A.isNone w:=by
 have key: ∀D:Nat,(Op.equalIn (D+1) t (.slice A l c) (.slice none 0 0)).run P w= .ok A.isNone w:=by
  intro D
  cases A <;>simp[Op.equalIn,run_underlying ht]
 exact key 9999
theorem slice_under {t:TypeId} (h:isSliceB P t=true): ∃e,P.underlying t=some (.slice e):=by
 unfold isSliceB at h
 split at h
 .rename_i e he;exact⟨_,he⟩
 .cases h
theorem op_eqnil_row {t t':TypeId} {x:Operand} (hB:isSliceB P t=true) (hx:af.ev x= .row m enc xs) (hk:K (af.put d (.nilq (xs=[])))):opA P ⟨d, .binOp .eql t x (.const (.slice none 0 0)) t',ty,pos,after,g⟩ af K:=by
 refine⟨_,λ M w ev _ h=> ?_,hk⟩
 obtain⟨e,ht⟩:=slice_under hB
 obtain⟨A,c,e1,_,_,h4⟩:=zgw h (x:=x) (by simp[Op.operands]) hx
 have e2:=opnd h (x:= .const (.slice none 0 0)) (by simp[Op.operands]) rfl
 simp[execOp,eqGuard,e1,e2,binOp,equal_nil ht,go_sem,UponQ]
 refine⟨Keeps.refl _ _,A.isNone,rfl,λ hA=> ?_⟩
 cases xs with
 |nil=>rfl
 |cons y ys=>
  obtain⟨b,off,rfl,_⟩:=h4 (by simp)
  cases hA
def AV.fn (P:Program) {ι ρ:Type} (args:ι->List AV) (f:ι->Option ρ) (res:ρ->AV):AV:=
 ⟨λ M w v=> ∃(k:FuncId) (fn:Func) (caps:List Value) (avs:List AV),v= .func (.func k) #[] caps.toArray/\P.funcs[k]?=some fn/\(fn.body.isNone ||fn.name == "runtime.NumGoroutine")=false/\Fit M w avs caps/\ ∀i r,f i=some r->Pure P k (args i++avs) (res r),
   λ hk hm ⟨k,fn,caps,avs,h1,h2,h3,h4,h5⟩=>⟨k,fn,caps,avs,h1,h2,h3,h4.keep hk hm,h5⟩⟩
theorem Fit.append {M:BSet} {w:World} {xs ys:List AV} {vs us:List Value} (h:Fit M w xs vs) (h':Fit M w ys us):Fit M w (xs++ys) (vs++us):=Fit.app h h'
theorem fit_opnds {xs:List Operand} {args:List AV} {M:BSet} {w:World} {ev:Operand->Value} (h: ∀x∈xs,(af.ev x).p M w (ev x)) (hx:LEs (xs.map af.ev) args):Fit M w args (xs.map ev):=by
 refine LE_fit hx ?_
 clear hx
 induction xs with
 |nil=>trivial
 |cons x xs ih=>exact⟨h x (by simp),ih (λ y hy=>h y (by simp[hy]))⟩
theorem op_callfn {ι ρ:Type} {args:ι->List AV} {f:ι->Option ρ} {res:ρ->AV} (i:ι) {r:ρ} {z:Operand} {xs:List Operand} {ats:Array TypeId} (hz:af.ev z= .fn P args f res) (hr:f i=some r)
  (hx:LEs (xs.map af.ev) (args i)) (hk:K (af.put d (res r))):opA P ⟨d, .call { callee:= .value z,args:=xs.toArray,argTypes:=ats },ty,pos,after,g⟩ af K:=by
 refine⟨res r,λ M w ev hM h=> ?_,hk⟩
 obtain⟨k,fn,caps,avs,e1,e2,e3,e4,e5⟩:=zgw h (x:=z) (by simp[Op.operands,Call.operands]) hz
 have hfit:Fit M w (args i) (xs.map ev):=fit_opnds (λ x hm=>h x (by simp[Op.operands,Call.operands,hm])) hx
 simp only[Bool.or_eq_false_iff]at e3
 have hrun:(execOp ev ⟨d, .call { callee:= .value z,args:=xs.toArray,argTypes:=ats },ty,pos,after,g⟩).run P w= .ok (.enter k (xs.map ev++caps).toArray) w:=by
  simp[execOp,resolve,e1,Deferred.ofValue,invoke,run_callFunc e2 e3.1 e3.2,go_sem]
 rw[hrun]
 exact e5 i r hr M w _ hM (hfit.app e4)
theorem fn_le {ι ρ:Type} {args:ι->List AV} {f:ι->Option ρ} {res:ρ->AV} {k:FuncId} {fn:Func} (h2:P.funcs[k]?=some fn) (h3:(fn.body.isNone ||fn.name == "runtime.NumGoroutine")=false) (h: ∀i r,f i=some r->Pure P k (args i) (res r)):
  AV.le (.exact (.func (.func k) #[] #[])) (.fn P args f res):=λ M w v hv=>⟨k,fn,[],[],hv,h2,h3,trivial,λ i r hr=>by rw[List.append_nil];exact h i r hr⟩
theorem op_makeFunc {ι ρ:Type} {args:ι->List AV} {f:ι->Option ρ} {res:ρ->AV} {k:FuncId} {fn:Func} {cs:List Operand} (h2:P.funcs[k]?=some fn) (h3:(fn.body.isNone ||fn.name == "runtime.NumGoroutine")=false) (avs:List AV) (hx:LEs (cs.map af.ev) avs)
  (h: ∀i r,f i=some r->Pure P k (args i++avs) (res r)) (hk:K (af.put d (.fn P args f res))):opA P ⟨d, .makeFunc (.func k) #[] cs.toArray,ty,pos,after,g⟩ af K:=by
 refine⟨_,λ M w ev hM hh=> ?_,hk⟩
 have hfit:Fit M w avs (cs.map ev):=fit_opnds (λ x hm=>hh x (by simp[Op.operands,hm])) hx
 simp[execOp,Instr.makeFunc,go_sem,UponQ]
 exact⟨Keeps.refl _ _,k,fn,cs.map ev,avs,by simp,h2,h3,hfit,h⟩
end
end
noncomputable section
open Go.RowKit
theorem zeroCells_succ (zc:Array Value) (m:Nat):(Builtin.zeroCells zc (m+1)).toList=zc.toList++(Builtin.zeroCells zc m).toList:=by
 simp only[Builtin.zeroCells,Array.toList_map,Array.toList_range]
 rw[show(m+1)*zc.size=zc.size+m*zc.size by rw[Nat.add_mul];omega,List.range_add,List.map_append,List.map_map]
 congr 1
 .apply List.ext_getElem
  .simp
  .intro i h1 h2
   simp at h1
   simp[Nat.mod_eq_of_lt h1,h1]
 .apply List.map_congr_left
  intro i _
  simp[Nat.add_mod_left]
theorem Fit.nil0 {M:BSet} {w:World}:Fit M w [] []:=trivial
theorem Fit.ex {M:BSet} {w:World} {v:Value} {c:List AV} {vs:List Value} (h:Fit M w c vs):Fit M w (.exact v::c) (v::vs):=⟨rfl,h⟩
theorem Fit.rw0 {M:BSet} {w:World} {α:Type} {n:Nat} {enc:α->List AV} {c:List AV} {vs:List Value} (h:Fit M w c vs):Fit M w (.row n enc []::c) (.slice none 0 0::vs):=⟨⟨none,0,rfl,by simp,by simp,λ h=>absurd rfl h⟩,h⟩
section
variable {P:Program} {af:AF} {ρ:Items} {d:Option Tmp} {ty t:TypeId} {pos:String} {after:Array Edge} {g:Option (Nat×Bool)} {α:Type} {n:Nat} {enc:α->List AV} {xs:List α} {v:Value} {K:AF->Items->Prop}
theorem fit_zeros {M:BSet} {w:World} {zr:α} {zc:Array Value} (hz:Fit M w (enc zr) zc.toList): ∀m:Nat,Fit M w ((List.replicate m zr).flatMap enc) (Builtin.zeroCells zc m).toList
 |0=>by simp[Builtin.zeroCells,Fit]
 |m+1=>by
  rw[zeroCells_succ,List.replicate_succ,List.flatMap_cons]
  exact hz.app (fit_zeros hz m)
theorem flat_parts (he: ∀x,(enc x).length=n): ∀(ys:List α) (k:Nat),(ys.flatMap enc).take (k*n)=(ys.take k).flatMap enc/\(ys.flatMap enc).drop (k*n)=(ys.drop k).flatMap enc:=by
 intro ys
 induction ys with
 |nil=>simp
 |cons y ys ih=>
  intro k
  cases k with
  |zero=>simp
  |succ k=>
   have hl:(enc y).length=n:=he y
   rw[List.flatMap_cons,Nat.add_mul,Nat.one_mul,Nat.add_comm (k*n) n]
   constructor
   .rw[←hl,List.take_length_add_append,hl,(ih k).1];rfl
   .rw[←hl,List.drop_length_add_append,hl,(ih k).2];rfl
theorem op_clear {lo m:Nat} {zr:α} {z:Value} {x:Operand} (hE:elB P t n=true) (he: ∀x,(enc x).length=n) (ho: ∀x,OneC (enc x)) (hx:af.ev x= .vsub v n lo m) (hl:lo+m≤xs.length) (hz: ∀w,(zeroValue (elemOfT P t)).run P w= .ok z w) (hzf: ∀M w,Fit M w (enc zr) z.cells.toList)
  (hk:K (af.put d (.exact (.tuple #[]))) (vecT P t n enc v (xs.take lo++List.replicate m zr++xs.drop (lo+m))::ρ)):opB P ⟨d, .call { callee:= .builtin .clear,args:= #[x],argTypes:= #[t] },ty,pos,after,g⟩ af (vecT P t n enc v xs::ρ) K:=by
 refine⟨λ a s=>a= .exact (.tuple #[])/\s=vecT P t n enc v (xs.take lo++List.replicate m zr++xs.drop (lo+m))::ρ,λ F w ev hg h=> ?_,λ av s ⟨e1,e2⟩=>by subst e1 e2;exact hk⟩
 obtain⟨ht,hn0,I,zz,hi,hz',hi1,hi2,hi3⟩:=elB_spec hE
 obtain⟨A,l,c,hv,hc1,hc2,e1⟩:=zgw h (x:=x) (by simp[Op.operands,Call.operands]) hx
 have hlen:(xs.take lo++List.replicate m zr++xs.drop (lo+m)).length=xs.length:=by simp;omega
 by_cases hm:m=0
 .subst hm
  have hcl:(Builtin.clear_ #[t] ty #[ev x]).run P w= .ok (.tuple #[]) w:=by
   rw[e1]
   split <;>(try cases A) <;>simp[Builtin.clear_,run_underlying ht]
  have hrun:(execOp ev ⟨d, .call { callee:= .builtin .clear,args:= #[x],argTypes:= #[t] },ty,pos,after,g⟩).run P w= .ok (.value (.tuple #[])) w:=by
   unfold execOp
   simp only[resolve,invoke,builtin,Sem.run_bind,Sem.run_pure,Result.andThen_ok,List.map_toArray,List.map_cons,List.map_nil,hcl]
  rw[hrun]
  have hxs:xs.take lo++List.replicate 0 zr++xs.drop (lo+0)=xs:=by simp
  refine⟨_,_,⟨rfl,rfl⟩,by rw[hxs];exact hg,(Keeps.refl noB w).mono (λ _ _ h=>h.elim),by rw[hxs];exact λ k h _=>h,rfl⟩
 .obtain⟨b,c',cur,vs,hv',hb,hnc,hcm,hcs,htk,hfit⟩:=vec_cells (hg.items _ List.mem_cons_self) (by rintro rfl;simp at hl;omega)
  rw[hv']at hv
  injection hv with q1 q2 q3
  subst q1 q2 q3
  rw[if_neg (by omega)]at e1
  have hadd:Option.map (λ x=>x.add (lo*n)) (some (⟨b,0,none⟩:Addr))=some ⟨b,lo*n,none⟩:=by simp[addr_add']
  rw[hadd]at e1
  have hbm:(lo+m)*n≤xs.length*n:=Nat.mul_le_mul_right _ hl
  have hcn:xs.length*n≤cur.size:=by rw[hcs];exact Nat.mul_le_mul_right _ hnc
  have haddm:(lo+m)*n=lo*n+m*n:=Nat.add_mul _ _ _
  have hfz:=λ M w=>fit_zeros (M:=M) (w:=w) (hzf M w) m
  have hul:(Builtin.zeroCells z.cells m).toList.length=m*n:=by rw[←(hfz noB w).length,flat_len (λ x _=>he x),List.length_replicate]
  have h1c: ∀u∈(Builtin.zeroCells z.cells m).toList,u.oneCell'=true:=(OneC.flatT (xs:=List.replicate m zr) ho).fit (hfz noB w)
  have hst:=run_storeCells_at (P:=P) b (lo*n) (elemOfT P t) (Builtin.zeroCells z.cells m).toList 0 cur w hb (by omega) h1c
  simp only[Nat.add_zero]at hst
  obtain⟨m',rfl⟩: ∃k,m=k+1:=⟨m - 1,by omega⟩
  have hcl:(Builtin.clear_ #[t] ty #[ev x]).run P w= .ok (.tuple #[]) (w.setRow b (splc cur.toList (lo*n) (Builtin.zeroCells z.cells (m'+1)).toList).toArray):=by
   rw[e1]
   simp[Builtin.clear_,run_underlying ht,hz,hst,splc]
  have hrun:(execOp ev ⟨d, .call { callee:= .builtin .clear,args:= #[x],argTypes:= #[t] },ty,pos,after,g⟩).run P w= .ok (.value (.tuple #[])) (w.setRow b (splc cur.toList (lo*n) (Builtin.zeroCells z.cells (m'+1)).toList).toArray):=by
   unfold execOp
   simp only[resolve,invoke,builtin,Sem.run_bind,Sem.run_pure,Result.andThen_ok,List.map_toArray,List.map_cons,List.map_nil,hcl]
  rw[hrun]
  generalize hus:(Builtin.zeroCells z.cells (m'+1)).toList=us at*
  generalize hmm:m'+1=m at*
  have hblt:=(Array.getElem?_eq_some_iff.1 hb).1
  have hob:v.ownBlock=some b:=by rw[hv'];rfl
  have hk:Keeps (λ k=>k∈(vecT P t n enc v xs).own) w (w.setRow b (splc cur.toList (lo*n) us).toArray):=⟨rfl,rfl,rfl,Nat.le_refl _,by simp,λ k hlt hn=>by
   have hne:k≠b:=λ e=>hn (by simp[vecT,vecI,hob,e])
   simp[World.setRow,Array.getElem?_modify,Ne.symm hne]⟩
  have hsp:splc cur.toList (lo*n) us=splc (cur.toList.take (xs.length*n)) (lo*n) us++cur.toList.drop (xs.length*n):=by
   unfold splc
   rw[List.take_take,Nat.min_eq_left (by omega),List.append_assoc _ _ (cur.toList.drop (xs.length*n))]
   congr 1
   rw[List.drop_take]
   have h9:lo*n+us.length+(xs.length*n - (lo*n+us.length))=xs.length*n:=by omega
   conv=>rhs;rhs;rw[←h9, ←List.drop_drop]
   rw[List.take_append_drop]
  have hsl:(splc vs (lo*n) us).length=xs.length*n:=by
   have hvl:vs.length=xs.length*n:=by rw[←hfit.length,flat_len (λ x _=>he x)]
   unfold splc;simp;omega
  have hflat:splc (xs.flatMap enc) (lo*n) ((List.replicate m zr).flatMap enc)=(xs.take lo++List.replicate m zr++xs.drop (lo+m)).flatMap enc:=by
   unfold splc
   rw[flat_len (λ x _=>he x),List.length_replicate, ←haddm,(flat_parts he xs lo).1,(flat_parts he xs (lo+m)).2,List.flatMap_append,List.flatMap_append]
  have hown:(w.setRow b (splc cur.toList (lo*n) us).toArray).ownsRow 0 (elemOfT P t) n v (xs.take lo++List.replicate m zr++xs.drop (lo+m)).length (splc vs (lo*n) us):=by
   refine⟨by rw[hsl,hlen], .inr ⟨b,c',(splc cur.toList (lo*n) us).toArray,by rw[hlen];exact hv',Nat.zero_le _,setRow_heap w b cur _ (elemOfT P t) _ hb,by rw[hlen];exact hnc,hcm, ?_, ?_⟩⟩
   .unfold splc;simp;omega
   .rw[hlen,hsp,htk]
    simp[←hsl]
  obtain⟨g1,g2,g3⟩:=good_head (it':=vecT P t n enc v (xs.take lo++List.replicate m zr++xs.drop (lo+m))) hg hk (λ k hk'=>⟨by simp[vecT,vecI,hob]at hk';subst hk';simpa using hblt,λ _=>hk'⟩) (by simp[vecT,vecI,hob])
   (λ hkk hMM=>⟨splc vs (lo*n) us,hown,by rw[←hflat];exact(Fit.spl (lo*n) hfit (hfz _ _)).keep hkk hMM⟩)
  exact⟨_,_,⟨rfl,rfl⟩,g1,g2,g3,rfl⟩
theorem op_len_vsub {lo m:Nat} {x:Operand} {K:AF->Prop} (hB:isSliceB P t=true) (hx:af.ev x= .vsub v n lo m) (hk:K (af.put d (.exact (.int .i64 (m:Int))))):opA P ⟨d, .call { callee:= .builtin .len,args:= #[x],argTypes:= #[t] },ty,pos,after,g⟩ af K:=by
 refine⟨_,λ M w ev _ h=> ?_,hk⟩
 obtain⟨A,l,c,_,_,_,hA⟩:=zgw h (x:=x) (by simp[Op.operands,Call.operands]) hx
 obtain⟨e,hu⟩:=isSliceB_spec hB
 simp[execOp,resolve,invoke,builtin,Builtin.len_,hA,zdq hu,goInt,go_sem,UponQ]
 exact⟨Keeps.refl _ _,rfl⟩
theorem op_index_vsub {e:TypeId} {k:IntKind} {i j:Int} {lo m:Nat} {x y:Operand} {K:AF->Prop} (hB:sliceB P t n=true) (hx:af.ev x= .vsub v n lo m) (hy:af.ev y= .exact (.int k i)) (h0:0≤i) (h1:i.toNat<m) (hl:0<xs.length) (hj:j.toNat=lo+i.toNat) (hk:K (af.put d (.eptr v (j.toNat*n)))):
  opR P ⟨d, .indexAddr t x y,ty,pos,after,g⟩ af (vecT P e n enc v xs::ρ) K:=by
 refine⟨_,λ F w ev hg h=> ?_,hk⟩
 obtain⟨A,l,c,hv',hc1,hc2,e1⟩:=zgw h (x:=x) (by simp[Op.operands]) hx
 have e2:=opnd h (x:=y) (by simp[Op.operands]) hy
 obtain⟨b,c',cur,vs,hv,_⟩:=vec_cells (hg.items _ List.mem_cons_self) (by rintro rfl;simp at hl)
 obtain⟨e',hu,hs⟩:=sliceB_spec hB
 rw[hv]at hv'
 injection hv' with q1 q2 q3
 subst q1 q2 q3
 rw[if_neg (by omega)]at e1
 have hadd0:Option.map (λ x=>x.add (lo*n)) (some (⟨b,0,none⟩:Addr))=some ⟨b,lo*n,none⟩:=by simp[addr_add']
 rw[hadd0]at e1
 have hadd:Addr.add ⟨b,lo*n,none⟩ (i.toNat*n)=⟨b,j.toNat*n,none⟩:=by rw[addr_at,hj,Nat.add_mul]
 have h1':i<(m:Int):=by omega
 subst hv
 simp[execOp,Instr.indexAt,e1,e2,zdq hu,asIntOf,h0,h1',run_size hs,hadd,go_sem,UponQ]
 exact⟨Keeps.refl _ _,b,_,_,rfl,by rw[hj,Nat.add_mul]⟩
end
end
noncomputable section
open Go.RowKit
section
variable {P:Program} {af:AF} {σ:Items} {d:Option Tmp} {ty t tn:TypeId} {pos:String} {after:Array Edge} {g:Option (Nat×Bool)} {α:Type} {n:Nat} {enc:α->List AV} {K:AF->Items->Prop}
end
end
noncomputable section
open Go.RowKit
section
variable {P:Program} {af:AF} {d:Option Tmp} {ty t:TypeId} {pos:String} {after:Array Edge} {g:Option (Nat×Bool)} {n:Nat} {K:AF->Prop} {x:Operand}
end
end
noncomputable section
open Go.RowKit
section
variable {P:Program} {af:AF} {σ ρ:Items} {d:Option Tmp} {ty t e:TypeId} {pos:String} {after:Array Edge} {g:Option (Nat×Bool)} {α:Type} {n:Nat} {enc:α->List AV} {xs ys:List α} {v:Value} {K:AF->Items->Prop}
def BorL (σ:Items) (x:AV) (n:Nat) (enc:α->List AV) (ys:List α):Prop:= ∀F w u,Good F σ w->x.p (both F (Items.own σ)) w u->
 ∃A c,u= .slice A ys.length c/\ys.length≤c/\(ys≠[]-> ∃b off,A=some ⟨b,off,none⟩/\ ∀(i:Nat) (y:α),ys[i]?=some y->(enc y).length=n/\CellsAt (both F (Items.own σ)) w b (off+i*n) (enc y))
theorem BorL.vec (hm:vecT P e n enc v xs∈σ) (he: ∀x,(enc x).length=n):BorL σ (.exact v) n enc xs:=λ F w u hg hx=>by
 obtain rfl:u=v:=hx
 have hit:=hg.items _ hm
 by_cases hne:xs=[]
 .subst hne
  obtain⟨us,hown,_⟩:=hit
  rcases hown.2 with⟨rfl,_⟩|⟨b,cap,cur,rfl,_⟩
  .exact⟨_,_,rfl,Nat.zero_le _,λ h=>absurd rfl h⟩
  .exact⟨_,_,rfl,Nat.zero_le _,λ h=>absurd rfl h⟩
 .obtain⟨b,c,cur,us,rfl,hb,hnc,_,hcs,htk,hfit⟩:=vec_cells hit hne
  refine⟨_,_,rfl,hnc,λ _=>⟨b,0,rfl, ?_⟩⟩
  have hcells:=zgn (b:=b) (off:=0) hfit (λ j u hu=>by
   have hj:j<us.length:=(List.getElem?_eq_some_iff.1 hu).1
   rw[Nat.zero_add,cell_of_row _ b _ _ _ (0,0) hb]
   rw[←htk,List.getElem?_take]at hu
   split at hu
   .simpa using hu
   .cases hu)
  intro i x hx
  exact⟨he x,hcells.sub (λ j a hj=>flat_get (λ x _=>he x) hx j a hj)⟩
theorem BorL.vsub {lo m:Nat} (hm:vecT P e n enc v xs∈σ) (he: ∀x,(enc x).length=n) (hl:lo+m≤xs.length):BorL σ (.vsub v n lo m) n enc ((xs.drop lo).take m):=λ F w u hg hx=>by
 obtain⟨A,l,c,rfl,hc1,hc2,rfl⟩:=hx
 obtain⟨A',c',hv,h1,h4⟩:=BorL.vec (w:=w) hm he F _ hg rfl
 injection hv with g1 g2 g3
 subst g1 g2 g3
 have hlen:((xs.drop lo).take m).length=m:=by simp;omega
 refine⟨(if c=lo then A else A.map (·.add (lo*n))),c - lo,by rw[hlen],by rw[hlen];exact hc2,λ hne=> ?_⟩
 have hxs:xs≠[]:=by rintro rfl;simp at hne
 obtain⟨b,off,rfl,hcell⟩:=h4 hxs
 have hpos:0<m:=by
  rcases Nat.eq_zero_or_pos m with h|h
  .subst h;simp at hne
  .exact h
 rw[if_neg (by omega)]
 refine⟨b,off+lo*n,by simp[addr_add'],λ q x hq=> ?_⟩
 have hq':xs[lo+q]?=some x:=by
  rw[List.getElem?_take]at hq
  split at hq
  .rwa [List.getElem?_drop]at hq
  .cases hq
 obtain⟨g1,g2⟩:=hcell _ _ hq'
 refine⟨g1, ?_⟩
 have e:off+(lo+q)*n=off+lo*n+q*n:=by rw[Nat.add_mul];omega
 rwa [e]at g2
end
end
noncomputable section
open Go.ChangeShapes Go.WideShapes Go.ChangeAt Go.RowKit Go.Deep
theorem Tryz.own:ownKnob Tryz.prog.godebug=none:=by kernel_rfl
theorem Tryz.laidOut:laidOutB Tryz.prog=true:=by kernel_rfl
theorem Keeps.below {w w':World} (h:Keeps noB w w'):Below w.heap.size w w':=⟨h.os,h.tape,h.output,h.size,λ k hk=>h.block k hk (λ hf=>hf)⟩
section
variable {P:Program} {t e:TypeId} {α β γ δ:Type}
def Opens (P:Program) (t:TypeId) (n:Nat) (enc:α->List AV) (sz:α->Nat) (Q:α->Prop):Prop:=
 ∀{H:Type} (e0:TypeId×Value->H) (W:World) (fuel:Nat) (cs:List Value) (y:DataW H×List MemPlace),DataW.trod e0 P W 0 (λ _=>true) true fuel t cs=some y-> ∃x:α,Q x/\cs.length=n/\Fit noB W (enc x) cs/\sz x≤Rows.uptoBulk y.1
theorem opens_int {k:IntKind} (ht:P.underlying t=some (.int k)):Opens P t 1 (λ x:Int=>[.exact (.int k x)]) (λ _=>1) (λ x=>(Lit.int k x).wf=true):=λ e0 W fuel cs y h=>by
 obtain⟨n,rfl,rfl,hw⟩:=DataW.trod_int ht h
 exact⟨n,hw,rfl,⟨rfl,trivial⟩,by simp[Rows.uptoBulk]⟩
theorem list_of {R:Nat->α->Prop}: ∀n:Nat,(∀i,i<n-> ∃x,R i x)-> ∃xs:List α,xs.length=n/\ ∀i x,xs[i]?=some x->R i x
 |0,_=>⟨[],rfl,λ i x h=>by simp at h⟩
 |n+1,h=>by
  obtain⟨xs,hl,hx⟩:=list_of n (λ i hi=>h i (by omega))
  obtain⟨x,hr⟩:=h n (by omega)
  refine⟨xs++[x],by simp[hl],λ i y hy=> ?_⟩
  rw[List.getElem?_append]at hy
  split at hy
  .exact hx i y hy
  .rename_i hge
   have:i=n:=by
    have:=(List.getElem?_eq_some_iff.1 hy).1
    simp at this;omega
   subst this
   simp[hl]at hy;subst hy;exact hr
def szL (sz:α->Nat) (xs:List α):Nat:=(xs.map sz).sum
theorem bulk_elems {H:Type} {sz:α->Nat}: ∀(xs:List α) (n:Nat) (D:Nat->DataW H),xs.length=n->(∀i x,xs[i]?=some x->sz x≤Rows.uptoBulk (D i))->szL sz xs≤Rows.uptoBulkAll ((List.range n).map D)
 |xs,n,D,hl,h=>by
  subst hl
  induction xs generalizing D with
  |nil=>simp[szL]
  |cons x xs ih=>
   have h0:=h 0 x rfl
   have h1:=ih (λ i=>D (i+1)) (λ i y hy=>h (i+1) y (by simpa using hy))
   rw[List.length_cons,List.range_succ_eq_map,List.map_cons,List.map_map]
   simp only[szL,List.map_cons,List.sum_cons,Rows.uptoBulkAll]at h1⊢
   exact Nat.add_le_add h0 h1
theorem opens_slice {n:Nat} {enc:α->List AV} {sz:α->Nat} {Q:α->Prop} (ht:P.underlying t=some (.slice e)) (hc:P.cellsOf e=n) (hn:0<n) (hx:Opens P e n enc sz Q):
  Opens P t 1 (λ xs:List α=>[.row n enc xs]) (λ xs=>szL sz xs+1) (λ xs=>xs.length≤maxLen/\ ∀x∈xs,Q x):=λ e0 W fuel cs y h=>by
 rcases open_slice ht h with⟨rfl,rfl⟩|⟨a,len,cap,m,k,D,Pl,rfl,_,hl,hm,hmm,rfl,hel⟩
 .exact⟨[],⟨by simp,by simp⟩,rfl,⟨⟨none,0,rfl,by simp,by simp,λ h=>absurd rfl h⟩,trivial⟩,by simp[szL,Rows.uptoBulk]⟩
 .simp only[if_true]at hmm
  obtain⟨xs,hxl,hxs⟩:=list_of (R:=λ i x=>Q x/\sz x≤Rows.uptoBulk (D i)/\ ∃cs',cs'.length=n/\Fit noB W (enc x) cs'/\ ∀j,j<n->W.cell? ((a.add (i*n)).add j)=cs'[j]?) len (λ i hi=>by
   obtain⟨cs',h1,h2⟩:=hel i (by omega)
   obtain⟨x,q,l,f,s⟩:=hx e0 W _ _ _ h2
   rw[hc]at h1
   obtain⟨_,hcl,hat⟩:=World.cells?_some h1
   exact⟨x,q,s,cs',hcl,f,hat⟩)
  refine⟨xs,⟨by omega,λ x hxm=> ?_⟩,rfl,⟨?_,trivial⟩, ?_⟩
  .obtain⟨i,hi⟩:=List.mem_iff_getElem?.1 hxm
   exact(hxs i x hi).1
  .unfold maxLen at hm
   refine⟨some a,cap,by rw[hxl],by omega,by omega,λ hne=> ?_⟩
   have hpos:0<xs.length:=List.length_pos_iff.2 hne
   obtain⟨_,_,c0,hc0,_,ha0⟩:=hxs 0 xs[0] (List.getElem?_eq_getElem hpos)
   have h00:=ha0 0 hn
   rw[List.getElem?_eq_getElem (by omega)]at h00
   obtain⟨b,off,spot⟩:=a
   have hspot:spot=none:=by simpa[Addr.add]using World.cell?_spot h00
   subst hspot
   refine⟨b,off,rfl, ?_,λ hf=>hf,λ i x hi=> ?_⟩
   .have:=World.block_lt_of_cell? W _ h00
    simpa[Addr.add]using this
   .obtain⟨_,_,cs',hcl,hf,hat⟩:=hxs i x hi
    have hle:(enc x).length=n:=by rw[hf.length,hcl]
    refine⟨hle,zgn hf (λ j u hu=> ?_)⟩
    have hj:j<n:=by rw[←hcl];exact(List.getElem?_eq_some_iff.1 hu).1
    have:=hat j hj
    rw[hu]at this
    rw[←this,addr_add',addr_add']
  .have:=bulk_elems xs len D hxl (λ i x hi=>(hxs i x hi).2.1)
   simp only[Rows.uptoBulk]
   omega
theorem arg_open {n:Nat} {enc:α->List AV} {sz:α->Nat} {Q:α->Prop} (h:Opens P t n enc sz Q) {H:Type} {e0:TypeId×Value->H} {W:World} {v:Value} {d:DataW H} {p:List MemPlace} (hv:v.cells= #[v]) (hd:DataW.Trod e0 P W 0 (λ _=>true) true t v d p):
  ∃x:α,Q x/\Fit noB W (enc x) [v]/\sz x≤Rows.uptoBulk d:=by
 obtain⟨fuel,hf⟩:=hd
 rw[hv]at hf
 obtain⟨x,q,_,k,s⟩:=h e0 W _ _ _ hf
 exact⟨x,q,k,s⟩
theorem plain_slice {W:World} {v:Value} (ht:P.underlying t=some (.slice e)) (h:Value.okWide P W .any 0 t v):v.cells= #[v]:=by
 obtain⟨a,n,c,rfl⟩:=okWide_slice ht h;rfl
theorem szL_len {sz:α->Nat} (h: ∀x,1≤sz x): ∀xs:List α,xs.length≤szL sz xs
 |[]=>Nat.le_refl 0
 |x::xs=>by have:=szL_len h xs;have:=h x;simp[szL]at *;omega
end
theorem post_of_below {H:Type} {enc:TypeId×Value->H} {P:Program} {f:Func} {s:ChangeSpec} {apart fresh handsOn again:Bool} {W W':World} {args:Array Value} {v:Value} {ds gs:List (DataW H)} {before pa pv:List MemPlace}
  (hW:DataW.Whole enc P f.params.toList s.vars apart W args.toList ds gs before)
  (hres: ∀(b:Nat) (sp:Nat->Bool) (hd:Bool),DataW.TrodAll enc P W' b sp hd f.resultTypes.toList (v.resultList f.resultTypes.size) (s.fn H (ds++gs)).results [])
  (hargs: ∀sp:Nat->Bool,(∀p∈before,sp p.block=true)->DataW.TrodAll enc P W' 0 sp true f.params.toList args.toList (s.fn H (ds++gs)).args pa)
  (hvars: ∀sp:Nat->Bool,(∀p∈before,sp p.block=true)->DataW.TrodVars enc P W' sp s.vars (s.fn H (ds++gs)).vars pv)
  (hps:before=pa++pv) (hb:Below W.heap.size W W')
  (hok: ∀(j:Nat) (t:TypeId) (r:Value),f.resultTypes[j]?=some t->(v.resultList f.resultTypes.size)[j]?=some r->Value.okWide P W' .any 0 t r):
  s.post enc P f apart fresh handsOn again W args v W':=by
 have hlt: ∀p∈before,p.block<W.heap.size:=λ p hp=>hW.lt p hp
 have hold: ∀p∈before,(λ b=>decide (b<W.heap.size)) p.block=true:=λ p hp=>by simpa using hlt p hp
 refine⟨ds,gs,before,[],pa,pv,hW,hres _ _ _,hargs _ hold,hvars _ hold,World.keptBut_mono (λ p hp=>⟨hp, ?_⟩) (hb.frame (· ∈before)),λ _=> ?_⟩
 .rw[hps,List.mem_append]at hp
  exact Or.inr hp
 .obtain⟨_,_,_,_,_,hz,hn⟩:=hW
  refine⟨hok,_,_,([]++pa)++pv,⟨[]++pa,pv,trodAll_append (hargs _ (λ _ _=>rfl)) (hres _ _ _),hvars _ (λ _ _=>rfl),rfl, ?_, ?_⟩, ?_⟩
  .intro b off hp
   have hin:MemPlace.cell b off∈before:=by rw[hps];simpa using hp
   rw[hb.frozen (hlt _ hin)]
   exact hz b off hin
  .intro ha
   have:=hn ha
   rw[hps]at this
   simpa using this
  .intro p hp _
   rw[hps]
   simpa using hp
theorem trod_after {H:Type} {enc:TypeId×Value->H} {t:TypeId} (hr:Tryz.prog.readableRec t=true) (hrow:t<Tryz.prog.types.size) {W W':World} {v:Value} {d:DataW H} {ps before:List MemPlace}
  (h:DataW.Trod enc Tryz.prog W 0 (λ _=>true) true t v d ps) (hb:Below W.heap.size W W') (hlt: ∀x∈ps,x.block<W.heap.size) (hin: ∀x∈ps,x∈before) (sp:Nat->Bool) (hsp: ∀p∈before,sp p.block=true):
  DataW.Trod enc Tryz.prog W' 0 sp true t v d ps:=
 WideElems.Trod_stays Tryz.laidOut hr hrow h (λ x hx=>hb.same (hlt x hx)) (λ x hx=>hsp x (hin x hx))
theorem Pure.call {P:Program} {f:FuncId} {args:List AV} {r:Value} (h:Pure P f args (.exact r)) {W:World} {vs:List Value} (hv:Fit noB W args vs):Calls P f vs.toArray W (λ e w'=>e= .returned r/\Below W.heap.size W w'):=
 (h noB W vs (λ _ hk=>hk.elim) hv).mono λ e w' ⟨v,e1,e2,e3⟩=>⟨by rw[e1];exact congrArg _ e3,e2.below⟩
end
noncomputable section
open Go.RowKit
section
variable {P:Program} {af:AF} {σ ρ:Items} {d:Option Tmp} {ty t e:TypeId} {pos:String} {after:Array Edge} {g:Option (Nat×Bool)} {α:Type} {n:Nat} {enc:α->List AV} {xs ys:List α} {v:Value}
theorem loadCells_list {w:World} {b o:Nat} (us:List Value) (h: ∀j,j<us.length-> ∃u,us[j]?=some u/\w.cell? ⟨b,o+(0+j),none⟩=some u):(loadCells ⟨b,o,none⟩ us.length).run P w= .ok us.toArray w:=by
 have:=run_cells (P:=P) (w:=w) (b:=b) us.length o 0 us #[] h rfl
 unfold loadCells
 rw[this];simp
theorem op_copy {lo1 m1 lo2 m2 q:Nat} {x y:Operand} {t2:TypeId} {K:AF->Items->Prop} (hE:elB P t n=true) (hE2:elB P t2 n=true) (he: ∀x,(enc x).length=n) (ho: ∀x,OneC (enc x)) (hx:af.ev x= .vsub v n lo1 m1) (hy:af.ev y= .vsub v n lo2 m2) (hl1:lo1+m1≤xs.length) (hl2:lo2+m2≤xs.length) (hq:Nat.min m2 m1=q)
  (hk:K (af.put d (.exact (.int .i64 (q:Int)))) (vecT P e n enc v (xs.take lo1++(xs.drop lo2).take q++xs.drop (lo1+q))::ρ)):opB P ⟨d, .call { callee:= .builtin .copy,args:= #[x,y],argTypes:= #[t,t2] },ty,pos,after,g⟩ af (vecT P e n enc v xs::ρ) K:=by
 refine⟨λ a s=>a= .exact (.int .i64 (q:Int))/\s=vecT P e n enc v (xs.take lo1++(xs.drop lo2).take q++xs.drop (lo1+q))::ρ,λ F w ev hg h=> ?_,λ av s ⟨e1,e2⟩=>by subst e1 e2;exact hk⟩
 obtain⟨ht,hn0,I,zz,hi,hz',hi1,hi2,hi3⟩:=elB_spec hE
 obtain⟨A,l,c,hv,hc1,hc2,e1⟩:=zgw h (x:=x) (by simp[Op.operands,Call.operands]) hx
 obtain⟨A2,l2,c2,hv2,hc3,hc4,e2⟩:=zgw h (x:=y) (by simp[Op.operands,Call.operands]) hy
 rw[hv]at hv2
 injection hv2 with q1 q2 q3
 subst q1 q2 q3
 have hq1:q≤m1:=by rw[←hq];exact Nat.min_le_right _ _
 have hq2:q≤m2:=by rw[←hq];exact Nat.min_le_left _ _
 have hlen:(xs.take lo1++(xs.drop lo2).take q++xs.drop (lo1+q)).length=xs.length:=by simp;omega
 by_cases hm:q=0
 .have hxs:xs.take lo1++(xs.drop lo2).take 0++xs.drop (lo1+0)=xs:=by simp
  have hcl:(Builtin.copy_ #[t,t2] ty #[ev x,ev y]).run P w= .ok (.int .i64 ((0:Nat):Int)) w:=by
   rw[e1,e2]
   have hq0:Nat.min m2 m1=0:=by omega
   split <;>split <;>(try cases A) <;>simp[Builtin.copy_,run_underlying ht,Builtin.lenOf,Builtin.firstCells,sizeOf,typeInfo,hi,hq0,loadCells,loadCellsFrom,storeCells,goInt]
  have hrun:(execOp ev ⟨d, .call { callee:= .builtin .copy,args:= #[x,y],argTypes:= #[t,t2] },ty,pos,after,g⟩).run P w= .ok (.value (.int .i64 ((0:Nat):Int))) w:=by
   unfold execOp
   simp only[resolve,invoke,builtin,Sem.run_bind,Sem.run_pure,Result.andThen_ok,List.map_toArray,List.map_cons,List.map_nil,hcl]
  rw[hrun]
  subst hm
  refine⟨_,_,⟨rfl,rfl⟩,by rw[hxs];exact hg,(Keeps.refl noB w).mono (λ _ _ h=>h.elim),by rw[hxs];exact λ k h _=>h,rfl⟩
 .obtain⟨b,c',cur,vs,hv',hb,hnc,hcm,hcs,htk,hfit⟩:=vec_cells (hg.items _ List.mem_cons_self) (by rintro rfl;simp at hl1;omega)
  rw[hv']at hv
  injection hv with q1 q2 q3
  subst q1 q2 q3
  rw[if_neg (by omega)]at e1 e2
  have hadd: ∀k,Option.map (λ x=>x.add (k*n)) (some (⟨b,0,none⟩:Addr))=some ⟨b,k*n,none⟩:=λ k=>by simp[addr_add']
  rw[hadd]at e1 e2
  have hbm1:(lo1+m1)*n≤xs.length*n:=Nat.mul_le_mul_right _ hl1
  have hbm2:(lo2+m2)*n≤xs.length*n:=Nat.mul_le_mul_right _ hl2
  have hcn:xs.length*n≤cur.size:=by rw[hcs];exact Nat.mul_le_mul_right _ hnc
  have ha1:(lo1+m1)*n=lo1*n+m1*n:=Nat.add_mul _ _ _
  have ha2:(lo2+m2)*n=lo2*n+m2*n:=Nat.add_mul _ _ _
  have hqn1:q*n≤m1*n:=Nat.mul_le_mul_right _ hq1
  have hqn2:q*n≤m2*n:=Nat.mul_le_mul_right _ hq2
  have hvl:vs.length=xs.length*n:=by rw[←hfit.length,flat_len (λ x _=>he x)]
  generalize hus:(vs.drop (lo2*n)).take (q*n)=us
  have hul:us.length=q*n:=by rw[←hus];simp;omega
  have hfu:Fit (both F (Items.own (vecT P e n enc v xs::ρ))) w (((xs.drop lo2).take q).flatMap enc) us:=by
   have:=(hfit.drop (lo2*n)).take (q*n)
   rw[(flat_parts he xs lo2).2,(flat_parts he (xs.drop lo2) q).1,hus]at this
   exact this
  have h1c: ∀u∈us,u.oneCell'=true:=(OneC.flatT (xs:=(xs.drop lo2).take q) ho).fit hfu
  have hld:(loadCells ⟨b,lo2*n,none⟩ (q*n)).run P w= .ok us.toArray w:=by
   rw[←hul]
   refine loadCells_list us (λ j hj=> ?_)
   rw[hul]at hj
   have hjv:lo2*n+j<vs.length:=by omega
   obtain⟨u,hu⟩: ∃u,vs[lo2*n+j]?=some u:=⟨_,List.getElem?_eq_getElem hjv⟩
   refine⟨u,by rw[←hus,List.getElem?_take,if_pos hj,List.getElem?_drop];exact hu, ?_⟩
   rw[cell_of_row _ b _ _ _ (0,0) hb,Nat.zero_add]
   have this:=hu
   rw[←htk,List.getElem?_take]at this
   split at this
   .simpa using this
   .cases this
  have hst:=run_storeCells_at (P:=P) b (lo1*n) (elemOfT P e) us 0 cur w hb (by omega) h1c
  simp only[Nat.add_zero,hul]at hst
  have hcl:(Builtin.copy_ #[t,t2] ty #[ev x,ev y]).run P w= .ok (.int .i64 (q:Int)) (w.setRow b (splc cur.toList (lo1*n) us).toArray):=by
   rw[e1,e2]
   simp[Builtin.copy_,run_underlying ht,Builtin.lenOf,Builtin.firstCells,sizeOf,typeInfo,hi,hi1,hq,hld,hst,splc,hul,goInt]
  have hrun:(execOp ev ⟨d, .call { callee:= .builtin .copy,args:= #[x,y],argTypes:= #[t,t2] },ty,pos,after,g⟩).run P w= .ok (.value (.int .i64 (q:Int))) (w.setRow b (splc cur.toList (lo1*n) us).toArray):=by
   unfold execOp
   simp only[resolve,invoke,builtin,Sem.run_bind,Sem.run_pure,Result.andThen_ok,List.map_toArray,List.map_cons,List.map_nil,hcl]
  rw[hrun]
  have hblt:=(Array.getElem?_eq_some_iff.1 hb).1
  have hob:v.ownBlock=some b:=by rw[hv'];rfl
  have hk:Keeps (λ k=>k∈(vecT P e n enc v xs).own) w (w.setRow b (splc cur.toList (lo1*n) us).toArray):=⟨rfl,rfl,rfl,Nat.le_refl _,by simp,λ k hlt hn=>by
   have hne:k≠b:=λ e=>hn (by simp[vecT,vecI,hob,e])
   simp[World.setRow,Array.getElem?_modify,Ne.symm hne]⟩
  have hqa:(lo1+q)*n=lo1*n+q*n:=Nat.add_mul _ _ _
  have hsp:splc cur.toList (lo1*n) us=splc (cur.toList.take (xs.length*n)) (lo1*n) us++cur.toList.drop (xs.length*n):=by
   unfold splc
   rw[List.take_take,Nat.min_eq_left (by omega),List.append_assoc _ _ (cur.toList.drop (xs.length*n))]
   congr 1
   rw[List.drop_take]
   have h9:lo1*n+us.length+(xs.length*n - (lo1*n+us.length))=xs.length*n:=by omega
   conv=>rhs;rhs;rw[←h9, ←List.drop_drop]
   rw[List.take_append_drop]
  have hsl:(splc vs (lo1*n) us).length=xs.length*n:=by
   unfold splc;simp;omega
  have hX:Fit (both F (Items.own (vecT P e n enc v xs::ρ))) w ((xs.take lo1++(xs.drop lo2).take q++xs.drop (lo1+q)).flatMap enc) (splc vs (lo1*n) us):=by
   unfold splc
   rw[List.flatMap_append,List.flatMap_append,hul, ←hqa]
   have f1:=hfit.take (lo1*n)
   rw[(flat_parts he xs lo1).1]at f1
   have f2:=hfit.drop ((lo1+q)*n)
   rw[(flat_parts he xs (lo1+q)).2]at f2
   exact(f1.app hfu).app f2
  have hnew:(w.setRow b (splc cur.toList (lo1*n) us).toArray).ownsRow 0 (elemOfT P e) n v (xs.take lo1++(xs.drop lo2).take q++xs.drop (lo1+q)).length (splc vs (lo1*n) us):=by
   refine⟨by rw[hsl,hlen], .inr ⟨b,c',(splc cur.toList (lo1*n) us).toArray,by rw[hlen];exact hv',Nat.zero_le _,setRow_heap w b cur _ (elemOfT P e) _ hb,by rw[hlen];exact hnc,hcm, ?_, ?_⟩⟩
   .unfold splc;simp;omega
   .rw[hlen,hsp,htk]
    simp[←hsl]
  obtain⟨g1,g2,g3⟩:=good_head (it':=vecT P e n enc v (xs.take lo1++(xs.drop lo2).take q++xs.drop (lo1+q))) hg hk (λ k hk'=>⟨by simp[vecT,vecI,hob]at hk';subst hk';simpa using hblt,λ _=>by simp[vecT,vecI,hob]at hk' ⊢;exact hk'⟩) (by simp[vecT,vecI,hob])
   (λ hkk hMM=>⟨_,hnew,hX.keep hkk hMM⟩)
  exact⟨_,_,⟨rfl,rfl⟩,g1,g2,g3,rfl⟩
theorem op_make {x y:Operand} {i:Int} {k1 k2:IntKind} {zr:α} {z:Value} {K:AF->Items->Prop} (hE:elB P t n=true) (hx:af.ev x= .exact (.int k1 i)) (hy:af.ev y= .exact (.int k2 i)) (h0:0≤i) (h1:i≤137438953472) (he: ∀x,(enc x).length=n)
  (hz: ∀w,(zeroValue (elemOfT P t)).run P w= .ok z w) (hzf: ∀M w,Fit M w (enc zr) z.cells.toList) (hk: ∀v',K (af.put d (.exact v')) (vecT P t n enc v' (List.replicate i.toNat zr)::σ)):
  opB P ⟨d, .makeSlice t x y,ty,pos,after,g⟩ af σ K:=by
 refine⟨λ a s=> ∃v',a= .exact v'/\s=vecT P t n enc v' (List.replicate i.toNat zr)::σ,λ F w ev hg h=> ?_,λ av s ⟨v',e1,e2⟩=>by subst e1 e2;exact hk v'⟩
 obtain⟨ht,hn0,I,zz,hi,hz',hi1,hi2,hi3⟩:=elB_spec hE
 have e1:=opnd h (x:=x) (by simp[Op.operands]) hx
 have e2:=opnd h (x:=y) (by simp[Op.operands]) hy
 have hzz:zz=z:=by
  have a1:=run_zero (P:=P) (t:=elemOfT P t) (z:=zz) (w:=w) (by rw[hi];exact hz')
  have a2:=hz w
  rw[a1]at a2
  injection a2
 subst hzz
 obtain⟨m,rfl⟩: ∃m:Nat,i=m:=⟨i.toNat,by omega⟩
 have hb:(I.bytes:Int)*(m:Int)≤281474976710656:=by
  have h9:I.bytes*m≤1024*137438953472:=Nat.mul_le_mul hi2 (by omega)
  rw[←Int.natCast_mul]
  generalize I.bytes*m=q at h9
  omega
 have hrun0:=run_make w t (elemOfT P t) I zz ht hi hz' k1 k2 (m:Int) (m:Int) h0 (Int.le_refl _) hb (by omega)
 simp only[Int.toNat_natCast]at hrun0
 have hmc:madeCells zz.cells (m*I.size)=Builtin.zeroCells zz.cells m:=by
  rw[hi1]
  simp[madeCells,Builtin.zeroCells,hi3]
 rw[hmc]at hrun0
 have hrun:(execOp ev ⟨d, .makeSlice t x y,ty,pos,after,g⟩).run P w= .ok (.value (.slice (some ⟨w.heap.size,0,none⟩) m m)) (w.alloc (.cells (Builtin.zeroCells zz.cells m) (elemOfT P t))):=by
  unfold execOp
  simp only[e1,e2,Sem.run_bind,hrun0,Result.andThen_ok,Sem.run_pure]
 rw[hrun]
 simp only[Int.toNat_natCast]
 have hb2:(w.alloc (.cells (Builtin.zeroCells zz.cells m) (elemOfT P t))).heap[w.heap.size]?=some (.cells (Builtin.zeroCells zz.cells m) (elemOfT P t) (0,0)):=heap_alloc_new w _
 have hzs:(Builtin.zeroCells zz.cells m).size=m*n:=by simp[Builtin.zeroCells,hi3]
 exact out_new (post:=λ a s=> ∃v',a= .exact v'/\s=vecT P t n enc v' (List.replicate m zr)::σ) (it:=vecT P t n enc (.slice (some ⟨w.heap.size,0,none⟩) m m) (List.replicate m zr)) hg (by simp[vecT,vecI,Value.ownBlock])
  (λ M hM=>⟨(Builtin.zeroCells zz.cells m).toList,⟨by simp[hzs], .inr ⟨w.heap.size,m,_,by simp,Nat.zero_le _,hb2,by simp,by simp only[maxLen];omega,hzs,by rw[List.length_replicate, ←hzs, ←Array.length_toList,List.take_length]⟩⟩,fit_zeros (hzf _ _) m⟩) (λ M=>rfl) ⟨_,rfl,rfl⟩
theorem arr_get [Inhabited α] {f:α->AV} {i:Int} (h0:0≤i) (h1:i<xs.length):(xs.map f)[0+i.toNat*1]?=some (f (gi xs i)):=by
 rw[Nat.zero_add,Nat.mul_one,List.getElem?_map,gi_get h0 h1];rfl
theorem arr_set_le {f:α->AV} {a:AV} {i:Int} (h0:0≤i) (h1:i<xs.length):0+i.toNat*1+[a].length≤(xs.map f).length:=by
 simp;omega
theorem arr_set {f:α->AV} {i:Int} {z:α} (h0:0≤i) (h1:i<xs.length):splc (xs.map f) (0+i.toNat*1) [f z]=(xs.set i.toNat z).map f:=by
 rw[Nat.zero_add,Nat.mul_one]
 have hi:i.toNat<xs.length:=by omega
 rw[List.map_set,List.set_eq_take_append_cons_drop,if_pos (by simpa using hi)]
 simp[splc]
theorem les_rep {f:α->AV} {z:α} {u:Value} (h:f z= .exact u): ∀N:Nat,LEs ((List.replicate N u).map AV.exact) ((List.replicate N z).map f)
 |0=>LEs.nil
 |N+1=>by rw[List.replicate_succ,List.replicate_succ,List.map_cons,List.map_cons];exact LEs.cons (AV.le_eq h.symm) (les_rep h N)
theorem op_allocA {K:AF->Items->Prop} {f:α->AV} (N:Nat) (z:α) (u:Value) {Z:Value} (hz:(P.info? t).bind (·.zero)=some Z) (hZ:Z.cells.toList=List.replicate N u) (hu:f z= .exact u) (hk: ∀b,K (af.put d (pA b 0)) (boxI t b ((List.replicate N z).map f)::σ)):
  opB P ⟨d, .alloc t,ty,pos,after,g⟩ af σ K:=zel hz (by rw[hZ];exact les_rep hu N) hk
end
end
noncomputable section
open Go.RowKit
section
variable {P:Program} {af:AF} {σ ρ:Items} {d:Option Tmp} {ty t u:TypeId} {pos:String} {after:Array Edge} {g:Option (Nat×Bool)} {xs ys:List UInt8} {v:Value} {K:AF->Items->Prop} {enc:UInt8->List AV}
end
theorem opB_frz {P:Program} {o:Oper} {af:AF} {σ:Items} {K:AF->Items->Prop} {α:Type} {d:Tmp} {t:TypeId} {n:Nat} {enc:α->List AV} (hd:o.dst=some d) (he: ∀x,(enc x).length=n)
  (h:opB P o af σ (λ af' σ'=> ∃v xs s0,af'=af.put o.dst (.exact v)/\σ'=vecT P t n enc v xs::s0/\K (af.put o.dst (.row n enc xs)) s0)):opB P o af σ K:=by
 obtain⟨post,hl,hp⟩:=h
 refine⟨λ av s=> ∃v xs,post (.exact v) (vecT P t n enc v xs::s)/\av= .row n enc xs/\K (af.put o.dst (.row n enc xs)) s,λ F w ev hg ho=> ?_,λ av s ⟨v,xs,h1,h2,h3⟩=>by subst h2;exact h3⟩
 have hout: ∀u w',Out F σ w post u w'->Out F σ w (λ av s=> ∃v xs,post (.exact v) (vecT P t n enc v xs::s)/\av= .row n enc xs/\K (af.put o.dst (.row n enc xs)) s) u w':=by
  rintro u w' ⟨av,σ',p1,p2,p3,p4,p5⟩
  obtain⟨v,xs,s0,e1,e2,hK⟩:=hp av σ' p1
  have eav:av= .exact v:=by
   have:=congrFun e1 d
   rw[hd,AF.put_same,AF.put_same]at this
   exact this
  subst e2 eav
  have hu:u=v:=p5
  subst hu
  have hM: ∀k,k<w'.heap.size->both F (Items.own s0) k->both F (Items.own (vecT P t n enc u xs::s0)) k:=λ k _ h=>h.imp id (λ h=>zch.2 (.inr h))
  have hnd:=p2.nodup
  rw[List.flatMap_cons,List.nodup_append]at hnd
  refine⟨.row n enc xs,s0,⟨u,xs,p1,rfl,hK⟩,⟨p2.fr,λ k h=>p2.own k (zch.2 (.inr h)),hnd.2.1,λ it hi=>it.keep (Keeps.refl _ _) hM (p2.items it (List.mem_cons_of_mem _ hi))⟩,p3,λ k h hlt=>p4 k (zch.2 (.inr h)) hlt, ?_⟩
  refine vec_row (λ k hk=> ?_) he (p2.items _ List.mem_cons_self) hM
  rintro (hF|hO)
  .exact(p2.own k (zch.2 (.inl (by simp[vecT,vecI,hk])))).2 hF
  .exact hnd.2.2 k (by simp[vecT,vecI,hk]) k hO rfl
 have:=hl F w ev hg ho
 revert this
 cases(execOp ev o).run P w with
 |ok nx w'=>
  cases nx with
  |value v=>exact hout v w'
  |skip=>exact hout undef w'
  |enter f args=>exact λ h=>h.mono λ e w'' ⟨v,e1,e2⟩=>⟨v,e1,hout v w'' e2⟩
  |row r args=>exact λ h=>h.mono λ v w'' e2=>hout v w'' e2
  |_=>exact id
 |_=>exact id
end
noncomputable section
open Go.RowKit
section
variable {P:Program} {ops:Array Oper} {E:Env} {n:Nat} {af:AF} {σ:Items} {F:BSet} {w:World} {it:Item}
theorem both_cons:both (both F (λ k=>k∈it.own)) (Items.own σ)=both F (Items.own (it::σ)):=by
 funext k
 simp only[both,zch,eq_iff_iff]
 constructor
 .rintro ((h|h)|h)
  .exact .inl h
  .exact .inr (.inl h)
  .exact .inr (.inr h)
 .rintro (h|h|h)
  .exact .inl (.inl h)
  .exact .inl (.inr h)
  .exact .inr h
theorem good_frame (hg:Good F (it::σ) w):Good (both F (λ k=>k∈it.own)) σ w:=by
 have hnd:=hg.nodup
 rw[List.flatMap_cons,List.nodup_append]at hnd
 refine⟨λ k h=>h.elim (hg.fr k) (λ h=>(hg.own k (zch.2 (.inl h))).1),λ k h=>⟨(hg.own k (zch.2 (.inr h))).1,λ h'=>h'.elim (hg.own k (zch.2 (.inr h))).2 (λ h'=>hnd.2.2 k h' k h rfl)⟩,hnd.2.1,λ x hx=> ?_⟩
 rw[both_cons]
 exact hg.items x (List.mem_cons_of_mem _ hx)
theorem out_frame {post:AV->Items->Prop} {v:Value} {w':World} (hg:Good F (it::σ) w) (h:Out (both F (λ k=>k∈it.own)) σ w post v w'):Out F (it::σ) w (λ a s=> ∃s',s=it::s'/\post a s') v w':=by
 obtain⟨av,s,h1,h2,h3,h4,h5⟩:=h
 have hnd:=hg.nodup
 rw[List.flatMap_cons,List.nodup_append]at hnd
 refine⟨av,it::s,⟨s,rfl,h1⟩,⟨λ k hk=>h2.fr k (.inl hk),λ k hk=> ?_, ?_,λ x hx=> ?_⟩,h3.mono (λ k _ hk=>zch.2 (.inr hk)),λ k hk hlt=> ?_, ?_⟩
 .rcases zch.1 hk with hk|hk
  .exact⟨h2.fr k (.inr hk),(hg.own k (zch.2 (.inl hk))).2⟩
  .exact⟨(h2.own k hk).1,λ hF=>(h2.own k hk).2 (.inl hF)⟩
 .rw[List.flatMap_cons,List.nodup_append]
  exact⟨hnd.1,h2.nodup,λ a ha b hb hab=>by subst hab;exact(h2.own a hb).2 (.inr ha)⟩
 .rcases List.mem_cons.1 hx with rfl|hx
  .refine x.keep (M:=both F (Items.own (x::σ))) (h3.mono (λ k _ hk=>⟨.inr (zch.2 (.inr hk)),λ hk'=>hnd.2.2 k hk' k hk rfl⟩)) (λ k hlt hk=> ?_) (hg.items x List.mem_cons_self)
   refine hk.imp id (λ hk=> ?_)
   rcases zch.1 hk with hk|hk
   .exact zch.2 (.inl hk)
   .exact zch.2 (.inr (h4 k hk hlt))
  .rw[←both_cons];exact h2.items x hx
 .rcases zch.1 hk with hk|hk
  .exact zch.2 (.inl hk)
  .exact zch.2 (.inr (h4 k hk hlt))
 .rw[←both_cons];exact h5
theorem Loud.frame {o:Oper} {post:AV->Items->Prop} (h:Loud P o af σ post):Loud P o af (it::σ) (λ a s=> ∃s',s=it::s'/\post a s'):=by
 intro F w ev hg hx
 have h1:=h _ w ev (good_frame hg) (λ x hm=>by rw[both_cons];exact hx x hm)
 generalize(execOp ev o).run P w=r at h1
 cases r with
 |ok n w'=>
  cases n <;>simp only[Upon]at h1⊢ <;>try exact h1.elim
  case value v=>exact out_frame hg h1
  case skip=>exact out_frame hg h1
  case enter f args=>exact h1.mono λ e w'' ⟨v,he,ho⟩=>⟨v,he,out_frame hg ho⟩
  case row r args=>exact h1.mono λ v w'' ho=>out_frame hg ho
 |halt x w'=>exact h1.elim
theorem Reads.frame {o:Oper} {av:AV} (h:Reads P o af σ av):Reads P o af (it::σ) av:=by
 intro F w ev hg hx
 have h1:=h _ w ev (good_frame hg) (λ x hm=>by rw[both_cons];exact hx x hm)
 rwa [both_cons]at h1
theorem Loud.put {o oj:Oper} {post:AV->Items->Prop} (x:AV) (h: ∀d,oj.dst=some d->d∉o.looksAt ops) (hq:Loud P o af σ post):Loud P o (af.put oj.dst x) σ post:=
 λ F w ev hg hx=>hq F w ev hg (λ y hy=>by have:=hx y hy;rwa [ev_put af x h y hy]at this)
inductive Ent where
 |op (kd i:Nat)
 |new (a:Nat) (d:Tmp) (t:TypeId) (c:List AV)
variable {kp:Items}
def PC (K:AF->Items->Prop) (af:AF) (σ:Items):Prop:= ∃σ',σ'.Perm σ/\K af σ'
theorem PC.mk {K:AF->Items->Prop} (h:K af σ):PC K af σ:=⟨σ,List.Perm.refl _,h⟩
theorem PC.perm {K:AF->Items->Prop} {τ:Items} (h:PC K af σ) (hp:σ.Perm τ):PC K af τ:=let⟨σ',h1,h2⟩:=h;⟨σ',h1.trans hp,h2⟩
theorem Has.perm {τ:Items} (h:Has kp σ) (hp:σ.Perm τ):Has kp τ:=λ it hi=>hp.mem_iff.1 (h it hi)
def wpE (P:Program) (ops:Array Oper) (kp:Items) (K:AF->Items->Prop):List Ent->AF->Items->Prop
 |[],af,σ=>K af σ
 | .op kd i::rest,af,σ=> ∃o,ops[i]?=some o/\((Sat ops o af false/\(kd=3∨kd=4->Has kp σ)/\PC (wpE P ops kp K rest) (af.put o.dst undefA) σ)∨(Sat ops o af true/\opK P kp kd o af σ (PC (wpE P ops kp K rest))))
 | .new _ d t c::rest,af,σ=> ∀b,PC (wpE P ops kp K rest) (af.put (some d) (pA b 0)) (boxI t b c::σ)
theorem opK_mono {kd:Nat} {o:Oper} {K K':AF->Items->Prop} (hK: ∀af σ,K af σ->K' af σ) (h:opK P kp kd o af σ K):opK P kp kd o af σ K':=by
 unfold opK at*
 split at h
 .obtain⟨p,h1,h2⟩:=h;exact⟨p,h1,λ a s hp=>⟨(h2 a s hp).1,hK _ _ (h2 a s hp).2⟩⟩
 .obtain⟨h0,a,h1,h2⟩:=h;exact⟨h0,a,h1,hK _ _ h2⟩
 .obtain⟨a,h1,h2⟩:=h;exact⟨a,h1,hK _ _ h2⟩
 .obtain⟨a,h1,h2⟩:=h;exact⟨a,h1,hK _ _ h2⟩
 .obtain⟨p,h1,h2⟩:=h;exact⟨p,h1,λ a s hp=>hK _ _ (h2 a s hp)⟩
def entOf (p:Nat×Nat):Ent:= .op p.1 p.2
theorem S_go {K:AF->Items->Prop} {es rest:List Ent}: ∀(l:List (Nat×Nat)),es=l.map entOf++rest-> ∀{af:AF} {σ:Items},wpP P ops kp (wpE P ops kp K rest) l af σ->wpE P ops kp K es af σ:=by
 intro l
 induction l generalizing es with
 |nil=>intro he af σ h;subst he;exact h
 |cons p l ih=>
  intro he af σ h
  subst he
  obtain⟨kd,i⟩:=p
  obtain⟨o,h0,h⟩:=h
  refine⟨o,h0, ?_⟩
  rcases h with⟨h1,h2,h3⟩|⟨h1,h2⟩
  .exact .inl ⟨h1,h2,PC.mk (ih rfl h3)⟩
  .exact .inr ⟨h1,opK_mono (λ af σ hh=>PC.mk (ih rfl hh)) h2⟩
theorem S_new {K:AF->Items->Prop} {rest:List Ent} {a:Nat} {d:Tmp} {t:TypeId} {c:List AV} (h: ∀b,wpE P ops kp K rest (af.put (some d) (pA b 0)) (boxI t b c::σ)):wpP P ops kp (wpE P ops kp K (.new a d t c::rest)) [] af σ:=λ b=>PC.mk (h b)
theorem S_end {K:AF->Items->Prop} (h:K af σ):wpP P ops kp (wpE P ops kp K []) [] af σ:=h
def dropN (a:Nat):List Ent->List Ent
 |[]=>[]
 | .op kd i::es=> .op kd i::dropN a es
 | .new a' d t c::es=>bif Nat.beq a' a then es else .new a' d t c::dropN a es
def earlyB (ops:Array Oper) (a:Nat):List Ent->Bool
 |[]=>false
 | .op _ i::es=>(match ops[a]?,ops[i]? with|some oa,some oi=>oa.apart ops oi|_,_=>false) && earlyB ops a es
 | .new a' _ _ _::es=>Nat.beq a' a ||((match ops[a]?,ops[a']? with|some oa,some oi=>oa.apart ops oi|_,_=>false) && earlyB ops a es)
def NewOK (P:Program) (ops:Array Oper) (es:List Ent):Prop:=
 ∀a d t c,Ent.new a d t c∈es-> ∃ty pos after z,ops[a]?=some ⟨some d, .alloc t,ty,pos,after,none⟩/\(P.info? t).bind (·.zero)=some z/\LEs (z.cells.toList.map AV.exact) c
def findN (a:Nat):List Ent->Option (Tmp×TypeId×List AV)
 |[]=>none
 | .op _ _::es=>findN a es
 | .new a' d t c::es=>bif Nat.beq a' a then some (d,t,c)else findN a es
theorem findN_mem {a:Nat} {d:Tmp} {t:TypeId} {c:List AV}: ∀{es:List Ent},findN a es=some (d,t,c)->Ent.new a d t c∈es
 |[],h=>by cases h
 | .op _ _::es,h=>List.mem_cons_of_mem _ (findN_mem (es:=es) h)
 | .new a' d' t' c'::es,h=>by
  rw[findN]at h
  cases hb:Nat.beq a' a with
  |true=>
   rw[hb]at h
   have:a'=a:=Nat.eq_of_beq_eq_true hb
   subst this
   injection h with h
   injection h with h1 h
   injection h with h2 h3
   subst h1 h2 h3
   exact List.mem_cons_self
  |false=>rw[hb]at h;exact List.mem_cons_of_mem _ (findN_mem (es:=es) h)
theorem findN_early {a:Nat}: ∀{es:List Ent},earlyB ops a es=true-> ∃x,findN a es=some x
 |[],h=>by cases h
 | .op _ _::es,h=>by
  simp only[earlyB,Bool.and_eq_true]at h
  exact findN_early (es:=es) h.2
 | .new a' d' t' c'::es,h=>by
  cases h':Nat.beq a' a with
  |true=>exact⟨_,by rw[findN,h'];rfl⟩
  |false=>
   simp only[earlyB,h',Bool.false_or,Bool.and_eq_true]at h
   obtain⟨x,hx⟩:=findN_early (es:=es) h.2
   exact⟨x,by rw[findN,h'];exact hx⟩
theorem opK_early {kd:Nat} {o oa:Oper} {u:AV} {K K':AF->Items->Prop} (hap:oa.apart ops o=true)
  (hK: ∀x σ,K (af.put o.dst x) σ->K' ((af.put oa.dst u).put o.dst x) (it::σ)) (h:opK P kp kd o af σ K):opK P kp kd o (af.put oa.dst u) (it::σ) K':=by
 obtain⟨h1,h2,h3⟩:=Oper.apart_spec hap
 have hB: ∀{J J':AF->Items->Prop},(∀x σ,J (af.put o.dst x) σ->J' ((af.put oa.dst u).put o.dst x) (it::σ))->opB P o af σ J->opB P o (af.put oa.dst u) (it::σ) J':=λ hJ ⟨post,g1,g2⟩=>
  ⟨_,(g1.put u h1).frame,λ a s ⟨s',e,hp⟩=>by subst e;exact hJ a s' (g2 a s' hp)⟩
 unfold opK at*
 split at h
 .exact hB (λ x σ ⟨hk,hh⟩=>⟨λ y hy=>List.mem_cons_of_mem _ (hk y hy),hK x σ hh⟩) h
 .obtain⟨h0,a,g1,g2⟩:=h
  exact⟨λ y hy=>List.mem_cons_of_mem _ (h0 y hy),a,λ σ hk=>(g1 σ hk).put u h1,hK a σ g2⟩
 .obtain⟨a,g1,g2⟩:=h
  exact⟨a,g1.put u h1,hK a σ g2⟩
 .obtain⟨a,g1,g2⟩:=h
  exact⟨a,(g1.put u h1).frame,hK a σ g2⟩
 .exact hB hK h
theorem early {K:AF->Items->Prop} {a:Nat} {d:Tmp} {t:TypeId} {c:List AV} {oa:Oper} (ha:ops[a]?=some oa) (hd:oa.dst=some d): ∀{es:List Ent} {af:AF} {σ:Items},NewOK P ops es->earlyB ops a es=true->findN a es=some (d,t,c)->wpE P ops kp K es af σ->
  ∀b,PC (wpE P ops kp K (dropN a es)) (af.put oa.dst (pA b 0)) (boxI t b c::σ)
 |[],_,_,_,h,_,_=>by cases h
 | .new a' d' t' c'::es,af,σ,hN,h,hf,hw=>by
  intro b
  cases hb:Nat.beq a' a with
  |true=>
   rw[findN,hb]at hf
   injection hf with hf
   injection hf with e1 hf
   injection hf with e2 e3
   subst e1 e2 e3
   rw[dropN,hb,hd]
   exact hw b
  |false=>
   rw[findN,hb]at hf
   simp only[earlyB,hb,Bool.false_or,Bool.and_eq_true]at h
   obtain⟨hap,he⟩:=h
   obtain⟨ty,pos,after,z,h0,_⟩:=hN a' d' t' c' List.mem_cons_self
   simp only[ha,h0]at hap
   obtain⟨h1,h2,h3⟩:=Oper.apart_spec hap
   rw[dropN,hb]
   refine PC.mk (λ b'=> ?_)
   obtain⟨σ',p',hw'⟩:=hw b'
   have ih:=early ha hd (es:=es) (λ a d t c hm=>hN a d t c (List.mem_cons_of_mem _ hm)) he hf hw' b
   rw[AF.put_comm af (pA b 0) (pA b' 0) h2]
   exact ih.perm ((p'.cons _).trans (List.Perm.swap _ _ _))
 | .op kd i::es,af,σ,hN,h,hf,hw=>by
  intro b
  simp only[earlyB,Bool.and_eq_true]at h
  obtain⟨hap,he⟩:=h
  obtain⟨o,h0,hw⟩:=hw
  simp only[ha,h0]at hap
  obtain⟨h1,h2,h3⟩:=Oper.apart_spec hap
  have ih:=λ(x:AV) (σ':Items) (hh:wpE P ops kp K es (af.put o.dst x) σ')=>early ha hd (es:=es) (λ a d t c hm=>hN a d t c (List.mem_cons_of_mem _ hm)) he hf hh b
  have ih': ∀x σ',PC (wpE P ops kp K es) (af.put o.dst x) σ'->PC (wpE P ops kp K (dropN a es)) ((af.put oa.dst (pA b 0)).put o.dst x) (boxI t b c::σ'):=λ x σ' ⟨τ,pt,hh⟩=>by
   rw[AF.put_comm af (pA b 0) x h2];exact(ih x τ hh).perm (pt.cons _)
  refine PC.mk ⟨o,h0, ?_⟩
  rcases hw with⟨g1,g2,g3⟩|⟨g1,g2⟩
  .exact .inl ⟨(Sat.put_iff _ h1).2 g1,λ hk=>λ y hy=>List.mem_cons_of_mem _ (g2 hk y hy),ih' _ _ g3⟩
  .exact .inr ⟨(Sat.put_iff _ h1).2 g1,opK_early hap ih' g2⟩
def planOf:List Ent->List (Nat×Nat)
 |[]=>[]
 | .op kd i::es=>(kd,i)::planOf es
 | .new a _ _ _::es=>(5,a)::planOf es
def lexE (ops:Array Oper) (plan:List (Nat×Nat)):Nat->List Ent->Array Bool->Bool
 |0,es,listed=>es.isEmpty && (Region.ready .any ops listed).isEmpty
 |fuel+1,es,listed=>match es with
  |[]=>false
  | .op kd k::rest=>Nat.beq (kindOf plan k) kd && !(Nat.beq kd 5) && (bif Nat.beq kd 0 ||Nat.beq kd 1 ||Nat.beq kd 4 then(Region.ready .any ops listed).contains k && freeK ops plan listed k else(Region.ready .any ops listed).contains k && (Region.ready .any ops listed).all (λ j=>Nat.beq j k ||(Nat.beq (kindOf plan j) 5 && earlyB ops j (.op kd k::rest) && lexE ops plan fuel (dropN j (.op kd k::rest)) (listed.setIfInBounds j true)))) && lexE ops plan fuel rest (listed.setIfInBounds k true)
  | .new k d t c::rest=>Nat.beq (kindOf plan k) 5 && (Region.ready .any ops listed).contains k && (Region.ready .any ops listed).all (λ j=>Nat.beq j k ||(Nat.beq (kindOf plan j) 5 && earlyB ops j (.new k d t c::rest) && lexE ops plan fuel (dropN j (.new k d t c::rest)) (listed.setIfInBounds j true))) && lexE ops plan fuel rest (listed.setIfInBounds k true)
theorem dropN_sub {a:Nat} {e:Ent}: ∀{es:List Ent},e∈dropN a es->e∈es
 |[],h=>h
 | .op kd i::es,h=>by
  rw[dropN]at h
  rcases List.mem_cons.1 h with rfl|h
  .exact List.mem_cons_self
  .exact List.mem_cons_of_mem _ (dropN_sub h)
 | .new a' d t c::es,h=>by
  rw[dropN]at h
  cases hb:Nat.beq a' a with
  |true=>rw[hb]at h;exact List.mem_cons_of_mem _ h
  |false=>
   rw[hb]at h
   rcases List.mem_cons.1 h with rfl|h
   .exact List.mem_cons_self
   .exact List.mem_cons_of_mem _ (dropN_sub h)
theorem stepK_new {a:Nat} {d:Tmp} {t:TypeId} {c:List AV} {es:List Ent} {K:AF->Items->Prop} (hN:NewOK P ops es) (hm:Ent.new a d t c∈es) (h: ∀b,K (af.put (some d) (pA b 0)) (boxI t b c::σ)):stepK P ops kp 5 a K af σ:=by
 obtain⟨ty,pos,after,z,h0,hz,hc⟩:=hN a d t c hm
 exact⟨_,t,c,h0,⟨rfl,λ af σ=>loud_alloc hz hc⟩,h⟩
theorem YieldsK.perm {kd:Nat} {o:Oper} {av:AV} {τ:Items} (hp:σ.Perm τ) (h:YieldsK P ops kp kd σ o av af):YieldsK P ops kp kd τ o av af:=by
 unfold YieldsK at*
 split at h
 .exact h
 .exact⟨h.1,h.2.perm hp⟩
 .exact h.imp id (λ⟨h1,h2⟩=>⟨h1,h2.perm hp.symm⟩)
theorem anyK_of_ent {plan:List (Nat×Nat)} {K:AF->Items->Prop}: ∀(fuel:Nat) (es:List Ent) (listed:Array Bool) (af:AF) (σ:Items),NewOK P ops es->Down ops listed->
  lexE ops plan fuel es listed=true->PC (wpE P ops kp K es) af σ->anyK P ops kp (kindOf plan) (PC K) fuel listed af σ
 |0,es,listed,af,σ,_,_,hB,h=>by
  simp only[lexE,Bool.and_eq_true,List.isEmpty_iff]at hB
  obtain⟨h1,h2⟩:=hB
  subst h1
  exact⟨h2,h⟩
 |fuel+1,[],listed,af,σ,_,_,hB,h=>by simp[lexE]at hB
 |fuel+1, .new k d t c::rest,listed,af,σ,hN,hD,hB,⟨τ,pτ,h⟩=>by
  rw[lexE]at hB
  simp only[Bool.and_eq_true]at hB
  obtain⟨⟨⟨hk,hr⟩,hall⟩,hB2⟩:=hB
  have hk:kindOf plan k=5:=Nat.eq_of_beq_eq_true hk
  have hr':k∈Region.ready .any ops listed:=by simpa using hr
  refine⟨λ h0=>(by rw[h0]at hr';cases hr'),λ j hj=> ?_⟩
  have hj':=List.all_eq_true.1 hall j hj
  simp only[Bool.or_eq_true,Bool.and_eq_true]at hj'
  rcases hj' with hjk|⟨⟨hj2,hje⟩,hjl⟩
  .obtain rfl:j=k:=Nat.eq_of_beq_eq_true hjk
   rw[hk]
   exact⟨stepK_new hN List.mem_cons_self (λ b=>anyK_of_ent fuel rest _ _ _ (λ a d t c hm=>hN a d t c (List.mem_cons_of_mem _ hm)) (hD.step hr') hB2 ((h b).perm (pτ.cons _))),λ h4=>by cases h4⟩
  .have hj2:kindOf plan j=5:=Nat.eq_of_beq_eq_true hj2
   rw[hj2]
   obtain⟨⟨d',t',c'⟩,hf⟩:=findN_early hje
   have hm:=findN_mem hf
   obtain⟨ty,pos,after,z,ha,hz,hc⟩:=hN j d' t' c' hm
   have hE:=early (kp:=kp) (K:=K) ha rfl hN hje hf h
   exact⟨stepK_new hN hm (λ b=>anyK_of_ent fuel (dropN j (.new k d t c::rest)) _ _ _ (λ a d t c hm=>hN a d t c (dropN_sub hm)) (hD.step hj) hjl ((hE b).perm (pτ.cons _))),λ h4=>by cases h4⟩
 |fuel+1, .op kd k::rest,listed,af,σ,hN,hD,hB,⟨τ,pτ,h⟩=>by
  have hN':NewOK P ops rest:=λ a d t c hm=>hN a d t c (List.mem_cons_of_mem _ hm)
  have hw:=h
  obtain⟨o,h0,h⟩:=h
  rw[lexE]at hB
  simp only[Bool.and_eq_true]at hB
  obtain⟨⟨⟨hB0,hB5⟩,hB1⟩,hB2⟩:=hB
  have hkd:kindOf plan k=kd:=Nat.eq_of_beq_eq_true hB0
  have h5:kd≠5:=λ e=>by subst e;simp at hB5
  by_cases hq:kd=0∨kd=1∨kd=4
  .have hqb:(Nat.beq kd 0 ||Nat.beq kd 1 ||Nat.beq kd 4)=true:=by rcases hq with h|h|h <;>rw[h] <;>rfl
   rw[hqb]at hB1
   simp only[cond_true,Bool.and_eq_true]at hB1
   obtain⟨hr,hf⟩:=hB1
   have hr':k∈Region.ready .any ops listed:=by simpa using hr
   have hy: ∃av,YieldsK P ops kp (kindOf plan k) τ o av af/\PC (wpE P ops kp K rest) (af.put o.dst av) τ:=by
    rw[hkd]
    rcases h with⟨h1,hkp,h2⟩|⟨h1,h2⟩
    .refine⟨undefA, ?_,h2⟩
     unfold YieldsK
     split
     .exact .inl ⟨h1,rfl⟩
     .exact⟨.inl ⟨h1,rfl⟩,hkp (.inr rfl)⟩
     .exact .inl ⟨h1,rfl⟩
    .rcases hq with rfl|rfl|rfl
     .obtain⟨av,g1,g2⟩:=h2
      exact⟨av, .inr ⟨h1,g1⟩,g2⟩
     .obtain⟨av,g1,g2⟩:=h2
      exact⟨av, .inr ⟨h1,g1⟩,g2⟩
     .obtain⟨hkp,av,g1,g2⟩:=h2
      exact⟨av,⟨.inr ⟨h1,g1⟩,hkp⟩,g2⟩
   obtain⟨av,hy,hK⟩:=hy
   exact anyK_first (kinds:=kindOf plan) h0 (by rw[hkd];exact hq) fuel listed af σ hD (freeK_spec h0 hf) hr' (hy.perm pτ) (anyK_of_ent fuel rest _ _ σ hN' (hD.step hr') hB2 (hK.perm pτ))
  .have hqb:(Nat.beq kd 0 ||Nat.beq kd 1 ||Nat.beq kd 4)=false:=by
    cases h1:Nat.beq kd 0 with
    |true=>exact absurd (.inl (Nat.eq_of_beq_eq_true h1)) hq
    |false=>cases h2:Nat.beq kd 1 with
     |true=>exact absurd (.inr (.inl (Nat.eq_of_beq_eq_true h2))) hq
     |false=>cases h3:Nat.beq kd 4 with
      |true=>exact absurd (.inr (.inr (Nat.eq_of_beq_eq_true h3))) hq
      |false=>rfl
   rw[hqb]at hB1
   simp only[cond_false,Bool.and_eq_true]at hB1
   obtain⟨hr,hall⟩:=hB1
   have hr':k∈Region.ready .any ops listed:=by simpa using hr
   refine⟨λ h0=>(by rw[h0]at hr';cases hr'),λ j hj=> ?_⟩
   have hj':=List.all_eq_true.1 hall j hj
   simp only[Bool.or_eq_true,Bool.and_eq_true]at hj'
   rcases hj' with hjk|⟨⟨hj2,hje⟩,hjl⟩
   .obtain rfl:j=k:=Nat.eq_of_beq_eq_true hjk
    rw[hkd]
    refine⟨?_,λ h4=>absurd (.inr (.inr h4)) hq⟩
    by_cases h3:kd=3
    .subst h3
     refine stepK_3 ?_
     unfold stepA;simp only[h0]
     rcases h with⟨h1,hkp,h2⟩|⟨h1,h2⟩
     .exact .inl ⟨h1,(hkp (.inl rfl)).perm pτ,anyK_of_ent fuel rest _ _ σ hN' (hD.step hr') hB2 (h2.perm pτ)⟩
     .have h2':opB P o af τ (λ af s=>Has kp s/\PC (wpE P ops kp K rest) af s):=h2
      obtain⟨post,p1,p2⟩:=opB_perm pτ.symm h2'
      exact .inr ⟨h1,post,p1,λ av σ' hp=>⟨(p2 av σ' hp).1,anyK_of_ent fuel rest _ _ σ' hN' (hD.step hr') hB2 (p2 av σ' hp).2⟩⟩
    have e: ∀K af σ,stepK P ops kp kd j K af σ=stepA P ops j K af σ:=λ K af σ=>by
     unfold stepK
     split
     .exact absurd rfl h3
     .exact absurd (.inr (.inr rfl)) hq
     .exact absurd (.inl rfl) hq
     .exact absurd (.inr (.inl rfl)) hq
     .exact absurd rfl h5
     .rfl
    rw[e]
    unfold stepA;simp only[h0]
    rcases h with⟨h1,_,h2⟩|⟨h1,h2⟩
    .exact .inl ⟨h1,anyK_of_ent fuel rest _ _ σ hN' (hD.step hr') hB2 (h2.perm pτ)⟩
    .refine .inr ⟨h1, ?_⟩
     have h3:opB P o af τ (PC (wpE P ops kp K rest)):=by
      unfold opK at h2
      split at h2
      .exact absurd rfl h3
      .exact absurd (.inr (.inr rfl)) hq
      .exact absurd (.inl rfl) hq
      .exact absurd (.inr (.inl rfl)) hq
      .exact h2
     obtain⟨post,p1,p2⟩:=opB_perm pτ.symm h3
     exact⟨post,p1,λ av σ' hp=>anyK_of_ent fuel rest _ _ σ' hN' (hD.step hr') hB2 (p2 av σ' hp)⟩
   .have hj2:kindOf plan j=5:=Nat.eq_of_beq_eq_true hj2
    rw[hj2]
    obtain⟨⟨d,t,c⟩,hf⟩:=findN_early hje
    have hm:=findN_mem hf
    obtain⟨ty,pos,after,z,ha,hz,hc⟩:=hN j d t c hm
    have hE:=early (kp:=kp) (K:=K) ha rfl hN hje hf hw
    exact⟨stepK_new hN hm (λ b=>anyK_of_ent fuel (dropN j (.op kd k::rest)) _ _ _ (λ a d t c hm=>hN a d t c (dropN_sub hm)) (hD.step hj) hjl ((hE b).perm (pτ.cons _))),λ h4=>by cases h4⟩
def planEB (es:List Ent) (l:List Oper) (n:Nat):Bool:=dstB l.toArray n && Nat.beq es.length l.length && lexE l.toArray (planOf es) l.length es (Array.replicate l.length false)
variable {ks:List KFr} {QA:Exit->AF->Items->Prop}
theorem wpAny_of_anyPC {n:Nat} (hd:dstB ops n=true): ∀(fuel:Nat) (listed:Array Bool) (af:AF) (σ:Items) (a:Act) (w:World),
  anyA P ops (PC (QA .normal)) fuel listed af σ->Holds E n af σ a w->wpAny P .any ops (PostA E n QA) fuel listed a w
 |0,_,af,σ,a,w,h,hh=>let⟨τ,pτ,hk⟩:=h.2;⟨h.1,af,τ,SubU.perm pτ.symm E n a w hh,hk⟩
 |fuel+1,_,af,σ,a,w,h,hh=>⟨λ h0=>let⟨τ,pτ,hk⟩:=h.1 h0;⟨af,τ,SubU.perm pτ.symm E n a w hh,hk⟩,λ i hi=>wpOp_mono (λ a' w' ⟨af',σ',hh',h'⟩=>wpAny_of_anyPC hd fuel _ af' σ' a' w' h' hh') (wpOp_of_stepA hd (h.2 i hi) hh)⟩
theorem k_planE (kp:Items) (es:List Ent) {id:Nat} {l:List Oper} (hm:P.follows .mixedOrders=true) (hB:planEB es l n=true) (hN:NewOK P l.toArray es)
  (h:wpE P l.toArray kp (den P E n ks .normal) es af σ):awp P E n (.region id l.toArray true) (den P E n ks) af σ:=by
 simp only[planEB,Bool.and_eq_true]at hB
 intro a w hh
 refine wp_region_any hm ?_
 have hD:Down l.toArray (Array.replicate l.length false):=λ j o _ hj=>by
  rw[Array.getD_eq_getD_getElem?,Array.getElem?_replicate]at hj
  split at hj <;>cases hj
 have h1:=anyA_of_anyK (kp:=kp) _ _ _ _ (anyK_of_ent (plan:=planOf es) l.length es (Array.replicate l.length false) af σ hN hD hB.2 (PC.mk h))
 simpa using wpAny_of_anyPC hB.1.1 _ _ af σ a _ h1 hh.drew
theorem NewOK.nil:NewOK P ops []:=λ _ _ _ _ h=>by cases h
theorem NewOK.one {kd i:Nat} {es:List Ent} (h:NewOK P ops es):NewOK P ops (.op kd i::es):=λ a d t c hm=>by
 rcases List.mem_cons.1 hm with e|hm
 .cases e
 .exact h a d t c hm
theorem NewOK.many {es rest:List Ent} (l:List (Nat×Nat)) (he:es=l.map entOf++rest) (h:NewOK P ops rest):NewOK P ops es:=by
 subst he
 induction l with
 |nil=>exact h
 |cons p l ih=>exact ih.one
theorem NewOK.fresh {a:Nat} {d:Tmp} {t:TypeId} {c:List AV} {es:List Ent} {ty:TypeId} {pos:String} {after:Array Edge} {z:Value} (h0:ops[a]?=some ⟨some d, .alloc t,ty,pos,after,none⟩) (hz:(P.info? t).bind (·.zero)=some z) (hc:LEs (z.cells.toList.map AV.exact) c) (h:NewOK P ops es):NewOK P ops (.new a d t c::es):=λ a' d' t' c' hm=>by
 rcases List.mem_cons.1 hm with e|hm
 .injection e with e1 e2 e3 e4
  subst e1 e2 e3 e4
  exact⟨ty,pos,after,z,h0,hz,hc⟩
 .exact h a' d' t' c' hm
end
end
noncomputable section
open Go.RowKit
def ownsO (w:World) (e:TypeId) (size:Nat) (v:Value) (n:Nat) (xs:List Value):Prop:=
 xs.length=n*size∧
 ((v= .slice none 0 0/\n=0)∨
   ∃g o cap cur,v= .slice (some ⟨g,o,none⟩) n cap/\w.heap[g]?=some (.cells cur e (0,0))/\n≤cap/\cap≤maxLen/\o+cap*size≤cur.size/\(cur.toList.drop o).take (n*size)=xs)
theorem ownsO.cells {w:World} {e:TypeId} {size n g o l c:Nat} {xs:List Value} (h:ownsO w e size (.slice (some ⟨g,o,none⟩) l c) n xs): ∀j u,xs[j]?=some u->w.cell? ⟨g,o+j,none⟩=some u:=by
 intro j u hu
 rcases h.2 with⟨h,_⟩|⟨g',o',cap,cur,hv,hg,_,_,_,ht⟩
 .cases h
 .injection hv with q1 q2 q3
  injection q1 with q1
  injection q1 with q1 q4
  subst q1 q4
  rw[cell_of_row w g (o+j) cur e (0,0) hg]
  rw[←ht,List.getElem?_take]at hu
  split at hu
  .rw[List.getElem?_drop]at hu;simpa using hu
  .cases hu
theorem ownsO.lt {w:World} {e:TypeId} {size n:Nat} {v:Value} {xs:List Value} (h:ownsO w e size v n xs): ∀k,v.ownBlock=some k->k<w.heap.size:=by
 intro k hk
 rcases h.2 with⟨rfl,_⟩|⟨g,o,cap,cur,rfl,hg,_⟩
 .simp[Value.ownBlock]at hk
 .simp[Value.ownBlock]at hk
  subst hk
  exact(Array.getElem?_eq_some_iff.1 hg).1
def vecO {α:Type} (P:Program) (t:TypeId) (n:Nat) (enc:α->List AV) (v:Value) (xs:List α):Item where
 own:=v.ownBlock.toList
 p:=λ M w=> ∃us,ownsO w (elemOfT P t) n v xs.length us/\Fit M w (xs.flatMap enc) us
 keep:=λ {M M' w w'} hk hm ⟨us,h1,h2⟩=>by
  refine⟨us,⟨h1.1, ?_⟩,h2.keep (hk.mono (λ k _ h=>h.1)) hm⟩
  rcases h1.2 with h3|⟨g,o,cap,cur,rfl,hg,r⟩
  .exact .inl h3
  .refine .inr ⟨g,o,cap,cur,rfl, ?_,r⟩
   rw[hk.block g (Array.getElem?_eq_some_iff.1 hg).1 (λ h=>h.2 (by simp[Value.ownBlock]))]
   exact hg
section
variable {P:Program} {E:Env} {af:AF} {σ ρ:Items} {d:Option Tmp} {ty t:TypeId} {pos:String} {after:Array Edge} {g:Option (Nat×Bool)} {α:Type} {n:Nat} {enc:α->List AV} {xs ys:List α} {v:Value}
theorem run_append_room_o {w:World} {t ty e:TypeId} {i:TypeInfo} (ht:P.underlying t=some (.slice e)) (hi:P.info? e=some i)
  {g o sLen sCap:Nat} {cur:Array Value} (hg:w.heap[g]?=some (.cells cur e (0,0)))
  {a:Addr} {m c:Nat} {news:List Value} (hl:news.length=m*i.size) (hnews: ∀j u,news[j]?=some u->w.cell? (a.add j)=some u) (h1: ∀u∈news,u.oneCell'=true)
  (hroom:sLen+m≤sCap) (hfit:o+sLen*i.size+news.length≤cur.size):
  (Builtin.append_ #[t,t] ty #[.slice (some ⟨g,o,none⟩) sLen sCap, .slice (some a) m c]).run P w=
   .ok (.slice (some ⟨g,o,none⟩) (sLen+m) sCap) (w.setRow g (cur.toList.take (o+sLen*i.size)++news++cur.toList.drop (o+sLen*i.size+news.length)).toArray):=by
 have hf:=run_firstCells_some (P:=P) w i.size m a m c news hl hnews
 have hst:=run_storeCells_at P g (o+sLen*i.size) e news 0 cur w hg (by simpa using hfit) h1
 simp only[Nat.add_zero]at hst
 simp[Builtin.append_,run_underlying ht,sizeOf,typeInfo,hi,Builtin.lenOf,hroom,hf,Addr.add_lit,hst]
theorem run_append_o {w:World} {t ty e:TypeId} {i:TypeInfo} {z:Value} {size bytes:Nat} (ht:P.underlying t=some (.slice e)) (hi:P.info? e=some i) (hz:i.zero=some z)
  (hsize:i.size=size) (hby:i.bytes=bytes) (hzs:z.cells.size=size)
  {v:Value} {n:Nat} {xs:List Value} (hown:ownsO w e size v n xs)
  {a:Addr} {m c:Nat} {news:List Value} (hl:news.length=m*size) (hnews: ∀j u,news[j]?=some u->w.cell? (a.add j)=some u) (h1: ∀u∈news,u.oneCell'=true)
  (h63:n+m≤maxLen) (hbytes:(n+m)*bytes≤140737488355328):
  ∃v' w',(Builtin.append_ #[t,t] ty #[v, .slice (some a) m c]).run P w= .ok v' w'/\ownsO w' e size v' (n+m) (xs++news)/\w.grownBy w' v.ownBlock/\(v'.ownBlock=v.ownBlock∨v'.ownBlock=some w.heap.size):=by
 subst hsize
 subst hby
 have hsmall:n+m≤9223372036854775807:=by simp only[maxLen]at h63;omega
 have hlen:(xs++news).length=(n+m)*i.size:=by rw[List.length_append,hown.1,hl,Nat.add_mul]
 have grown: ∀(old:Nat),old<n+m-> ∀(row:Option Nat),
   ownsO (w.drew.alloc (.cells (xs.toArray++news.toArray++Builtin.zeroCells z.cells (grownCap w (n+m) old e - (n+m))) e)) e i.size
    (.slice (some ⟨w.heap.size,0,none⟩) (n+m) (grownCap w (n+m) old e)) (n+m) (xs++news)∧
   w.grownBy (w.drew.alloc (.cells (xs.toArray++news.toArray++Builtin.zeroCells z.cells (grownCap w (n+m) old e - (n+m))) e)) row:=by
  intro old ho row
  have hge:=grownCap_ge w (n+m) old e
  have hcm:grownCap w (n+m) old e≤maxLen:=grownCap_le_maxLen w (n+m) old e h63
  have hsz:(xs.toArray++news.toArray++Builtin.zeroCells z.cells (grownCap w (n+m) old e - (n+m))).size=grownCap w (n+m) old e*i.size:=by
   simp only[Array.size_append,List.size_toArray,size_zeroCells,hzs,hown.1,hl, ←Nat.add_mul]
   congr 1
   omega
  refine⟨⟨hlen, .inr ⟨w.heap.size,0,_,_,rfl,heap_alloc_new w.drew _,hge,hcm,by rw[hsz];omega, ?_⟩⟩,⟨rfl,rfl,rfl,by simp,λ k hk _=>heap_alloc_old w.drew _ hk⟩⟩
  simp only[Array.toList_append,List.append_assoc,List.drop_zero]
  rw[←List.append_assoc, ←hlen]
  exact List.take_left
 rcases hown.2 with⟨rfl,rfl⟩|⟨gg,o,cap,cur,rfl,hg,hnc,hcm,hcs,htake⟩
 .have hx:xs=[]:=List.eq_nil_of_length_eq_zero (by simpa using hown.1)
  subst hx
  by_cases hm:m=0
  .subst hm
   have hn:news=[]:=List.eq_nil_of_length_eq_zero (by simpa using hl)
   subst hn
   refine⟨.slice none 0 0,w, ?_,⟨by simp, .inl ⟨rfl,rfl⟩⟩,⟨rfl,rfl,rfl,Nat.le_refl _,λ _ _ _=>rfl⟩, .inl rfl⟩
   simp[Builtin.append_,run_underlying ht,sizeOf,typeInfo,hi,Builtin.lenOf,Builtin.firstCells,loadCells,loadCellsFrom]
  .have hr:=run_append_nil (P:=P) w t ty e i z ht hi hz a m c news hl hnews (by omega) (by omega) (by have hb:=hbytes;simp only[Nat.zero_add]at hb;omega)
   have hgr:=grown 0 (by omega) (Value.ownBlock (.slice none 0 0))
   simp only[Nat.zero_add,List.nil_append,Array.empty_append]at hgr⊢
   exact⟨_,_,hr,hgr.1,hgr.2, .inr rfl⟩
 .by_cases hroom:n+m≤cap
  .have hmul:(n+m)*i.size≤cap*i.size:=Nat.mul_le_mul_right _ hroom
   have hnm:=Nat.add_mul n m i.size
   have hfit:o+n*i.size+news.length≤cur.size:=by omega
   have hr:=run_append_room_o (P:=P) (ty:=ty) (c:=c) ht hi hg hl hnews h1 hroom hfit
   refine⟨_,_,hr,⟨hlen, .inr ⟨gg,o,cap,_,rfl,setRow_heap w gg cur _ e _ hg,hroom,hcm, ?_, ?_⟩⟩,⟨rfl,rfl,rfl,by simp,λ k _ hk=>setRow_other w gg k _ (λ e=>hk (by simp[Value.ownBlock,e]))⟩, .inl rfl⟩
   .simp only[List.size_toArray,List.length_append,List.length_take,List.length_drop,Array.length_toList]
    omega
   .have ht2:cur.toList.take (o+n*i.size)=cur.toList.take o++xs:=by rw[List.take_add,htake]
    have hol:(cur.toList.take o).length=o:=by simp;omega
    simp only[]
    rw[ht2,List.append_assoc,List.append_assoc,List.drop_left' hol, ←List.append_assoc, ←hlen]
    exact List.take_left
  .have holds: ∀j u,xs[j]?=some u->w.cell? ((⟨gg,o,none⟩:Addr).add j)=some u:=λ j u hu=>by rw[addr_add'];exact hown.cells j u hu
   have hr:=run_append_grow (P:=P) w t ty e i z ht hi hz ⟨gg,o,none⟩ n cap xs hown.1 holds a m c news hl hnews (by omega) (by omega) (growslice_fits (by omega) hbytes)
   have hgr:=grown cap (by omega) (Value.ownBlock (.slice (some ⟨gg,o,none⟩) n cap))
   exact⟨_,_,hr,hgr.1,hgr.2, .inr rfl⟩
theorem op_appO {s x:Operand} {K:AF->Items->Prop} (hB:elB P t n=true) (hs:af.ev s= .exact v) (hx:af.ev x= .row n enc ys) (ho: ∀x,OneC (enc x)) (hl:xs.length+ys.length≤LIM)
  (hk: ∀v',K (af.put d (.exact v')) (vecO P t n enc v' (xs++ys)::ρ)):
  opB P ⟨d, .call { callee:= .builtin .append,args:= #[s,x],argTypes:= #[t,t] },ty,pos,after,g⟩ af (vecO P t n enc v xs::ρ) K:=by
 refine⟨λ a s=> ∃v',a= .exact v'/\s=vecO P t n enc v' (xs++ys)::ρ,λ F w ev hg h=> ?_,λ av s ⟨v',e1,e2⟩=>by subst e1 e2;exact hk v'⟩
 obtain⟨ht,hn0,i,z,hi,hz,hi1,hi2,hi3⟩:=elB_spec hB
 have e1:=opnd h (x:=s) (by simp[Op.operands,Call.operands]) hs
 obtain⟨A,cp,e2,_,_,e5⟩:=zgw h (x:=x) (by simp[Op.operands,Call.operands]) hx
 obtain⟨us0,hown,hfit⟩:=hg.items (vecO P t n enc v xs) List.mem_cons_self
 have hbs:(xs.length+ys.length)*i.bytes≤140737488355328:=Nat.le_trans (Nat.mul_le_mul hl hi2) (by simp only[LIM];omega)
 have hrun: ∃v' w' us,(Builtin.append_ #[t,t] ty #[v, .slice A ys.length cp]).run P w= .ok v' w'/\ownsO w' (elemOfT P t) n v' (xs.length+ys.length) (us0++us)/\w.grownBy w' v.ownBlock/\(v'.ownBlock=v.ownBlock∨v'.ownBlock=some w.heap.size)/\Fit (both F (Items.own (vecO P t n enc v xs::ρ))) w (ys.flatMap enc) us:=by
  by_cases hy:ys=[]
  .subst hy
   have happ:(Builtin.append_ #[t,t] ty #[v, .slice A ([]:List α).length cp]).run P w= .ok v w:=by
    rcases hown.2 with⟨rfl,h0⟩|⟨g,o,cap,cur,rfl,_,hnc,_⟩
    .rw[h0]at*
     cases A <;>simp[Builtin.append_,run_underlying ht,sizeOf,typeInfo,hi,Builtin.lenOf,Builtin.firstCells,loadCells,loadCellsFrom]
    .cases A <;>simp[Builtin.append_,run_underlying ht,sizeOf,typeInfo,hi,Builtin.lenOf,Builtin.firstCells,hnc,storeCells,loadCells,loadCellsFrom]
   exact⟨v,w,[],happ,by simpa using hown,⟨rfl,rfl,rfl,Nat.le_refl _,λ _ _ _=>rfl⟩, .inl rfl,trivial⟩
  .obtain⟨b,off,rfl,hb,hnM,hcell⟩:=e5 hy
   have hcells:=row_cells hcell
   obtain⟨us,hf,hu⟩:=fit_cells hcells
   have hlen:(ys.flatMap enc).length=ys.length*n:=flat_len (λ y hy=>by
    obtain⟨i,hi⟩:=List.mem_iff_getElem?.1 hy
    exact(hcell i y hi).1)
   obtain⟨v',w',h1,h2,h3,h5⟩:=run_append_o (P:=P) (ty:=ty) (c:=cp) ht hi hz hi1 rfl hi3 hown (a:=⟨b,off,none⟩) (m:=ys.length) (news:=us) (by rw[←hf.length,hlen])
    (λ j u hj=>by
     rw[addr_add']
     have hjl:j<(ys.flatMap enc).length:=by rw[hf.length];exact(List.getElem?_eq_some_iff.1 hj).1
     obtain⟨u',g1,g2⟩:=hu j hjl
     rw[hj]at g1
     injection g1 with g1
     rw[g1];exact g2) ((OneC.flatT (xs:=ys) ho).fit hf) (by simp only[maxLen,LIM]at *;omega) hbs
   exact⟨v',w',us,h1,h2,h3,h5,hf⟩
 obtain⟨v',w',us,h1,h2,h3,h5,hf⟩:=hrun
 have hrun':(execOp ev ⟨d, .call { callee:= .builtin .append,args:= #[s,x],argTypes:= #[t,t] },ty,pos,after,g⟩).run P w= .ok (.value v') w':=by
  unfold execOp
  simp only[resolve,invoke,builtin,Sem.run_bind,Sem.run_pure,Result.andThen_ok,List.map_toArray,List.map_cons,List.map_nil,e1,e2,h1]
 rw[hrun']
 have hk':Keeps (λ k=>k∈(vecO P t n enc v xs).own) w w':=⟨h3.os,h3.tape,h3.output,run_drawn _ _ _ _ h1,h3.size,λ k hlt hn=>h3.block k hlt (λ e=>hn (by simp[vecO, ←e]))⟩
 obtain⟨g1,g2,g3⟩:=good_head (it':=vecO P t n enc v' (xs++ys)) hg hk' (λ k hk'=>by
   have hk'':v'.ownBlock=some k:=by simpa[vecO]using hk'
   refine⟨h2.lt k hk'',λ hlt=> ?_⟩
   rcases h5 with h5|h5
   .simp[vecO, ←h5,hk'']
   .rw[h5]at hk'';injection hk'' with e;omega) (by cases h:v'.ownBlock <;>simp[vecO,h])
  (λ hkk hMM=>⟨us0++us,by rw[List.length_append];exact h2,by rw[List.flatMap_append];exact(hfit.keep hkk hMM).app (hf.keep hkk hMM)⟩)
 exact⟨_,_,⟨v',rfl,rfl⟩,g1,g2,g3,rfl⟩
end
theorem vecO_row {α:Type} {P:Program} {t:TypeId} {n:Nat} {enc:α->List AV} {xs:List α} {v:Value} {w:World} {M:BSet} (hM: ∀k,v.ownBlock=some k-> ¬M k) (he: ∀x,(enc x).length=n) {M':BSet} (h:(vecO P t n enc v xs).p M' w) (hMM: ∀k,k<w.heap.size->M k->M' k):(AV.row n enc xs).p M w v:=by
 obtain⟨us,hown,hfit⟩:=h
 have hown0:=hown
 rcases hown.2 with⟨rfl,h0⟩|⟨gg,o,cap,cur,rfl,hg,hnc,hcm,_,htake⟩
 .have:xs=[]:=List.length_eq_zero_iff.1 h0
  subst this
  exact⟨none,0,rfl,by simp,by simp,λ h=>absurd rfl h⟩
 .refine⟨some ⟨gg,o,none⟩,cap,rfl,hnc,by simp only[maxLen]at hcm;omega,λ _=>⟨gg,o,rfl,(Array.getElem?_eq_some_iff.1 hg).1,hM gg rfl,λ i x hx=>⟨he x, ?_⟩⟩⟩
  have hcells:=zgn (b:=gg) (off:=o) (hfit.keep (Keeps.refl _ _) hMM) (λ j u hu=>hown0.cells j u hu)
  exact hcells.sub (λ j a hj=>flat_get (λ y _=>he y) hx j a hj)
end
noncomputable section
open Go.RowKit Go.Maps
open Go.WideElems (Fit rd rg pl rd_val elemAt)
def heldR (v:Value):Option (DataW Value×List MemPlace):=some (.held v,[])
def MView (D:DataW Value) (f:Int->Option Value):Prop:=IsMap D/\ ∀k z,D.atKey (.int .i64 k) z=(match f k with|some v=> .held v|none=>z)
theorem MView.has {D:DataW Value} {f:Int->Option Value} (h:MView D f) (k:Int):Maps.has D (.int .i64 k)=(f k).isSome:=by
 have h2:=h.2 k
 cases hf:f k with
 |none=>rw[hf]at h2;exact has_false_of_atKey h2
 |some v=>rw[hf]at h2;exact has_true_of_atKey h2
theorem MView.empty:MView (.map []) (λ _=>none):=⟨isMap_empty,λ _ _=>rfl⟩
def updM (f:Int->Option Value) (k:Int) (v:Value):Int->Option Value:=λ j=>if j=k then some v else f j
theorem MView.put {D:DataW Value} {f:Int->Option Value} (h:MView D f) {k:Int} (hkey:WideAt.IsKeyLit (.int .i64 k)) (v:Value):MView (D.put (.int .i64 k) (.held v)) (updM f k v):=by
 refine⟨h.1.put _ _,λ j z=> ?_⟩
 unfold updM
 by_cases hj:j=k
 .subst hj;rw[if_pos rfl,atKey_put_same h.1 hkey]
 .rw[if_neg hj,atKey_put_other (λ e=>hj (by injection e)),h.2]
def mapS (P:Program) (kt:TypeId) (b N:Nat) (f:Int->Option Value):Item where
 own:=[b]
 p:=λ _ w=> ∃D,w.ownsMap P kt heldR b N D/\MView D f
 keep:=λ {M M' w w'} hk _ ⟨D,⟨es,clock,hb,r⟩,h2⟩=>⟨D,⟨es,clock,by
  rw[hk.block b (Array.getElem?_eq_some_iff.1 hb).1 (λ h=>h.2 (by simp))];exact hb,r⟩,h2⟩
def itS (P:Program) (kt:TypeId) (b r N:Nat) (f:Int->Option Value) (left:List Int) (lst:Option (Int×Value)):Item where
 own:=[b,r]
 p:=λ _ w=> ∃D l cnt,w.ranges P kt heldR b r N D l cnt/\MView D f/\(∀k,l (.int .i64 k)=true↔k∈left)/\(∀kv,lst=some kv->(Instr.entry (.pointer (some ⟨r,0,none⟩))).run P w= .ok (.tuple #[.int .i64 kv.1,kv.2]) w)
 keep:=λ {M M' w w'} hk _ ⟨D,l,cnt,⟨es,clock,since,seen,c0,hb,hF,hs,hD,hr,q⟩,h2,h3,h4⟩=>by
  have e1:=hk.block b (Array.getElem?_eq_some_iff.1 hb).1 (λ h=>h.2 (by simp))
  have e2:=hk.block r (Array.getElem?_eq_some_iff.1 hr).1 (λ h=>h.2 (by simp))
  refine⟨D,l,cnt,⟨es,clock,since,seen,c0,by rw[e1];exact hb,hF,hs,hD,by rw[e2];exact hr,q⟩,h2,h3,λ kv hkv=> ?_⟩
  have:=h4 kv hkv
  have hr':w'.heap[r]?=some (.mapIter (some b) since seen c0):=by rw[e2];exact hr
  have hb':w'.heap[b]?=some (.map es clock):=by rw[e1];exact hb
  simp only[Instr.entry,getObj,Sem.run_bind,Sem.run,hr,hb,Result.andThen]at this
  simp only[Instr.entry,getObj,Sem.run_bind,Sem.run,hr',hb',Result.andThen]
  cases hbk:seen.back? with
  |none=>rw[hbk]at this;simp[stuck,Sem.run]at this
  |some s=>
   rw[hbk]at this
   simp only[]at this⊢
   simp only[Sem.getObj,getObj,Sem.run_bind,Sem.run,hb,Result.andThen]at this
   simp only[Sem.getObj,getObj,Sem.run_bind,Sem.run,hb',Result.andThen]
   by_cases hc:(clock !=c0)=true
   .rw[if_pos hc]at this;simp[unsupported,Sem.run]at this
   .rw[if_neg hc]at this⊢
    cases hfd:es.find? (λ x=>x.born ==s)with
    |none=>rw[hfd]at this;simp[unsupported,Sem.run]at this
    |some e=>
     rw[hfd]at this
     simp[Sem.run]at this⊢
     exact this
section
variable {P:Program} {E:Env} {af:AF} {σ ρ:Items} {d:Option Tmp} {ty t kt e:TypeId} {pos:String} {after:Array Edge} {g:Option (Nat×Bool)} {b r N:Nat} {f:Int->Option Value}
end
end
noncomputable section
open Go.RowKit Go.Sort
theorem keeps_grow {w w':World} (h:Keeps noB w w'): ∃q os,w'=grow (w.drewN q) os:=by
 obtain⟨h1,h2,h3,h4,h5,h6⟩:=h
 refine⟨w'.drawn - w.drawn,w'.heap.extract w.heap.size w'.heap.size, ?_⟩
 have hheap:w'.heap=w.heap++w'.heap.extract w.heap.size w'.heap.size:=by
  apply Array.ext_getElem?
  intro i
  by_cases hi:i<w.heap.size
  .rw[Array.getElem?_append_left hi]
   exact h6 i hi (λ hf=>hf)
  .rw[Array.getElem?_append_right (by omega),Array.getElem?_extract]
   by_cases h7:i<w'.heap.size
   .rw[if_pos (by omega)];congr 1;omega
   .rw[if_neg (by omega),Array.getElem?_eq_none (by omega)]
 have hd:w'.drawn=w.drawn+(w'.drawn - w.drawn):=by omega
 cases w with
 |mk hp tp dr os out=>
  cases w' with
  |mk hp' tp' dr' os' out'=>
   simp only at h1 h2 h3 hheap hd
   subst h1 h2 h3
   unfold grow World.drewN
   simp only[World.mk.injEq,true_and,and_true]
   exact⟨hheap,hd⟩
theorem fit_ex_eq {M:BSet} {w:World}: ∀{l us:List Value},Fit M w (l.map AV.exact) us->us=l
 |[],[],_=>rfl
 |a::l,u::us,h=>by
  obtain⟨h1,h2⟩:=h
  have h1':u=a:=h1
  rw[h1',fit_ex_eq h2]
theorem ex_fit_ex {M:BSet} {w:World}: ∀(l:List Value),Fit M w (l.map AV.exact) l
 |[]=>trivial
 |a::l=>⟨rfl,ex_fit_ex l⟩
section
variable {α:Type} [Inhabited α] {enc:α->List Value} {k:Nat}
theorem flatK_list (hk: ∀x,(enc x).length=k) (xs:List α):(flatK enc k xs.toArray).toList=xs.flatMap enc:=by
 have hlen:(xs.flatMap enc).length=xs.length*k:=by
  induction xs with
  |nil=>simp
  |cons x xs ih=>rw[List.flatMap_cons,List.length_append,hk,ih,List.length_cons,Nat.add_mul];omega
 apply List.ext_getElem
 .simp[hlen]
 .intro j h1 h2
  have hj:j<xs.length*k:=by rw[hlen]at h2;exact h2
  have k0:0<k:=by
   rcases Nat.eq_zero_or_pos k with h|h
   .subst h;simp at hj
   .exact h
  have hq:j / k<xs.length:=(Nat.div_lt_iff_lt_mul k0).2 hj
  have hm:j % k<k:=Nat.mod_lt _ k0
  have e1:(flatK enc k xs.toArray).toList[j]=(enc xs[j / k])[j % k]'(by rw[hk];exact hm):=by
   have:=get_flatK enc k xs.toArray j (by simpa using hj)
   rw[getElem!_pos _ j (by simpa using hj)]at this
   rw[Array.getElem_toList,this]
   rw[getElem!_pos xs.toArray (j / k) (by simpa using hq),getElem!_pos _ (j % k) (by rw[hk];exact hm)]
   simp
  rw[e1]
  have hs:xs.flatMap enc=(xs.take (j / k)).flatMap enc++(enc xs[j / k]++(xs.drop (j / k+1)).flatMap enc):=by
   conv=>lhs;rw[←List.take_append_drop (j / k) xs,List.drop_eq_getElem_cons hq,List.flatMap_append,List.flatMap_cons]
  have hl:((xs.take (j / k)).flatMap enc).length=j / k*k:=by
   have gen: ∀ys:List α,(ys.flatMap enc).length=ys.length*k:=by
    intro ys
    induction ys with
    |nil=>simp
    |cons y ys ih=>rw[List.flatMap_cons,List.length_append,hk,ih,List.length_cons,Nat.add_mul];omega
   rw[gen,List.length_take,Nat.min_eq_left (by omega)]
  have hj2:j=j / k*k+j % k:=by rw[Nat.mul_comm];exact(Nat.div_add_mod j k).symm
  apply Option.some.inj
  have hge:j / k*k≤j:=Nat.div_mul_le_self j k
  have hsub:j - j / k*k=j % k:=by omega
  rw[←List.getElem?_eq_getElem, ←List.getElem?_eq_getElem,hs,List.getElem?_append_right (by rw[hl];exact hge),hl,hsub,List.getElem?_append_left (by rw[hk];exact hm)]
theorem take_putCells_id (D cur:Array Value) (h:D.size≤cur.size):(putCells id 0 D cur).toList.take D.size=D.toList:=by
 apply List.ext_getElem?
 intro j
 by_cases hj:j<D.size
 .rw[List.getElem?_take_of_lt hj,Array.getElem?_toList]
  simp[putCells,hj,show j<cur.size by omega]
 .rw[List.getElem?_take_eq_none (by omega),List.getElem?_eq_none (by simp;omega)]
end
end
noncomputable section
open Go.RowKit Go.Maps
section
variable {P:Program} {E:Env} {af:AF} {σ ρ:Items} {d:Option Tmp} {ty t kt e:TypeId} {pos:String} {after:Array Edge} {g:Option (Nat×Bool)} {b r N:Nat} {f:Int->Option Value}
variable {α:Type} {n:Nat} {enc:α->List AV} {xs ys:List α} {v:Value}
def rowsI (P:Program) (t:TypeId) (n:Nat) (enc:α->List AV) (R:List (Int×Value×List α)):Items:=R.map (λ x=>vecT P t n enc x.2.1 x.2.2)
structure GCons (f:Int->Option Value) (R:List (Int×Value×List α)) (G:Int->List α):Prop where
 at_: ∀k v,f k=some v->(k,v,G k)∈R
 none: ∀k,f k=none->G k=[]
 keys: ∀x∈R,f x.1=some x.2.1/\G x.1=x.2.2
 nodup:(R.map (λ x=>x.1)).Nodup
theorem rowsI_mem {R:List (Int×Value×List α)} {x:Int×Value×List α} (h:x∈R):vecT P t n enc x.2.1 x.2.2∈rowsI P t n enc R:=List.mem_map.2 ⟨x,h,rfl⟩
theorem BorL.nil:BorL σ (.exact (.slice none 0 0)) n enc ([]:List α):=λ F w u _ hx=>by
 obtain rfl:u= .slice none 0 0:=hx
 exact⟨none,0,rfl,Nat.zero_le _,λ h=>absurd rfl h⟩
theorem BorL.grow {R:List (Int×Value×List α)} {G:Int->List α} (hG:GCons f R G) (hs: ∀it∈rowsI P t n enc R,it∈σ) (he: ∀x,(enc x).length=n) (k:Int):BorL σ (.exact ((f k).getD (.slice none 0 0))) n enc (G k):=by
 cases hf:f k with
 |none=>rw[hG.none k hf];exact BorL.nil
 |some v=>exact BorL.vec (P:=P) (e:=t) (hs _ (rowsI_mem (hG.at_ k v hf))) he
def AV.eptrO (v:Value) (o:Nat):AV:=⟨λ _ _ u=> ∃b q l c,v= .slice (some ⟨b,q,none⟩) l c/\u= .pointer (some ⟨b,q+o,none⟩),λ _ _ h=>h⟩
end
end
noncomputable section
open Go.RowKit Go.Maps
def MapLike (P:Program) (kt:TypeId) (b N:Nat) (f:Int->Option Value) (it:Item):Prop:= ∀M w,it.p M w-> ∃D,w.ownsMap P kt heldR b N D/\MView D f
section
variable {P:Program} {E:Env} {af:AF} {σ ρ:Items} {d:Option Tmp} {ty t kt e:TypeId} {pos:String} {after:Array Edge} {g:Option (Nat×Bool)} {b r N:Nat} {f:Int->Option Value}
theorem MapLike.map:MapLike P kt b N f (mapS P kt b N f):=λ _ _ h=>h
theorem MapLike.it {left:List Int} {lst:Option (Int×Value)}:MapLike P kt b N f (itS P kt b r N f left lst):=λ _ _ ⟨D,_,_,h,hv,_⟩=>⟨D,h.owns,hv⟩
variable {α:Type} {n:Nat} {enc:α->List AV} {xs ys:List α} {v:Value}
end
end
noncomputable section
open Go.RowKit
section
variable {P:Program} {E:Env} {af:AF} {σ ρ:Items} {d:Option Tmp} {ty t:TypeId} {pos:String} {after:Array Edge} {g:Option (Nat×Bool)} {α:Type} {n:Nat} {enc:α->List AV} {xs ys zs:List α} {v vr vn:Value}
theorem ownsO.same {w w':World} {e:TypeId} {size m:Nat} {us:List Value} (h:ownsO w e size v m us) (hb: ∀k,v.ownBlock=some k->w'.heap[k]?=w.heap[k]?):ownsO w' e size v m us:=by
 refine⟨h.1, ?_⟩
 rcases h.2 with h|⟨gg,o,cap,cur,rfl,hg,r⟩
 .exact .inl h
 .exact .inr ⟨gg,o,cap,cur,rfl,by rw[hb gg rfl];exact hg,r⟩
def vecA {α:Type} (P:Program) (t:TypeId) (n:Nat) (enc:α->List AV) (vr:Value) (xs:List α) (vn:Value) (ys:List α):Item where
 own:=if vr.ownBlock=vn.ownBlock then vn.ownBlock.toList else vn.ownBlock.toList++vr.ownBlock.toList
 p:=λ M w=> ∃us zs,ownsO w (elemOfT P t) n vr xs.length us/\ownsO w (elemOfT P t) n vn ys.length zs/\Fit M w (xs.flatMap enc) us/\Fit M w (ys.flatMap enc) zs∧
  (∀k,vr.ownBlock=some k->vn.ownBlock=some k-> ∃o c,vr= .slice (some ⟨k,o,none⟩) xs.length c/\vn= .slice (some ⟨k,o,none⟩) ys.length c/\xs.length≤ys.length)
 keep:=λ {M M' w w'} hk hm ⟨us,zs,h1,h2,h3,h4,h5⟩=>by
  have hin: ∀k,vr.ownBlock=some k∨vn.ownBlock=some k->k∈(if vr.ownBlock=vn.ownBlock then vn.ownBlock.toList else vn.ownBlock.toList++vr.ownBlock.toList):=λ k h=>by
   split
   .rename_i e;rw[e]at h;simpa using h
   .rw[List.mem_append];rcases h with h|h
    .exact .inr (by simp[h])
    .exact .inl (by simp[h])
  exact⟨us,zs,h1.same (λ k hb=>hk.block k (h1.lt k hb) (λ h=>h.2 (hin k (.inl hb)))),h2.same (λ k hb=>hk.block k (h2.lt k hb) (λ h=>h.2 (hin k (.inr hb)))),h3.keep (hk.mono (λ k _ h=>h.1)) hm,h4.keep (hk.mono (λ k _ h=>h.1)) hm,h5⟩
theorem bor_own {M:BSet} {w:World} {us:List Value} {e:TypeId} (he: ∀x,(enc x).length=n) (hown:ownsO w e n v xs.length us) (hfit:Fit M w (xs.flatMap enc) us):
  ∃A c,v= .slice A xs.length c/\xs.length≤c/\(xs≠[]-> ∃b off,A=some ⟨b,off,none⟩/\ ∀(i:Nat) (y:α),xs[i]?=some y->(enc y).length=n/\CellsAt M w b (off+i*n) (enc y)):=by
 have hown0:=hown
 rcases hown.2 with⟨rfl,h0⟩|⟨gg,o,cap,cur,rfl,hg,hnc,hcm,_,htake⟩
 .have:xs=[]:=List.length_eq_zero_iff.1 h0
  subst this
  exact⟨none,0,rfl,Nat.zero_le _,λ h=>absurd rfl h⟩
 .refine⟨_,_,rfl,hnc,λ _=>⟨gg,o,rfl,λ i x hx=>⟨he x, ?_⟩⟩⟩
  have hcells:=zgn (b:=gg) (off:=o) hfit (λ j u hu=>hown0.cells j u hu)
  exact hcells.sub (λ j a hj=>flat_get (λ y _=>he y) hx j a hj)
theorem BorL.a1 (hm:vecA P t n enc vr xs vn ys∈σ) (he: ∀x,(enc x).length=n):BorL σ (.exact vr) n enc xs:=λ F w u hg hx=>by
 obtain rfl:u=vr:=hx
 obtain⟨us,zs,h1,h2,h3,h4,h5⟩:=hg.items _ hm
 exact bor_own he h1 h3
end
end
noncomputable section
open Go.RowKit
section
variable {P:Program} {E:Env} {af:AF} {σ ρ:Items} {w:World} {K:AF->Items->Prop} {o:Oper}
variable {α:Type} {t bt:TypeId} {n:Nat} {enc:α->List AV} {xs:List α} {v:Value} {a:AV} {b:Nat} {c:List AV}
def knowI (a:AV) (v:Value):Item where
 own:=[]
 p:=λ M w=>a.p M w v
 keep:=λ hk hm h=>a.keep (hk.mono λ _ _ h=>h.1) hm h
theorem own_know (k:Nat):Items.own (knowI a v::σ) k↔Items.own σ k:=by rw[zch];simp[knowI]
theorem good_know {F:BSet} (hg:Good F σ w) (h:a.p (both F (Items.own σ)) w v):Good F (knowI a v::σ) w:=by
 have hM: ∀k,k<w.heap.size->both F (Items.own (knowI a v::σ)) k->both F (Items.own σ) k:=λ k _ h=>h.imp id (own_know k).1
 refine⟨hg.fr,λ k h=>hg.own k ((own_know k).1 h), ?_,λ it hi=> ?_⟩
 .rw[List.flatMap_cons];simpa[knowI]using hg.nodup
 .rcases List.mem_cons.1 hi with rfl|hi
  .exact a.keep (Keeps.refl _ _) hM h
  .exact it.keep (Keeps.refl _ _) hM (hg.items it hi)
theorem Holds.know {N:Nat} {x:Act} (hh:Holds E N af σ x w) (h:a.p (both E.F (Items.own σ)) w v):Holds E N af (knowI a v::σ) x w:=
 ⟨hh.tmps,hh.defers,hh.kept,λ k h=>hh.old k ((own_know k).1 h),good_know hh.good h,
  λ t=>(af t).keep (Keeps.refl _ _) (λ k _ h=>h.imp id (own_know k).1) (hh.fits t)⟩
theorem SubU.know (he: ∀x,(enc x).length=n):SubU af (vecT P t n enc v xs::σ) af (knowI (.row n enc xs) v::σ):=by
 intro E N x w hh
 have hd:=(SubU.drop (it:=vecT P t n enc v xs) (af:=af) (σ:=σ)) E N x w hh
 have hnd:=hh.good.nodup
 rw[List.flatMap_cons,List.nodup_append]at hnd
 refine hd.know (vec_row (λ k hk hF=> ?_) he (hh.good.items _ List.mem_cons_self) (λ k _ h=>h.imp id (λ h=>zch.2 (.inr h))))
 have hmem:k∈(vecT P t n enc v xs).own:=by simp[vecT,vecI,hk]
 rcases hF with hF|hO
 .exact(hh.good.own k (zch.2 (.inl hmem))).2 hF
 .exact hnd.2.2 k hmem k hO rfl
theorem Fit.set {M:BSet}: ∀{c:List AV} {vs:List Value} {j:Nat} {v:Value} {a:AV},Fit M w c vs->c[j]?=some (.exact v)->a.p M w v->Fit M w (c.set j a) vs
 |[],_,_,_,_,_,hj,_=>by simp at hj
 |x::c,u::vs,0,v,a,h,hj,ha=>by
  simp at hj;subst hj
  obtain⟨h1,h2⟩:=h
  obtain h1:u=v:=h1
  subst h1
  exact⟨ha,h2⟩
 |x::c,u::vs,j+1,v,a,h,hj,ha=>⟨h.1,Fit.set (j:=j) h.2 (by simpa using hj) ha⟩
theorem SubU.knowC {j:Nat} {c':List AV} (hj:c[j]?=some (.exact v)) (hc:c.set j a=c'):SubU af (knowI a v::boxI bt b c::σ) af (knowI a v::boxI bt b c'::σ):=by
 subst hc
 intro E N x w hh
 have hown: ∀k,Items.own (knowI a v::boxI bt b (c.set j a)::σ) k↔Items.own (knowI a v::boxI bt b c::σ) k:=λ k=>by simp[Items.own,boxI,knowI]
 have hM: ∀k,k<w.heap.size->both E.F (Items.own (knowI a v::boxI bt b (c.set j a)::σ)) k->both E.F (Items.own (knowI a v::boxI bt b c::σ)) k:=λ k _ h=>h.imp id (hown k).1
 refine⟨hh.tmps,hh.defers,hh.kept,λ k h=>hh.old k ((hown k).1 h),⟨hh.good.fr,λ k h=>hh.good.own k ((hown k).1 h), ?_,λ it hi=> ?_⟩,λ t=>(af t).keep (Keeps.refl _ _) hM (hh.fits t)⟩
 .have:=hh.good.nodup
  simpa[List.flatMap_cons,boxI,knowI]using this
 .have hk:a.p (both E.F (Items.own (knowI a v::boxI bt b c::σ))) w v:=hh.good.items (knowI a v) List.mem_cons_self
  rcases List.mem_cons.1 hi with rfl|hi
  .exact a.keep (Keeps.refl _ _) hM hk
  .rcases List.mem_cons.1 hi with rfl|hi
   .obtain⟨vs,h1,h2⟩:=hh.good.items (boxI bt b c) (by simp)
    exact⟨vs,h1,(h2.set hj hk).keep (Keeps.refl _ _) hM⟩
   .exact it.keep (Keeps.refl _ _) hM (hh.good.items it (by simp[hi]))
def IsSl (v:Value):Prop:= ∃A l c,v= .slice A l c
theorem isSl_of_vec {M:BSet} (h:(vecT P t n enc v xs).p M w):IsSl v:=by
 obtain⟨vs,hown,_⟩:=h
 rcases hown.2 with⟨rfl,_⟩|⟨g,cap,cur,rfl,_⟩
 .exact⟨_,_,_,rfl⟩
 .exact⟨_,_,_,rfl⟩
theorem opB_sl (hm:vecT P t n enc v xs∈σ) (h:IsSl v->opB P o af σ K):opB P o af σ K:=by
 by_cases hs:IsSl v
 .exact h hs
 .exact⟨λ _ _=>False,λ F w ev hg hx=>absurd (isSl_of_vec (hg.items _ hm)) hs,λ _ _ h=>h.elim⟩
theorem CellsOf.sl (h:IsSl v):CellsOf (.exact v) [.exact v]:=λ M w u hu=>⟨[u],by obtain⟨A,l,c,rfl⟩:=h;rw[show u=_ from hu];rfl,⟨hu,trivial⟩⟩
theorem OneC.sl {c:List AV} (h:IsSl v) (hc:OneC c):OneC (.exact v::c):=OneC.cons (λ M w u hu=>by obtain⟨A,l,c,rfl⟩:=h;rw[show u=_ from hu];rfl) hc
theorem OneC.nilS {A:Option Addr} {l k:Nat} {c:List AV} (hc:OneC c):OneC (.exact (.slice A l k)::c):=OneC.cons (λ M w u hu=>by rw[show u=_ from hu];rfl) hc
theorem CellsOf.ptr:CellsOf (.ptr c) [.ptr c]:=λ M w u h=>⟨[u],by obtain⟨b,off,h1,_⟩:=h;rw[h1];rfl,⟨h,trivial⟩⟩
theorem OneC.ptr {c':List AV} (hc:OneC c'):OneC (.ptr c::c'):=OneC.cons (λ M w u h=>by obtain⟨b,off,h1,_⟩:=h;rw[h1];rfl) hc
theorem CellsOf.fn {ι δ:Type} {args:ι->List AV} {f:ι->Option δ} {res:δ->AV}:CellsOf (.fn P args f res) [.fn P args f res]:=λ M w v h=>⟨[v],by obtain⟨k,fn,caps,avs,h1,_⟩:=h;rw[h1];rfl,⟨h,trivial⟩⟩
theorem OneC.fn {ι δ:Type} {args:ι->List AV} {f:ι->Option δ} {res:δ->AV} {c':List AV} (hc:OneC c'):OneC (.fn P args f res::c'):=OneC.cons (λ M w u h=>by obtain⟨k,fn,caps,avs,h1,_⟩:=h;rw[h1];rfl) hc
theorem AV.ext' {x y:AV} (h: ∀M w v,x.p M w v↔y.p M w v):x=y:=by
 cases x with|mk p k=>cases y with|mk q k'=>
 have:p=q:=by funext M w v;exact propext (h M w v)
 subst this
 rfl
end
end
noncomputable section
open Go.RowKit
mutual
def ndA:Nd->AV
 | .nil=> .exact (.pointer none)
 | .mk op n kids=> .ptr [.exact (.int .i64 op), .exact (.int .i64 n), .row 1 (λ a=>[a]) (ndAs kids)]
def ndAs:List Nd->List AV
 |[]=>[]
 |k::l=>ndA k::ndAs l
end
theorem ndA_one {t:Nd} {M:BSet} {w:World} {u:Value} (h:(ndA t).p M w u):u.cells= #[u]/\u.oneCell'=true:=by
 cases t with
 |nil=>rw[ndA]at h;rw[show u=_ from h];exact⟨rfl,rfl⟩
 |mk op n kids=>rw[ndA]at h;obtain⟨b,off,h1,_⟩:=h;rw[h1];exact⟨rfl,rfl⟩
theorem CellsOf.tree {t:Nd}:CellsOf (ndA t) [ndA t]:=λ M w v h=>⟨[v],(ndA_one h).1,⟨h,trivial⟩⟩
theorem OneC.tree {t:Nd} {c:List AV} (hc:OneC c):OneC (ndA t::c):=OneC.cons (λ M w u h=>(ndA_one h).2) hc
attribute [irreducible] ndA
end
noncomputable section
open Go.RowKit
section
variable {P:Program} {E:Env} {af:AF} {σ ρ:Items} {d:Option Tmp} {ty t:TypeId} {pos:String} {after:Array Edge} {g:Option (Nat×Bool)} {α:Type} {n:Nat} {enc:α->List AV} {xs ys:List α} {v:Value}
end
end
noncomputable section
open Go.RowKit
section
variable {P:Program} {E:Env} {af:AF} {σ ρ:Items} {d:Option Tmp} {ty t:TypeId} {pos:String} {after:Array Edge} {g:Option (Nat×Bool)} {α:Type} {n:Nat} {enc:α->List AV} {xs ys:List α} {v:Value}
end
end
noncomputable section
open Go.RowKit Go.Lib
def sitI (b:Nat) (s:List UInt8) (pos:Nat):Item where
 own:=[b]
 p:=λ _ w=>w.heap[b]?=some (.stringIter (bs s) pos)
 keep:=λ {M M' w w'} hk _ h1=>by
  rw[hk.block b (Array.getElem?_eq_some_iff.1 h1).1 (λ h=>h.2 (by simp))]
  exact h1
def AV.sitn (s:List UInt8) (pos:Nat):AV:=⟨λ _ _ v=>if pos<s.length then∃r,v= .tuple #[.bool true, .int .i64 pos, .int .i32 r]else v= .tuple #[.bool false],λ _ _ h=>h⟩
section
variable {P:Program} {E:Env} {af:AF} {σ ρ:Items} {d:Option Tmp} {ty t:TypeId} {pos:String} {after:Array Edge} {g:Option (Nat×Bool)} {s:List UInt8} {q b:Nat}
theorem op_rangeS {x:Operand} {K:AF->Items->Prop} (ht:P.underlying t=some .string) (hx:af.ev x= .exact (.string (bs s))) (hk: ∀b,K (af.put d (pA b 0)) (sitI b s 0::σ)):opB P ⟨d, .range t x,ty,pos,after,g⟩ af σ K:=by
 refine⟨λ a τ=> ∃b,a=pA b 0/\τ=sitI b s 0::σ,λ F w ev hg h=> ?_,λ av τ ⟨b,e1,e2⟩=>by subst e1 e2;exact hk b⟩
 have e1:=opnd h (x:=x) (by simp[Op.operands]) hx
 have hrun:(execOp ev ⟨d, .range t x,ty,pos,after,g⟩).run P w= .ok (.value (.pointer (some ⟨w.heap.size,0,none⟩))) (w.alloc (.stringIter (bs s) 0)):=by
  have hr:=run_range_string w t (bs s) ht
  simp[execOp,e1,hr,Result.andThen]
  rfl
 rw[hrun]
 exact out_new (it:=sitI w.heap.size s 0) hg rfl (λ M hM=>heap_alloc_new w _) (λ M=>rfl) ⟨_,rfl,rfl⟩
theorem op_nextS {x:Operand} {K:AF->Items->Prop} (hx:af.ev x=pA b 0) (hk:K (af.put d (.sitn s q)) (sitI b s (sNx s q)::ρ)):opB P ⟨d, .next x true,ty,pos,after,g⟩ af (sitI b s q::ρ) K:=by
 refine⟨λ a τ=>a= .sitn s q/\τ=sitI b s (sNx s q)::ρ,λ F w ev hg h=> ?_,λ av τ ⟨e1,e2⟩=>by subst e1 e2;exact hk⟩
 have e1:ev x= .pointer (some ⟨b,0,none⟩):=opnd h (x:=x) (by simp[Op.operands]) hx
 have hb:w.heap[b]?=some (.stringIter (bs s) q):=hg.items (sitI b s q) List.mem_cons_self
 have hlt:b<w.heap.size:=(Array.getElem?_eq_some_iff.1 hb).1
 have hsz:(bs s).size=s.length:=by simp[ByteArray.size]
 by_cases hp:q<s.length
 .have hrun:(execOp ev ⟨d, .next x true,ty,pos,after,g⟩).run P w= .ok (.value (.tuple #[.bool true, .int .i64 q, .int .i32 (Utf8.decode (bs s) q).1])) (w.iterAt b (bs s) (q+(Utf8.decode (bs s) q).2)):=by
   simp[execOp,e1,run_next_any_at w b (bs s) q ty hb (by omega),Result.andThen]
  rw[hrun]
  have en:sNx s q=q+(Utf8.decode (bs s) q).2:=by unfold sNx;rw[if_pos hp]
  have hk':Keeps (λ k=>k∈(sitI b s q).own) w (w.iterAt b (bs s) (q+(Utf8.decode (bs s) q).2)):=⟨rfl,rfl,rfl,Nat.le_refl _,by rw[iterAt_size];exact Nat.le_refl _,λ k hlt hn=>iterAt_other w b k _ _ (λ e=>hn (by subst e;simp[sitI]))⟩
  obtain⟨g1,g2,g3⟩:=good_head (it':=sitI b s (sNx s q)) hg hk' (λ k hk=>⟨by
    have:k=b:=by simpa[sitI]using hk
    subst this;rw[iterAt_size];exact hlt,λ _=>hk⟩) (by simp[sitI]) (λ _ _=>by
     show(w.iterAt b (bs s) _).heap[b]?=_
     rw[en];exact iterAt_heap w b (bs s) q _ hb)
  exact⟨_,_,⟨rfl,rfl⟩,g1,g2,g3,by
   show if q<s.length then _ else _
   rw[if_pos hp];exact⟨_,rfl⟩⟩
 .have hrun:(execOp ev ⟨d, .next x true,ty,pos,after,g⟩).run P w= .ok (.value (.tuple #[.bool false])) w:=by
   simp[execOp,e1,run_next_end_at w b (bs s) q ty hb (by omega),Result.andThen]
  rw[hrun]
  have en:sNx s q=q:=by unfold sNx;rw[if_neg hp]
  obtain⟨g1,g2,g3⟩:=good_head (it':=sitI b s (sNx s q)) hg ((Keeps.refl noB w).mono (λ _ _ h=>h.elim)) (λ k hk=>⟨by
    have:k=b:=by simpa[sitI]using hk
    subst this;exact hlt,λ _=>hk⟩) (by simp[sitI]) (λ _ _=>by
     show w.heap[b]?=_
     rw[en];exact hb)
  exact⟨_,_,⟨rfl,rfl⟩,g1,g2,g3,by
   show if q<s.length then _ else _
   rw[if_neg hp]⟩
theorem op_sit0 {x:Operand} {K:AF->Prop} (hx:af.ev x= .sitn s q) (hk:K (af.put d (.exact (.bool (decide (q<s.length)))))):opA P ⟨d, .extract x 0,ty,pos,after,g⟩ af K:=by
 refine⟨_,λ M w ev _ h=> ?_,hk⟩
 have e0:=zgw h (x:=x) (by simp[Op.operands]) hx
 by_cases hp:q<s.length
 .have e0: ∃r,ev x= .tuple #[.bool true, .int .i64 q, .int .i32 r]:=by
   have e1:if q<s.length then∃r,ev x= .tuple #[.bool true, .int .i64 q, .int .i32 r]else ev x= .tuple #[.bool false]:=e0
   rwa [if_pos hp]at e1
  obtain⟨r,e1⟩:=e0
  simp[execOp,Instr.extract,e1,go_sem,UponQ,hp]
  exact⟨Keeps.refl _ _,rfl⟩
 .have e1:ev x= .tuple #[.bool false]:=by
   have e1:if q<s.length then∃r,ev x= .tuple #[.bool true, .int .i64 q, .int .i32 r]else ev x= .tuple #[.bool false]:=e0
   rwa [if_neg hp]at e1
  simp[execOp,Instr.extract,e1,go_sem,UponQ,hp]
  exact⟨Keeps.refl _ _,rfl⟩
theorem op_sit1 {x:Operand} {K:AF->Prop} (hx:af.ev x= .sitn s q) (hq:q<s.length) (hk:K (af.put d (.exact (.int .i64 (q:Int))))):opA P ⟨d, .extract x 1,ty,pos,after,g⟩ af K:=by
 refine⟨_,λ M w ev _ h=> ?_,hk⟩
 have e0:=zgw h (x:=x) (by simp[Op.operands]) hx
 have e1:if q<s.length then∃r,ev x= .tuple #[.bool true, .int .i64 q, .int .i32 r]else ev x= .tuple #[.bool false]:=e0
 rw[if_pos hq]at e1
 obtain⟨r,e1⟩:=e1
 simp[execOp,Instr.extract,e1,go_sem,UponQ]
 exact⟨Keeps.refl _ _,rfl⟩
end
end
noncomputable section
open Go.RowKit Go.Maps
section
variable {κ β:Type} {P:Program} {kt:TypeId} {kv:κ->Value} {V:κ->Prop} {Wp:World->Prop} {vv:β->AV} {M:BSet} {w:World}
def fndL [DecidableEq κ]:List MapEntry->List κ->κ->Nat->Option (Nat×Value)
  |e::es,k::ks,a,i=>if a=k then some (i,e.val)else fndL es ks a (i+1)
  |_,_,_,_=>none
structure KeyOk [DecidableEq κ] (P:Program) (kt:TypeId) (kv:κ->Value) (V:κ->Prop) (Wp:World->Prop):Prop where
  check: ∀w em a,V a->(Instr.checkKey em 10000 kt (kv a)).run P w= .ok () w
  find: ∀w a,V a->Wp w-> ∀(es:List MapEntry) (ks:List κ),(∀k∈ks,V k)->es.map (·.key)=ks.map kv->(Instr.findKey kt (kv a) es).run P w= .ok (fndL es ks a 0) w
  stays: ∀w a,V a->(Instr.keyThatStays (kv a) (kv a)).run P w= .ok (kv a) w
def EntFit (M:BSet) (w:World) (kv:κ->Value) (vv:β->AV):List MapEntry->List (κ×β)->Prop
  |[],[]=>True
  |e::es,x::l=>(e.key=kv x.1/\(vv x.2).p M w e.val)/\EntFit M w kv vv es l
  |_,_=>False
theorem EntFit.keys: ∀{es:List MapEntry} {l:List (κ×β)},EntFit M w kv vv es l->es.map (·.key)=(l.map (·.1)).map kv
  |[],[],_=>rfl
  |e::es,x::l,h=>by simp only[List.map_cons];rw[h.1.1,EntFit.keys h.2]
theorem EntFit.len: ∀{es:List MapEntry} {l:List (κ×β)},EntFit M w kv vv es l->es.length=l.length
  |[],[],_=>rfl
  |e::es,x::l,h=>by simp only[List.length_cons];rw[EntFit.len h.2]
theorem EntFit.keep {M':BSet} {w':World} (hk:Keeps M w w') (hm: ∀k,k<w.heap.size->M' k->M k): ∀{es:List MapEntry} {l:List (κ×β)},EntFit M w kv vv es l->EntFit M' w' kv vv es l
  |[],[],_=>trivial
  |e::es,x::l,h=>⟨⟨h.1.1,(vv x.2).keep hk hm h.1.2⟩,EntFit.keep hk hm h.2⟩
variable [DecidableEq κ]in
theorem EntFit.look {a : κ} : ∀ {es : List MapEntry} {l : List (κ × β)} {i : Nat}, EntFit M w kv vv es l →
    (fndL es (l.map (·.1)) a i=none/\lookL l a=none)∨ ∃j v x,fndL es (l.map (·.1)) a i=some (i+j,v)/\lookL l a=some x/\(vv x).p M w v/\j<es.length
  |[],[],_,_=> .inl ⟨rfl,rfl⟩
  |e::es,x::l,i,h=>by
    by_cases hx:x.1=a
    . exact .inr ⟨0,e.val,x.2,by simp[fndL,hx],by simp[lookL,hx],h.1.2,by simp⟩
    . have hx': ¬a=x.1:=λ e=>hx e.symm
      rcases EntFit.look (a:=a) (i:=i+1) h.2 with⟨h1,h2⟩|⟨j,v,y,h1,h2,h3,h4⟩
      . exact .inl ⟨by simp[fndL,hx',h1],by simp[lookL,hx,h2]⟩
      . exact .inr ⟨j+1,v,y,by simp only[List.map_cons,fndL,hx',if_false,h1];congr 2;omega,by simp[lookL,hx,h2],h3,by simp;omega⟩
variable [DecidableEq κ]in
theorem EntFit.put_in {a : κ} {v : Value} {z : β} (hz : (vv z).p M w v) : ∀ {es : List MapEntry} {l : List (κ × β)} {i j : Nat} {u : Value}, EntFit M w kv vv es l → fndL es (l.map (·.1)) a i = some (i + j, u) →
    EntFit M w kv vv (es.modify j (λ e=>{ e with key:=kv a,val:=v })) (putL l a z)/\ ∃e,es[j]?=some e/\e.key=kv a
  |[],[],_,_,_,_,h=>by simp[fndL]at h
  |e::es,x::l,i,j,u,h,hf=>by
    by_cases hx:x.1=a
    . simp[fndL,hx]at hf
      obtain⟨h0,_⟩:=hf
      obtain rfl:j=0:=by omega
      refine⟨?_,e,rfl,by rw[h.1.1,hx]⟩
      simp only[List.modify_zero_cons,putL,hx,if_true]
      exact⟨⟨rfl,hz⟩,h.2⟩
    . have hx': ¬a=x.1:=λ e=>hx e.symm
      simp only[List.map_cons,fndL,hx',if_false]at hf
      cases j with
      |zero=>
        rcases EntFit.look (a:=a) (i:=i+1) h.2 with⟨h1,_⟩|⟨j,v,y,h1,_⟩
        . rw[h1]at hf;cases hf
        . rw[h1]at hf;simp at hf;omega
      |succ j=>
        obtain⟨h1,e',h2,h3⟩:=EntFit.put_in hz (i:=i+1) (j:=j) (u:=u) h.2 (by rw[hf];congr 2;omega)
        refine⟨?_,e',by simpa using h2,h3⟩
        simp only[List.modify_succ_cons,putL,hx,if_false]
        exact⟨h.1,h1⟩
variable [DecidableEq κ]in
theorem EntFit.put_new {a : κ} {v : Value} {z : β} {c : Nat} (hz : (vv z).p M w v) : ∀ {es : List MapEntry} {l : List (κ × β)} {i : Nat}, EntFit M w kv vv es l → fndL es (l.map (·.1)) a i = none →
    EntFit M w kv vv (es++[{ key:=kv a,val:=v,born:=c }]) (putL l a z)
  |[],[],_,_,_=>⟨⟨rfl,hz⟩,trivial⟩
  |e::es,x::l,i,h,hf=>by
    by_cases hx:x.1=a
    . simp[fndL,hx]at hf
    . have hx': ¬a=x.1:=λ e=>hx e.symm
      simp only[List.map_cons,fndL,hx',if_false]at hf
      simp only[List.cons_append,putL,hx,if_false]
      exact⟨h.1,EntFit.put_new hz (i:=i+1) h.2 hf⟩
structure MapAt (w:World) (b:Nat) (es:Array MapEntry) (clock:Nat):Prop where
  at':w.heap[b]?=some (.map es clock)
  old: ∀x∈es.toList,x.born<clock
  nd:(es.toList.map (·.born)).Nodup
def mapI (V:κ->Prop) (kv:κ->Value) (vv:β->AV) (b:Nat) (l:List (κ×β)):Item where
  own:=[b]
  p:=λ M w=> ∃es clock,MapAt w b es clock/\EntFit M w kv vv es.toList l/\ ∀x∈l,V x.1
  keep:=λ {M M' w w'} hk hm ⟨es,clock,⟨h1,h2,h3⟩,h4,h5⟩=>⟨es,clock,⟨by
    rw[hk.block b (Array.getElem?_eq_some_iff.1 h1).1 (λ h=>h.2 (by simp))];exact h1,h2,h3⟩,h4.keep (hk.mono (λ k _ h=>h.1)) hm,h5⟩
variable {ops:Array Oper} {E:Env} {af:AF} {σ ρ:Items} {d:Option Tmp} {ty t e:TypeId} {pos:String} {after:Array Edge} {g:Option (Nat×Bool)} {b r:Nat} {l left:List (κ×β)}
theorem op_mnew {K:AF->Items->Prop} (hk: ∀b,K (af.put d (.exact (.map (some b)))) (mapI V kv vv b []::σ)):opB P ⟨d, .makeMap t none,ty,pos,after,g⟩ af σ K:=by
  refine⟨λ a s=> ∃b,a= .exact (.map (some b))/\s=mapI V kv vv b []::σ,λ F w ev hg h=> ?_,λ av s ⟨b,e1,e2⟩=>by subst e1 e2;exact hk b⟩
  have hrun:(execOp ev ⟨d, .makeMap t none,ty,pos,after,g⟩).run P w= .ok (.value (.map (some w.heap.size))) (w.alloc (.map #[] 0)):=rfl
  rw[hrun]
  exact out_new (it:=mapI V kv vv w.heap.size []) hg rfl (λ M hM=>⟨#[],0,⟨(MapKept.heap_alloc w _).1,by simp,by simp⟩,trivial,by simp⟩) (λ M=>rfl) ⟨_,rfl,rfl⟩
def KeyAV (kv:κ->Value) (V:κ->Prop) (a:AV) (k:κ):Prop:= ∀M w v,a.p M w v->v=kv k/\V k
variable [DecidableEq κ]
theorem run_look (hK : KeyOk P kt kv V Wp) (ht : P.underlying t = some (.map kt e)) (hw : Wp w) {k : κ} (hv : V k) {z : β} {zv : Value} (hz : (zeroValue e).run P w = .ok zv w) (hzp : (vv z).p M w zv) (hm : (mapI V kv vv b l).p M w) (ok : Bool) :
    ∃v,(Instr.lookup t (.map (some b)) (kv k) ok).run P w= .ok (if ok then .tuple #[v, .bool (lookL l k).isSome]else v) w/\(vv ((lookL l k).getD z)).p M w v:=by
  obtain⟨es,clock,⟨h1,h2,h3⟩,h4,h5⟩:=hm
  have hf:=hK.find w k hv hw es.toList (l.map (·.1)) (λ q hq=>by obtain⟨x,hx,rfl⟩:=List.mem_map.1 hq;exact h5 x hx) h4.keys
  rcases h4.look (a:=k) (i:=0)with⟨g1,g2⟩|⟨j,v,x,g1,g2,g3,g4⟩
  . rw[g1]at hf
    refine⟨zv, ?_,by rw[g2];exact hzp⟩
    simp only[Instr.lookup,Sem.run_bind,run_underlying ht,MapKept.run_getObj_map h1,hK.check w _ k hv,hf,Result.andThen,Sem.run_pure,hz,g2]
    cases ok <;>rfl
  . rw[g1]at hf
    refine⟨v, ?_,by rw[g2];exact g3⟩
    simp only[Instr.lookup,Sem.run_bind,run_underlying ht,MapKept.run_getObj_map h1,hK.check w _ k hv,hf,Result.andThen,Sem.run_pure,g2]
    cases ok <;>rfl
theorem op_mlook2 {m x : Operand} {k : κ} {z : β} {K : AF → Prop} (hi : mapI V kv vv b l ∈ σ) (hK : KeyOk P kt kv V Wp) (hW : ∀ F w, Good F σ w → Wp w) (ht : P.underlying t = some (.map kt e)) (hz : ∀ M w, ∃ v, (zeroValue e).run P w = .ok v w ∧ (vv z).p M w v)
    (hm:af.ev m= .exact (.map (some b))) (hx:KeyAV kv V (af.ev x) k) (hk:K (af.put d (.tup [vv ((lookL l k).getD z), .exact (.bool (lookL l k).isSome)]))):opR P ⟨d, .lookup t m x true,ty,pos,after,g⟩ af σ K:=by
  refine⟨_,λ F w ev hg h=> ?_,hk⟩
  have e1:=opnd h (x:=m) (by simp[Op.operands]) hm
  obtain⟨e2,hv⟩:=hx _ _ _ (h x (by simp[Op.operands]))
  obtain⟨zv,z1,z2⟩:=hz (both F (Items.own σ)) w
  obtain⟨v,h1,h2⟩:=run_look hK ht (hW F w hg) hv z1 z2 (hg.items _ hi) true
  have hrun':(execOp ev ⟨d, .lookup t m x true,ty,pos,after,g⟩).run P w= .ok (.value (.tuple #[v, .bool (lookL l k).isSome])) w:=by
    simp[execOp,e1,e2,h1,Result.andThen]
  rw[hrun']
  exact⟨Keeps.refl _ _,[v, .bool (lookL l k).isSome],rfl,h2,rfl,trivial⟩
theorem putL_keys {k:κ} {z:β}: ∀{l:List (κ×β)}, ∀x∈putL l k z,x.1=k∨x∈l
  |[],x,hx=>by simp[putL]at hx;exact .inl (by rw[hx])
  |y::l,x,hx=>by
    unfold putL at hx
    split at hx
    . rcases List.mem_cons.1 hx with rfl|hx
      . exact .inl rfl
      . exact .inr (List.mem_cons_of_mem _ hx)
    . rcases List.mem_cons.1 hx with rfl|hx
      . exact .inr List.mem_cons_self
      . exact(putL_keys x hx).imp id (List.mem_cons_of_mem _)
omit [DecidableEq κ]in
theorem map_modify_born {es:List MapEntry} {j:Nat} {kv' v:Value}:(es.modify j (λ e=>{ e with key:=kv',val:=v })).map (·.born)=es.map (·.born):=by
  induction es generalizing j with
  |nil=>cases j <;>rfl
  |cons e es ih=>cases j with
    |zero=>rfl
    |succ j=>simp only[List.modify_succ_cons,List.map_cons,ih]
theorem op_mput {m x y : Operand} {k : κ} {z : β} {K : AF → Items → Prop} (hK : KeyOk P kt kv V Wp) (hW : ∀ F w, Good F (mapI V kv vv b l :: ρ) w → Wp w) (ht : P.underlying t = some (.map kt e)) (hm : af.ev m = .exact (.map (some b))) (hx : KeyAV kv V (af.ev x) k) (hy : AV.le (af.ev y) (vv z))
    (hk:K (af.put d undefA) (mapI V kv vv b (putL l k z)::ρ)):opB P ⟨d, .mapUpdate t m x y,ty,pos,after,g⟩ af (mapI V kv vv b l::ρ) K:=by
  refine⟨λ a s=>a=undefA/\s=mapI V kv vv b (putL l k z)::ρ,λ F w ev hg h=> ?_,λ av s ⟨e1,e2⟩=>by subst e1 e2;exact hk⟩
  have e1:=opnd h (x:=m) (by simp[Op.operands]) hm
  obtain⟨e2,hv⟩:=hx _ _ _ (h x (by simp[Op.operands]))
  have e3:=hy _ _ _ (h y (by simp[Op.operands]))
  obtain⟨es,clock,⟨h1,h2,h3⟩,h4,h5⟩:=hg.items (mapI V kv vv b l) List.mem_cons_self
  have hf:=hK.find w k hv (hW F w hg) es.toList (l.map (·.1)) (λ q hq=>by obtain⟨x,hx,rfl⟩:=List.mem_map.1 hq;exact h5 x hx) h4.keys
  have hbl:=(Array.getElem?_eq_some_iff.1 h1).1
  have key: ∃es' clock',(Instr.mapUpdate t (.map (some b)) (kv k) (ev y)).run P w= .ok () (ChangeMaps.setBlock w b (.map es' clock'))/\(∀x∈es'.toList,x.born<clock')/\(es'.toList.map (·.born)).Nodup/\EntFit (both F (Items.own (mapI V kv vv b l::ρ))) w kv vv es'.toList (putL l k z):=by
    rcases h4.look (a:=k) (i:=0)with⟨g1,g2⟩|⟨j,v,x,g1,g2,g3,g4⟩
    . rw[g1]at hf
      refine⟨es.push { key:=kv k,val:=ev y,born:=clock },clock+1, ?_,λ x hx=> ?_, ?_, ?_⟩
      . simp only[Instr.mapUpdate,Sem.run_bind,run_underlying ht,MapKept.run_getObj_map h1,hK.check w _ k hv,hf,Result.andThen,MapKept.run_setObj_map _ h1,ChangeMaps.setBlock]
      . simp at hx
        rcases hx with hx|rfl
        . exact Nat.lt_succ_of_lt (h2 x (by simpa using hx))
        . exact Nat.lt_succ_self _
      . simp only[Array.toList_push,List.map_append,List.map_cons,List.map_nil]
        refine List.nodup_append.2 ⟨h3,by simp,λ a ha b' hb'=> ?_⟩
        obtain⟨x,hx,rfl⟩:=List.mem_map.1 ha
        have:=h2 x hx
        simp at hb'
        omega
      . rw[Array.toList_push];exact h4.put_new e3 g1
    . rw[g1]at hf
      obtain⟨q1,e0,q2,q3⟩:=h4.put_in e3 g1
      have q2':es[0+j]?=some e0:=by rw[Nat.zero_add];simpa using q2
      have hmod:(es.modify (0+j) (λ e=>{ e with key:=kv k,val:=ev y })).toList=es.toList.modify j (λ e=>{ e with key:=kv k,val:=ev y }):=by simp
      refine⟨es.modify (0+j) (λ e=>{ e with key:=kv k,val:=ev y }),clock, ?_,λ x hx=> ?_, ?_, ?_⟩
      . simp only[Instr.mapUpdate,Sem.run_bind,run_underlying ht,MapKept.run_getObj_map h1,hK.check w _ k hv,hf,Result.andThen,q2',Option.map_some,Option.getD_some,q3,hK.stays w k hv,MapKept.run_setObj_map _ h1,ChangeMaps.setBlock]
      . have hm:x.born∈(es.toList.map (·.born)):=by
          rw[←map_modify_born (j:=j) (kv':=kv k) (v:=ev y), ←hmod];exact List.mem_map.2 ⟨x,hx,rfl⟩
        obtain⟨y',hy',e'⟩:=List.mem_map.1 hm
        rw[←e'];exact h2 y' hy'
      . rw[hmod,map_modify_born];exact h3
      . rw[hmod];exact q1
  obtain⟨es',clock',hrun,k1,k2,k3⟩:=key
  have hrun':(execOp ev ⟨d, .mapUpdate t m x y,ty,pos,after,g⟩).run P w= .ok .skip (ChangeMaps.setBlock w b (.map es' clock')):=by
    simp[execOp,e1,e2,hrun,Result.andThen]
  rw[hrun']
  have hset:=MapKept.heap_set (o':= .map es' clock') h1
  have hk':Keeps (λ q=>q∈(mapI V kv vv b l).own) w (ChangeMaps.setBlock w b (.map es' clock')):=⟨rfl,rfl,rfl,Nat.le_refl _,by simp[ChangeMaps.setBlock],λ q hlt hn=>hset.2 q (λ e=>hn (by simp[mapI,e]))⟩
  obtain ⟨g1, g2, g3⟩ := good_head (it' := mapI V kv vv b (putL l k z)) hg hk' (fun q hq => by
      have:q=b:=by simpa[mapI]using hq
      subst this
      exact⟨by simpa[ChangeMaps.setBlock]using hbl,λ _=>by simp[mapI]⟩) (by simp[mapI])
    (λ hkk hMM=>⟨es',clock',⟨hset.1,k1,k2⟩,k3.keep hkk hMM,λ x hx=>by
      rcases putL_keys x hx with e|hx
      . rw[e];exact hv
      . exact h5 x hx⟩)
  exact⟨_,_,⟨rfl,rfl⟩,g1,g2,g3,rfl⟩
end
end
noncomputable section
open Go.RowKit Go.Maps
section
variable {κ β:Type} {P:Program} {kt:TypeId} {kv:κ->Value} {V:κ->Prop} {vv:β->AV} {M:BSet} {w:World}
theorem EntFit.split {e:MapEntry} {B':List MapEntry}: ∀{A':List MapEntry} {l:List (κ×β)},EntFit M w kv vv (A'++e::B') l-> ∃A x B,l=A++x::B/\e.key=kv x.1/\(vv x.2).p M w e.val/\EntFit M w kv vv (A'++B') (A++B)
  |[],x::l,h=>⟨[],x,l,rfl,h.1.1,h.1.2,h.2⟩
  |a::A',y::l,h=>by
    obtain⟨A,x,B,h1,h2,h3,h4⟩:=EntFit.split (A':=A') h.2
    exact⟨y::A,x,B,by rw[h1];rfl,h2,h3,h.1,h4⟩
variable {ops:Array Oper} {E:Env} {af:AF} {σ ρ:Items} {d:Option Tmp} {ty t e:TypeId} {pos:String} {after:Array Edge} {g:Option (Nat×Bool)} {b r:Nat} {l left:List (κ×β)}
end
end
noncomputable section
open Go.RowKit Go.Maps
section
variable {α:Type} {P:Program} {t:TypeId} {enc:α->List AV} {bs bs':List Nat} {H:List α} {M:BSet} {w:World} {F:BSet} {σ ρ:Items} {af:AF} {d:Option Tmp} {ty:TypeId} {pos:String} {after:Array Edge} {g:Option (Nat×Bool)}
end
end
noncomputable section
open Go.RowKit Go.Maps
section
variable {α:Type} {P:Program} {t:TypeId} {enc:α->List AV} {bs:List Nat} {H:List α} {M:BSet} {w:World} {F:BSet} {σ ρ:Items} {af:AF} {d:Option Tmp} {ty:TypeId} {pos:String} {after:Array Edge} {g:Option (Nat×Bool)}
theorem zp_exact {v:Value}:(AV.exact v).p M w v:=rfl
def EndC (r:Tmp) (sz:Nat) (E:Env) (n:Nat) (post:AV->Items->Prop):Exit->AF->Items->Prop
  | .normal,af,σ| .ret,af,σ=> ∃af' σ' c,Sub E n af σ af' σ'/\af' r= .ptr c/\c.length=sz/\post (.agg c) σ'
  |_,_,_=>False
theorem endC {r:Tmp} {sz n:Nat} {E:Env} {post:AV->Items->Prop} {af':AF} {σ':Items} {c:List AV} (h:Sub E n af σ af' σ') (h1:af' r= .ptr c) (h2:c.length=sz) (hp:post (.agg c) σ'):EndC r sz E n post .ret af σ:=⟨af',σ',c,h,h1,h2,hp⟩
theorem fun_of_awp_cell {f : FuncId} {fn : Func} {c : Code} {args : List AV} {post : AV → Items → Prop} {n sz : Nat} {r : Tmp} {rt : TypeId} (hf : P.funcs[f]? = some fn) (hb : fn.body = some c) (hnt : fn.ntmps = n) (hle : args.length ≤ n) (hr : fn.results = #[.cell r rt]) (hB : loadB P rt true sz = true)
    (h: ∀E,(∀k,E.M0 k↔Items.own σ k)->awp P E n c (EndC r sz E n post) (ofArgs args) σ):Fun P f args σ post:=by
  intro F w vs hg hfit
  have hlen:=hfit.length
  refine calls_of_wp hf hb ?_
  have hh:Holds ⟨w,Items.own σ,F⟩ n (ofArgs args) σ { tmps:=vs.toArray++Array.replicate (fn.ntmps - vs.toArray.size) undef,defers:=[] } w:=by
    refine⟨by simp[←hlen,hnt];omega,rfl,Keeps.refl _ _,λ _ h _=>h,hg,λ t=> ?_⟩
    have h1:=hfit.get t
    rcases Nat.lt_or_ge t vs.length with hlt|hge
    . have:(vs.toArray++Array.replicate (fn.ntmps - vs.toArray.size) undef).getD t undef=vs.getD t undef:=by
        simp[Array.getElem?_append,hlt]
      simp only[this]
      exact h1
    . have:args.getD t .top= .top:=by simp[List.getElem?_eq_none (by omega:args.length≤t)]
      show(args.getD t AV.top).p _ _ _
      rw[this]
      trivial
  refine wp_mono (h ⟨w,Items.own σ,F⟩ (λ _=>Iff.rfl) _ _ hh) ?_
  have fin : ∀ a' w' af' σ' cc, Holds ⟨w, Items.own σ, F⟩ n af' σ' a' w' → af' r = .ptr cc → cc.length = sz → post (.agg cc) σ' →
      a'.defers=[]/\ ∃v,(results fn a'.tmps).run P w'= .ok v w'/\ ∃v_1,Ending.returned v= .returned v_1/\Out F σ w post v_1 w':=by
    intro a' w' af' σ' cc hh' h1 h2 hp
    have hv:=hh'.fits r
    rw[h1]at hv
    obtain⟨b,off,e1,hb1,hn1,hc⟩:=hv
    obtain⟨us,hf1,hf2⟩:=fit_cells hc
    obtain⟨⟨D,hu,ha⟩,hs⟩:=loadB_spec hB
    have h3:=run_cells (P:=P) (w:=w') (b:=b) sz off 0 us #[] (λ j hj=>by simpa using hf2 j (by omega)) (by rw[←hf1.length];exact h2)
    refine⟨hh'.defers, .agg us.toArray, ?_,_,rfl,_,σ',hp,hh'.good,hh'.kept,hh'.old,us,rfl,hf1⟩
    have e1':a'.tmps[r]?.getD undef= .pointer (some ⟨b,off,none⟩):=by simpa using e1
    have hl:(loadVar rt ⟨b,off,none⟩).run P w'= .ok (.agg us.toArray) w':=by
      simp[loadVar,run_agg hu,ha,run_size hs,loadCells,h3,go_sem]
    have h4:(asAddr (.pointer (some ⟨b,off,none⟩))).run P w'= .ok ⟨b,off,none⟩ w':=rfl
    unfold results
    rw[hr]
    simp[e1',h4,hl]
  rintro e a' w' ⟨af',σ',hh',hq⟩
  cases e with
  |normal=>obtain⟨af2,σ2,cc,hs,h1,h2,hp⟩:=hq;exact fin a' w' af2 σ2 cc (hs _ _ hh') h1 h2 hp
  |ret=>obtain⟨af2,σ2,cc,hs,h1,h2,hp⟩:=hq;exact fin a' w' af2 σ2 cc (hs _ _ hh') h1 h2 hp
  |_=>exact hq.elim
end
end
noncomputable section
open Go.RowKit
section
variable {P:Program} {af:AF} {σ:Items}
inductive ResIs (P:Program) (af:AF):List ResultVar->List AV->Prop
  |nil:ResIs P af [] []
  |tmp {t:Tmp} {rs:List ResultVar} {l:List AV} (h:ResIs P af rs l):ResIs P af (.tmp t::rs) (af t::l)
  |cell {t:Tmp} {rt:TypeId} {c:List AV} {rs:List ResultVar} {l:List AV} (h1:af t= .ptr c) (hB:loadB P rt true c.length=true) (h:ResIs P af rs l):ResIs P af (.cell t rt::rs) (.agg c::l)
def oneR (tmps:Array Value):ResultVar->Sem Value
  | .tmp t=>pure (tmps.getD t undef)
  | .cell a t=>do loadVar t (←asAddr (tmps.getD a undef))
theorem oneR_cell {M:BSet} {w:World} {c:List AV} {tmps:Array Value} {t:Tmp} {rt:TypeId} (hv:(AV.ptr c).p M w (tmps.getD t undef)) (hB:loadB P rt true c.length=true): ∃v,(oneR tmps (.cell t rt)).run P w= .ok v w/\(AV.agg c).p M w v:=by
  obtain⟨b,off,e1,hb1,hn1,hc⟩:=hv
  obtain⟨us,hf1,hf2⟩:=fit_cells hc
  obtain⟨⟨D,hu,ha⟩,hs⟩:=loadB_spec hB
  have h3:=run_cells (P:=P) (w:=w) (b:=b) c.length off 0 us #[] (λ j hj=>by simpa using hf2 j (by omega)) hf1.length.symm
  have hl:(loadVar rt ⟨b,off,none⟩).run P w= .ok (.agg us.toArray) w:=by
    simp[loadVar,run_agg hu,ha,run_size hs,loadCells,h3,go_sem]
  have h4:(asAddr (.pointer (some ⟨b,off,none⟩))).run P w= .ok ⟨b,off,none⟩ w:=rfl
  refine⟨.agg us.toArray, ?_,us,rfl,hf1⟩
  show(do loadVar rt (←asAddr (tmps.getD t undef)):Sem Value).run P w=_
  rw[e1]
  simp[h4,hl]
theorem ResIs.run {M:BSet} {w:World} {tmps:Array Value} (hf: ∀t,(af t).p M w (tmps.getD t undef)): ∀{rs:List ResultVar} {l:List AV},ResIs P af rs l-> ∃vs:List Value,vs.length=rs.length/\Fit M w l vs/\ ∀(i:Nat) (r:ResultVar),rs[i]?=some r-> ∃v:Value,vs[i]?=some v/\(oneR tmps r).run P w= .ok v w
  |_,_, .nil=>⟨[],rfl,trivial,λ i r h=>by simp at h⟩
  |_,_, .tmp (t:=t) h=>by
    obtain⟨vs,h1,h2,h3⟩:=h.run hf
    refine⟨tmps.getD t undef::vs,by simp[h1],⟨hf t,h2⟩,λ i r hi=> ?_⟩
    cases i with
    |zero=>simp at hi;subst hi;exact⟨_,rfl,rfl⟩
    |succ i=>simpa using h3 i r (by simpa using hi)
  |_,_, .cell (t:=t) h1 hB h=>by
    obtain⟨vs,k1,k2,k3⟩:=h.run hf
    have hv:=hf t
    rw[h1]at hv
    obtain⟨v,r1,r2⟩:=oneR_cell hv hB
    refine⟨v::vs,by simp[k1],⟨r2,k2⟩,λ i r hi=> ?_⟩
    cases i with
    |zero=>simp at hi;subst hi;exact⟨_,rfl,r1⟩
    |succ i=>simpa using k3 i r (by simpa using hi)
def MixRes (P:Program) (fn:Func):Prop:= ∀tmps w (vs:List Value),vs.length=fn.results.toList.length->(∀(i:Nat) (r:ResultVar),fn.results.toList[i]?=some r-> ∃v:Value,vs[i]?=some v/\(oneR tmps r).run P w= .ok v w)->(results fn tmps).run P w= .ok (.tuple vs.toArray) w
theorem mix2 {fn:Func} {r1 r2:ResultVar} (h:fn.results= #[r1,r2]):MixRes P fn:=λ tmps w vs hl hv=>by
  rw[h]at hl hv
  match vs,hl with
  |[v1,v2],_=>
    obtain⟨_,e1,h1⟩:=hv 0 r1 rfl
    obtain⟨_,e2,h2⟩:=hv 1 r2 rfl
    simp only[List.getElem?_cons_zero,List.getElem?_cons_succ,Option.some.injEq]at e1 e2
    subst e1 e2
    have e:results fn tmps=(do let vs←fn.results.mapM (oneR tmps);pure (if h:vs.size=1 then vs[0]else .tuple vs)):=by
      unfold results;congr 1
    rw[e,h]
    simp[h1,h2,go_sem]
theorem mix4 {fn:Func} {r1 r2 r3 r4:ResultVar} (h:fn.results= #[r1,r2,r3,r4]):MixRes P fn:=λ tmps w vs hl hv=>by
  rw[h]at hl hv
  match vs,hl with
  |[v1,v2,v3,v4],_=>
    obtain⟨_,e1,h1⟩:=hv 0 r1 rfl
    obtain⟨_,e2,h2⟩:=hv 1 r2 rfl
    obtain⟨_,e3,h3⟩:=hv 2 r3 rfl
    obtain⟨_,e4,h4⟩:=hv 3 r4 rfl
    simp only[List.getElem?_cons_zero,List.getElem?_cons_succ,Option.some.injEq]at e1 e2 e3 e4
    subst e1 e2 e3 e4
    have e:results fn tmps=(do let vs←fn.results.mapM (oneR tmps);pure (if h:vs.size=1 then vs[0]else .tuple vs)):=by
      unfold results;congr 1
    rw[e,h]
    simp[h1,h2,h3,h4,go_sem]
def EndM (P:Program) (fn:Func) (E:Env) (n:Nat) (post:AV->Items->Prop):Exit->AF->Items->Prop
  | .normal,af,σ| .ret,af,σ=> ∃af' σ' l,Sub E n af σ af' σ'/\ResIs P af' fn.results.toList l/\post (.tup l) σ'
  |_,_,_=>False
theorem endM {fn:Func} {n:Nat} {E:Env} {post:AV->Items->Prop} {af':AF} {σ':Items} {l:List AV} (h:Sub E n af σ af' σ') (h1:ResIs P af' fn.results.toList l) (hp:post (.tup l) σ'):EndM P fn E n post .ret af σ:=⟨af',σ',l,h,h1,hp⟩
theorem fun_of_awp_mix {f : FuncId} {fn : Func} {c : Code} {args : List AV} {post : AV → Items → Prop} {n : Nat} (hf : P.funcs[f]? = some fn) (hb : fn.body = some c) (hnt : fn.ntmps = n) (hle : args.length ≤ n) (hr : MixRes P fn)
    (h: ∀E,(∀k,E.M0 k↔Items.own σ k)->awp P E n c (EndM P fn E n post) (ofArgs args) σ):Fun P f args σ post:=by
  intro F w vs hg hfit
  have hlen:=hfit.length
  refine calls_of_wp hf hb ?_
  have hh:Holds ⟨w,Items.own σ,F⟩ n (ofArgs args) σ { tmps:=vs.toArray++Array.replicate (fn.ntmps - vs.toArray.size) undef,defers:=[] } w:=by
    refine⟨by simp[←hlen,hnt];omega,rfl,Keeps.refl _ _,λ _ h _=>h,hg,λ t=> ?_⟩
    have h1:=hfit.get t
    rcases Nat.lt_or_ge t vs.length with hlt|hge
    . have:(vs.toArray++Array.replicate (fn.ntmps - vs.toArray.size) undef).getD t undef=vs.getD t undef:=by
        simp[Array.getElem?_append,hlt]
      simp only[this]
      exact h1
    . have:args.getD t .top= .top:=by simp[List.getElem?_eq_none (by omega:args.length≤t)]
      show(args.getD t AV.top).p _ _ _
      rw[this]
      trivial
  refine wp_mono (h ⟨w,Items.own σ,F⟩ (λ _=>Iff.rfl) _ _ hh) ?_
  have fin : ∀ a' w' af' σ' l, Holds ⟨w, Items.own σ, F⟩ n af' σ' a' w' → ResIs P af' fn.results.toList l → post (.tup l) σ' →
      a'.defers=[]/\ ∃v,(results fn a'.tmps).run P w'= .ok v w'/\ ∃v_1,Ending.returned v= .returned v_1/\Out F σ w post v_1 w':=by
    intro a' w' af' σ' l hh' h1 hp
    obtain⟨us,k1,k2,k3⟩:=h1.run (tmps:=a'.tmps) hh'.fits
    exact⟨hh'.defers, .tuple us.toArray,hr _ _ us k1 k3,_,rfl,_,σ',hp,hh'.good,hh'.kept,hh'.old,us,rfl,k2⟩
  rintro e a' w' ⟨af',σ',hh',hq⟩
  cases e with
  |normal=>obtain⟨af2,σ2,l,hs,h1,hp⟩:=hq;exact fin a' w' af2 σ2 l (hs _ _ hh') h1 hp
  |ret=>obtain⟨af2,σ2,l,hs,h1,hp⟩:=hq;exact fin a' w' af2 σ2 l (hs _ _ hh') h1 hp
  |_=>exact hq.elim
end
end
noncomputable section
open Go.RowKit Go.Maps
section
variable {κ β:Type} {P:Program} {kt:TypeId} {kv:κ->Value} {V:κ->Prop} {Wp:World->Prop} {vv:β->AV} {M:BSet} {w:World}
theorem bsk_beq (a b:List UInt8):(bs a ==bs b)=decide (a=b):=by
 rw[Bool.eq_iff_iff,MapKept.bytes_beq,decide_eq_true_eq]
 constructor
 .intro h
  have:=congrArg (λ x:ByteArray=>x.data.toList) h
  exact this
 .rintro rfl;rfl
theorem findNow_strk {a:List UInt8}: ∀(es:List MapEntry) (ks:List (List UInt8)) (i:Nat),es.map (·.key)=ks.map (λ k:List UInt8=>Value.string (bs k))->Instr.findNow .string (.string (bs a)) es i=some (fndL es ks a i)
 |[],[],_,_=>rfl
 |e::es,k::ks,i,h=>by
  simp only[List.map_cons,List.cons.injEq]at h
  simp only[Instr.findNow,h.1,Instr.sameNow,fndL,bsk_beq]
  by_cases hak:a=k
  .simp[hak]
  .simp only[hak,decide_false,if_false]
   exact findNow_strk es ks (i+1) h.2
 |[],_::_,_,h=>by simp at h
 |_::_,[],_,h=>by simp at h
theorem keyOk_strk (ht:P.underlying kt=some .string):KeyOk P kt (λ k:List UInt8=> .string (bs k)) (λ _=>True) (λ _=>True) where
 check w em a _:=MapKept.run_checkKey ht (show MapKept.IsKey .string (.string (bs a))from trivial) em 9999
 find w a _ _ es ks _ hk:=by
  exact MapKept.run_findKey ht (findNow_strk es ks 0 hk)
 stays w a _:=MapKept.run_keyThatStays (show MapKept.IsKey .string (.string (bs a))from trivial)
theorem keyAV_strk {a:AV} {k:List UInt8} (h:a= .exact (.string (bs k))):KeyAV (λ k:List UInt8=> .string (bs k)) (λ _=>True) a k:=λ M w v hv=>⟨by subst h;exact hv,trivial⟩
variable [DecidableEq κ] {ops:Array Oper} {E:Env} {af:AF} {σ ρ:Items} {d:Option Tmp} {ty t e:TypeId} {pos:String} {after:Array Edge} {g:Option (Nat×Bool)} {b r:Nat} {l left:List (κ×β)}
theorem op_minsert {m x y:Operand} {k:κ} {z:β} {K:AF->Items->Prop} (hK:KeyOk P kt kv V Wp) (hW: ∀F w,Good F (mapI V kv vv b l::ρ) w->Wp w) (ht:P.underlying t=some (.map kt e)) (hm:af.ev m= .exact (.map (some b))) (hx:KeyAV kv V (af.ev x) k) (hy:AV.le (af.ev y) (vv z))
  (hk:K (af.put d undefA) (mapI V kv vv b (putL l k z)::ρ)):opB P ⟨d, .insert t m x y,ty,pos,after,g⟩ af (mapI V kv vv b l::ρ) K:=by
 have h:=op_mput (d:=d) (ty:=ty) (pos:=pos) (after:=after) (g:=g) hK hW ht hm hx hy hk
 exact h
end
theorem set2r {α:Type} {n:Nat} {enc:α->List AV} {x0 x1 x:List α} {i:Int} (h0:0≤i) (h1:i<2):splc ([.row n enc x0, .row n enc x1]:List AV) (0+i.toNat*1) [.row n enc x]=[.row n enc (if i=0 then x else x0), .row n enc (if i=0 then x1 else x)]:=by
 have:i=0∨i=1:=by omega
 rcases this with rfl|rfl <;>rfl
section
variable {P:Program} {af:AF} {σ:Items} {d:Option Tmp} {ty t:TypeId} {pos:String} {after:Array Edge} {g:Option (Nat×Bool)} {α:Type} {n:Nat} {enc:α->List AV} {ys:List α}
theorem Out.good {F:BSet} {w w':World} {post post':AV->Items->Prop} {v:Value} (h:Out F σ w post v w') (hp: ∀av s,post av s->Good F s w'->post' av s):Out F σ w post' v w':=by
 obtain⟨av,s,h1,h2,h3⟩:=h
 exact⟨av,s,hp av s h1 h2,h2,h3⟩
theorem Upon.good {F:BSet} {w:World} {post post':AV->Items->Prop} (hp: ∀av s w',post av s->Good F s w'->post' av s): ∀{r:Result Next},Upon P F σ w post r->Upon P F σ w post' r
 | .ok (.value v) w',h=>Out.good (show Out F σ w post v w' from h) (λ av s=>hp av s w')
 | .ok .skip w',h=>Out.good (show Out F σ w post undef w' from h) (λ av s=>hp av s w')
 | .ok (.enter f args) w',h=>(show Calls P f args w' _ from h).mono λ e w'' ⟨v,e1,e2⟩=>⟨v,e1,e2.good (λ av s=>hp av s w'')⟩
 | .ok (.row row args) w',h=>(show Rows P row args w' _ from h).mono λ v w'' e2=>Out.good e2 (λ av s=>hp av s w'')
theorem op_appNs {s z:Operand} {K:AF->Items->Prop} (hB:elB P t n=true) (hs:af.ev s= .exact (.slice none 0 0)) (hx:af.ev z= .row n enc ys) (ho: ∀x,OneC (enc x)) (hl:ys.length≤LIM) (hk: ∀v',IsSl v'->K (af.put d (.exact v')) (vecT P t n enc v' ys::σ)):
  opB P ⟨d, .call { callee:= .builtin .append,args:= #[s,z],argTypes:= #[t,t] },ty,pos,after,g⟩ af σ K:=by
 obtain⟨post,hL,hc⟩:=op_appN (d:=d) (ty:=ty) (pos:=pos) (after:=after) (g:=g) (σ:=σ) (K:=λ af' s=> ∃v',af'=af.put d (.exact v')/\s=vecT P t n enc v' ys::σ) hB hs hx ho hl (λ v'=>⟨v',rfl,rfl⟩)
 refine⟨λ a s=> ∃v',IsSl v'/\af.put d a=af.put d (.exact v')/\s=vecT P t n enc v' ys::σ,λ F w ev hg h=>(hL F w ev hg h).good λ av s w' hp hg'=> ?_,λ av s ⟨v',h1,h2,h3⟩=>by rw[h2,h3];exact hk v' h1⟩
 obtain⟨v',e1,e2⟩:=hc av s hp
 subst e2
 exact⟨v',isSl_of_vec (hg'.items _ List.mem_cons_self),e1,rfl⟩
end
end
noncomputable section
open Go.RowKit Go.Sort
section
variable {α:Type} [Inhabited α] {e:α->Value} {P:Program}
theorem take_putCells1 (D:Array α) (cur:Array Value) (h:D.size≤cur.size):(putCells e 0 D cur).toList.take D.size=D.toList.map e:=by
 apply List.ext_getElem?
 intro j
 by_cases hj:j<D.size
 .rw[List.getElem?_take_of_lt hj,Array.getElem?_toList]
  simp[putCells,hj,show j<cur.size by omega]
 .rw[List.getElem?_take_eq_none (by omega),List.getElem?_eq_none (by simp;omega)]
theorem sort1_fun {f:Nat} {rs:List Value} {S:List α->List α} (hS: ∀zs,(S zs).length=zs.length) {encA:α->List AV} (hA: ∀x,encA x=[.exact (e x)])
  (hC: ∀(b c:Nat) (zs:List α) (w:World),zs≠[]->Go.Sort.Holds e w b 0 zs.toArray->b<w.heap.size->zs.length<4611686018427387904->
   Calls P f (.slice (some ⟨b,0,none⟩) zs.length c::rs).toArray w λ x w'=>x= .returned (.tuple #[])/\ ∃n os,w'=sortWorld e w b 0 n (S zs).toArray os)
  (hN: ∀(p:Option Addr) (c:Nat) (w:World),Calls P f (.slice p 0 c::rs).toArray w λ x w'=>x= .returned (.tuple #[])/\w'=w)
  (v:Value) (xs:List α) (hl:xs.length<4611686018427387904) (t:TypeId):
  Fun P f (.exact v::rs.map AV.exact) [vecT P t 1 encA v xs] (λ a s=>a= .tup []/\s=[vecT P t 1 encA v (S xs)]):=by
 intro F w vs hg hfit
 have hS0:S []=[]:=List.length_eq_zero_iff.1 (hS [])
 match vs,hfit with
 |v'::us,⟨e1,e2⟩=>
 have e3:us=rs:=fit_ex_eq e2
 have e4:v'=v:=e1
 clear e1 e2
 subst e3 e4
 by_cases hx:xs=[]
 .subst hx
  obtain⟨us,hown,hf⟩:=hg.items _ List.mem_cons_self
  have hv: ∃p cap,v'= .slice p 0 cap:=by
   rcases hown.2 with⟨rfl,_⟩|⟨q,cap,cur,rfl,_⟩
   .exact⟨none,0,rfl⟩
   .exact⟨_,cap,rfl⟩
  obtain⟨p,cap,rfl⟩:=hv
  refine(hN p cap w).mono λ x w' ⟨he,hw⟩=> ?_
  subst hw
  refine⟨_,he,_,_,⟨rfl,rfl⟩, ?_,(Keeps.refl noB w').mono (λ _ _ h=>h.elim), ?_,⟨[],rfl,trivial⟩⟩
  .rw[hS0];exact hg
  .rw[hS0];exact λ _ h _=>h
 .obtain⟨b,c,cur,us,hv,hb,hnc,hcm,hcs,htk,hf⟩:=vec_cells (hg.items _ List.mem_cons_self) hx
  subst hv
  have hflat: ∀ys:List α,ys.flatMap encA=(ys.map e).map AV.exact:=by
   intro ys
   induction ys with
   |nil=>rfl
   |cons y ys ih=>rw[List.flatMap_cons,List.map_cons,List.map_cons,ih,hA];rfl
  rw[hflat]at hf
  have hus:=fit_ex_eq hf
  subst hus
  rw[Nat.mul_one]at htk hcs
  have hH:Go.Sort.Holds e w b 0 xs.toArray:=by
   intro j hj
   have hj':j<xs.length:=by simpa using hj
   constructor
   .rw[cell_of_row _ b _ _ _ (0,0) hb,Nat.zero_add]
    have e4:(cur.toList.take xs.length)[j]?=(xs.map e)[j]?:=by rw[htk]
    rw[List.getElem?_take_of_lt hj',List.getElem?_map,List.getElem?_eq_getElem hj']at e4
    rw[getElem!_pos xs.toArray j (by simpa using hj')]
    simpa using e4
   .simp[World.frozen?,hb]
  have hblt:=(Array.getElem?_eq_some_iff.1 hb).1
  refine(hC b c xs w hx hH hblt hl).mono λ x w' ⟨he,n,os,hw⟩=> ?_
  generalize hys:S xs=ys at hw⊢
  have hyl:ys.length=xs.length:=by rw[←hys];exact hS xs
  subst hw
  have hheap:(sortWorld e w b 0 n ys.toArray os).heap[b]?=some (.cells (putCells e 0 ys.toArray cur) (elemOfT P t) (0,0)):=by
   unfold sortWorld
   rw[heap_grow_old _ _ (by simpa using hblt)]
   simp[putRow,mapBlock,Sort.ahead,Array.getElem?_modify,hb,onCells]
  have hkp:Keeps (λ q=>q∈(vecT P t 1 encA (.slice (some ⟨b,0,none⟩) xs.length c) xs).own) w (sortWorld e w b 0 n ys.toArray os):=by
   refine⟨rfl,rfl,rfl,Nat.le_add_right _ _, ?_,λ q hlt hn=> ?_⟩
   .simp[sortWorld,grow]
   .have hne:q≠b:=λ e=>hn (by simp[vecT,vecI,Value.ownBlock,e])
    unfold sortWorld
    rw[heap_grow_old _ _ (by simpa using hlt)]
    simp[putRow,mapBlock,Sort.ahead,Array.getElem?_modify,Ne.symm hne]
  have hown:(sortWorld e w b 0 n ys.toArray os).ownsRow 0 (elemOfT P t) 1 (.slice (some ⟨b,0,none⟩) xs.length c) ys.length (ys.map e):=by
   refine⟨by simp, .inr ⟨b,c,_,by rw[hyl],Nat.zero_le _,hheap,by rw[hyl];exact hnc,hcm,by simp[putCells,hcs], ?_⟩⟩
   have:=take_putCells1 (e:=e) ys.toArray cur (by simp[hyl];omega)
   simpa using this
  obtain⟨g1,g2,g3⟩:=good_head (it':=vecT P t 1 encA (.slice (some ⟨b,0,none⟩) xs.length c) ys) hg hkp (λ q hq=>⟨by simp[vecT,vecI,Value.ownBlock]at hq;subst hq;simpa[sortWorld,grow]using Nat.lt_of_lt_of_le hblt (Nat.le_add_right _ _),λ _=>hq⟩) (by simp[vecT,vecI,Value.ownBlock])
   (λ hkk hMM=>⟨ys.map e,hown,by rw[hflat];exact ex_fit_ex _⟩)
  exact⟨_,he,_,_,⟨rfl,rfl⟩,g1,g2,g3,⟨[],rfl,trivial⟩⟩
theorem sortInts_fun {ρ:Go.Shelf.Ren} (L:SlLaysM.n5 P ρ) {encA:Int->List AV} (hA: ∀x,encA x=[.exact (.int .i64 x)]) (v:Value) (xs:List Int) (hl:xs.length<4611686018427387904) (t:TypeId):
  Fun P (ρ.f 5) [.exact v] [vecT P t 1 encA v xs] (λ a s=>a= .tup []/\s=[vecT P t 1 encA v (xs.mergeSort λ x y=>decide (x≤y))]):=
 sort1_fun (rs:=[]) (S:=λ zs=>zs.mergeSort λ x y=>decide (x≤y)) (λ _=>List.length_mergeSort _) hA (λ b c zs w _ hH hb hz=>AnyM.slices_Sort_int L b 0 c zs w hH hb hz) (λ p c w=>AnyM.slices_Sort_int_none L p c w) v xs hl t
theorem m_sortI_ok {ρ:Go.Shelf.Ren} (L:SlLaysM.n5 P ρ) {encA:Int->List AV} (hA: ∀x,encA x=[.exact (.int .i64 x)]) (t:TypeId) {v:Value} (xs r:List Int) (h:m_sortI xs=some r):
  Fun P (ρ.f 5) [.exact v] [vecT P t 1 encA v xs] (λ a s=>a= .tup []/\s=[vecT P t 1 encA v r]):=by
 obtain⟨h1,h2⟩:=zad h
 cases h2
 exact sortInts_fun L hA v xs h1 t
end
end
noncomputable section
open Go.RowKit Go.Sort
section
variable {α:Type} {k:Nat} {encA encW:α->List AV} {M:BSet} {w:World}
theorem fit_split (hk: ∀x,(encA x).length=k): ∀(xs:List α) (us:List Value),Fit M w (xs.flatMap encA) us-> ∃uss:List (List Value),us=uss.flatMap id/\uss.length=xs.length/\ ∀(i:Nat) x u,xs[i]?=some x->uss[i]?=some u->Fit M w (encA x) u/\u.length=k
 |[],us,h=>by
  have:us=[]:=List.length_eq_zero_iff.1 (by rw[←h.length];rfl)
  subst this
  exact⟨[],rfl,rfl,λ i x u hx=>by simp at hx⟩
 |x::xs,us,h=>by
  rw[List.flatMap_cons]at h
  have h1:=(h.take (encA x).length)
  have h2:=(h.drop (encA x).length)
  rw[List.take_left]at h1
  rw[List.drop_left]at h2
  obtain⟨uss,e1,e2,e3⟩:=fit_split hk xs _ h2
  refine⟨us.take (encA x).length::uss, ?_,by simp[e2],λ i y u hy hu=> ?_⟩
  .rw[List.flatMap_cons, ←e1];exact(List.take_append_drop _ _).symm
  .cases i with
   |zero=>
    simp at hy hu
    subst hy hu
    exact⟨h1,by rw[←h1.length];exact hk _⟩
   |succ i=>exact e3 i y u (by simpa using hy) (by simpa using hu)
theorem fit_join: ∀(l:List (α×List Value)),(∀p∈l,Fit M w (encA p.1) p.2)->Fit M w ((l.map (·.1)).flatMap encA) ((l.map (·.2)).flatMap id)
 |[],_=>trivial
 |p::l,h=>by
  simp only[List.map_cons,List.flatMap_cons]
  exact(h p (by simp)).app (fit_join l (λ q hq=>h q (by simp[hq])))
end
end
noncomputable section
open Go.RowKit Go.Sort
section
variable {α:Type} {k:Nat} {encA:α->List AV}
theorem m_sortR_ok {P:Program} {ρ:Go.Shelf.Ren} (L:SlLaysF0.n6 P ρ) (aE: ∀w,(isAgg (ρ.t 24)).run P w= .ok true w) (zE: ∀w,(Go.sizeOf (ρ.t 24)).run P w= .ok k w) (hk: ∀x,(encA x).length=k) (h1: ∀x,OneC (encA x))
  (g:Nat) (eg: ∀args w,(callFunc g args).run P w= .ok (.enter g args) w) (t:TypeId) {c:α->α->Option Int}
  (hc: ∀x y r,c x y=some r->Pure P g [.agg (encA x), .agg (encA y)] (.exact (.int .i64 r))) {v:Value} (xs r:List α) (h:m_sortR c xs=some r):
  Fun P (ρ.f 6) [.exact v, .exact (.func (.func g) #[] #[])] [vecT P t k encA v xs] (λ a s=>a= .tup []/\s=[vecT P t k encA v r]):=by
 obtain⟨hl,ho,rfl⟩:=m_sortbyOn_some h
 intro F w vs hg hfit
 match vs,hfit with
 |[v',f'],⟨q1,q2,_⟩=>
 have q1:v'=v:=q1
 have q2:f'= .func (.func g) #[] #[]:=q2
 subst q1 q2
 by_cases hx:xs=[]
 .subst hx
  have e0:sortC c []=[]:=by unfold sortC;simp
  rw[e0]
  obtain⟨us,hown,hf⟩:=hg.items _ List.mem_cons_self
  have hv: ∃p cap,v'= .slice p 0 cap:=by
   rcases hown.2 with⟨rfl,_⟩|⟨q,cap,cur,rfl,_⟩
   .exact⟨none,0,rfl⟩
   .exact⟨_,cap,rfl⟩
  obtain⟨p,cap,rfl⟩:=hv
  refine(AnyF.slices_SortFunc_none L p cap (.func (.func g) #[] #[]) w).mono λ e w' ⟨he,hw⟩=> ?_
  subst hw
  exact⟨_,he,_,_,⟨rfl,rfl⟩,hg,(Keeps.refl noB w').mono (λ _ _ h=>h.elim),λ _ h _=>h,⟨[],rfl,trivial⟩⟩
 .obtain⟨b,cp,cur,us,hv,hb,hnc,hcm,hcs,htk,hf⟩:=vec_cells (hg.items _ List.mem_cons_self) hx
  obtain⟨uss,e1,e2,e3⟩:=fit_split hk xs us hf
  subst hv
  have hn:0<xs.length:=List.length_pos_iff.2 hx
  let α':=Fin xs.length
  haveI:Inhabited α':=⟨⟨0,hn⟩⟩
  let enc:α'->List Value:=λ i=>uss[i.val]'(by rw[e2];exact i.isLt)
  have hfitE: ∀i:α',Fit (both F (Items.own [vecT P t k encA (.slice (some ⟨b,0,none⟩) xs.length cp) xs])) w (encA xs[i.val]) (enc i)/\(enc i).length=k:=λ i=>
   e3 i.val _ _ (List.getElem?_eq_getElem i.isLt) (List.getElem?_eq_getElem (by rw[e2];exact i.isLt))
  let cf:α'->α'->Int:=λ i j=>cfOf c xs[i.val] xs[j.val]
  have hm: ∀i:α',xs[i.val]∈xs:=λ i=>List.getElem_mem _
  have hO:SWO (ltOf cf):=⟨λ x=>ho.irrefl _ (hm x),λ x y z=>ho.trans _ _ _ (hm x) (hm y) (hm z),λ x y z=>ho.ntrans _ _ _ (hm x) (hm y) (hm z)⟩
  let zs:List α':=List.finRange xs.length
  have hzl:zs.length=xs.length:=List.length_finRange
  have huse:uss=zs.map enc:=by
   refine List.ext_getElem (by rw[e2,List.length_map];exact hzl.symm) (λ i h1 h2=> ?_)
   rw[List.getElem_map]
   show uss[i]=uss[((List.finRange xs.length)[i]'_).val]'_
   congr 1
   simp
  have hus:us=zs.flatMap enc:=by
   rw[e1,huse,List.flatMap_map];rfl
  have hone: ∀i:α', ∀u∈enc i,u.oneCell'=true:=λ i=>(h1 _).fit (hfitE i).1
  have hlenE: ∀i:α',(enc i).length=k:=λ i=>(hfitE i).2
  have hlenf: ∀ys:List α',(ys.flatMap enc).length=ys.length*k:=by
   intro ys
   induction ys with
   |nil=>simp
   |cons y ys ih=>rw[List.flatMap_cons,List.length_append,hlenE,ih,List.length_cons,Nat.add_mul];omega
  have hcn:xs.length*k≤cur.size:=by rw[hcs];exact Nat.mul_le_mul_right _ hnc
  have hH:HoldsK enc k w b 0 zs.toArray:=by
   intro j hj
   rw[size_flatK]at hj
   have hj':j<xs.length*k:=by rw[←hzl];simpa using hj
   constructor
   .rw[cell_of_row _ b _ _ _ (0,0) hb,Nat.zero_add]
    have e3:(flatK enc k zs.toArray)[j]! =(zs.flatMap enc)[j]'(by rw[hlenf,hzl];exact hj'):=by
     rw[getElem!_pos _ j (by rw[size_flatK];exact hj), ←Array.getElem_toList]
     congr 1
     exact flatK_list hlenE zs
    rw[e3]
    have e4:(cur.toList.take (xs.length*k))[j]?=(zs.flatMap enc)[j]?:=by rw[htk,hus]
    have e5:(zs.flatMap enc)[j]?=some ((zs.flatMap enc)[j]'(by rw[hlenf,hzl];exact hj')):=List.getElem?_eq_getElem _
    rw[List.getElem?_take_of_lt hj',e5]at e4
    simpa using e4
   .simp[World.frozen?,hb]
  have hblt:=(Array.getElem?_eq_some_iff.1 hb).1
  have hown0: ∀q,q∈(vecT P t k encA (.slice (some ⟨b,0,none⟩) xs.length cp) xs).own↔q=b:=λ q=>by simp[vecT,vecI,Value.ownBlock]
  have hKp: ∀(m:Nat) (os:Array Obj) (dk:Array α'),Keeps (λ q=>q∈(vecT P t k encA (.slice (some ⟨b,0,none⟩) xs.length cp) xs).own) w (sortWorldK enc k w b 0 m dk os):=by
   intro m os dk
   refine⟨rfl,rfl,rfl,Nat.le_add_right _ _, ?_,λ q hlt hn=> ?_⟩
   .simp[sortWorldK,putRowK,grow]
   .have hne:q≠b:=λ e=>hn ((hown0 q).2 e)
    unfold sortWorldK putRowK
    rw[heap_grow_old _ _ (by simpa using hlt)]
    simp[putRow,mapBlock,Sort.ahead,Array.getElem?_modify,Ne.symm hne]
  have hKM: ∀(m:Nat) (os:Array Obj) (dk:Array α'),Keeps (both F (Items.own [vecT P t k encA (.slice (some ⟨b,0,none⟩) xs.length cp) xs])) w (sortWorldK enc k w b 0 m dk os):=λ m os dk=>
   (hKp m os dk).mono (λ q _ hq=> .inr (by simpa[Items.own]using hq))
  have hcmp:CmpLays P g #[] enc k cf b 0 zs.toArray.size w:=λ m os dk hs x y=>by
   obtain⟨r,hr⟩:=ho.all _ _ (hm x) (hm y)
   have ec:cf x y=r:=by show cfOf c _ _=r;unfold cfOf;rw[hr];rfl
   rw[ec]
   have hkp:=hKM m os dk
   have:=hc _ _ r hr (both F (Items.own [vecT P t k encA (.slice (some ⟨b,0,none⟩) xs.length cp) xs])) (sortWorldK enc k w b 0 m dk os) [.agg (enc x).toArray, .agg (enc y).toArray] (λ q hq=>Nat.lt_of_lt_of_le (hg.lt q hq) hkp.size)
    ⟨⟨_,rfl,(hfitE x).1.keep hkp (λ _ _ h=>h)⟩,⟨_,rfl,(hfitE y).1.keep hkp (λ _ _ h=>h)⟩,trivial⟩
   exact this.mono λ e w' ⟨v,e1,hk,e3⟩=>⟨by rw[e1];exact congrArg _ e3,keeps_grow hk⟩
  have key:=AnyQ.slices_SortFunc L k aE zE enc hlenE hone cf hO g #[] b 0 cp zs.toArray w eg hcmp hH hblt (by simpa[hzl]using hl)
  rw[show zs.toArray.size=xs.length from by simpa using hzl]at key
  refine key.mono λ e w' ⟨he,d',n,os,hp,hs,hw⟩=> ?_
  subst hw
  obtain⟨hsz,_,hperm⟩:=hp
  have hzs:zs.toArray.size=xs.length:=by simpa using hzl
  have hdz:d'.size=xs.length:=by rw[hsz];exact hzs
  have ex1:d'.extract 0 xs.length=d':=by rw[←hdz];exact Array.extract_size
  have ex2:zs.toArray.extract 0 xs.length=zs.toArray:=by rw[←hzs];exact Array.extract_size
  rw[ex1,ex2]at hperm
  generalize hys:d'.toList=ys at hperm
  have hd':d'=ys.toArray:=by rw[←hys]
  subst hd'
  have hyl:ys.length=xs.length:=by simpa using hdz
  have hxz:zs.map (λ i:α'=>xs[i.val])=xs:=List.ext_getElem (by rw[List.length_map];exact hzl) (λ i h1 h2=>by
   rw[List.getElem_map]
   show xs[((List.finRange xs.length)[i]'_).val]'_=xs[i]
   congr 1
   simp)
  have hsort:ys.map (λ i:α'=>xs[i.val])=sortC c xs:=by
   have hp1:(ys.map (λ i:α'=>xs[i.val])).Perm xs:=by
    have:=(show ys.Perm zs by simpa using hperm).map (λ i:α'=>xs[i.val])
    rwa [hxz]at this
   have hs2:sortC c xs=(zs.mergeSort λ x y=> !(ltOf cf) y x).map (λ i=>xs[i.val]):=by
    refine Eq.symm ((List.map_mergeSort (f:=λ i:α'=>xs[i.val]) (s:=λ x y=> !ltC c y x) (λ a _ b _=>rfl)).trans ?_)
    rw[hxz];rfl
   refine List.Perm.eq_of_pairwise (le:=λ x y=>(!ltC c y x)=true) ?_ ?_ ?_ (hp1.trans (List.mergeSort_perm _ _).symm)
   .intro a b' ha hb' g1 g2
    simp only[Bool.not_eq_true']at g1 g2
    exact ho.total a b' (hp1.mem_iff.1 ha) ((List.mergeSort_perm _ _).mem_iff.1 hb') g2 g1
   .rw[List.pairwise_map,List.pairwise_iff_getElem]
    intro i j hi hj hij
    have:=hs i j (Nat.zero_le _) hij (by omega)
    rw[getElem!_pos ys.toArray j (by simpa using hj),getElem!_pos ys.toArray i (by simpa using hi)]at this
    have e:(ltOf cf) ys[j] ys[i]=false:=by simpa using this
    show(!(ltOf cf) ys[j] ys[i])=true
    rw[e];rfl
   .rw[hs2,List.pairwise_map]
    refine(List.pairwise_mergeSort ?_ ?_ _)
    .intro a b' d g1 g2
     simp only[Bool.not_eq_true']at g1 g2⊢
     exact hO.ntrans d b' a g2 g1
    .intro a b'
     show(!(ltOf cf) b' a || !(ltOf cf) a b')=true
     cases g1:ltOf cf b' a with
     |false=>simp
     |true=>
      cases g2:ltOf cf a b' with
      |false=>simp
      |true=>have:=hO.irrefl a;rw[hO.trans a b' a g2 g1]at this;cases this
  have hheap:(sortWorldK enc k w b 0 n ys.toArray os).heap[b]?=some (.cells (putCells id 0 (flatK enc k ys.toArray) cur) (elemOfT P t) (0,0)):=by
   unfold sortWorldK putRowK
   rw[heap_grow_old _ _ (by simpa using hblt)]
   simp[putRow,mapBlock,Sort.ahead,Array.getElem?_modify,hb,onCells]
  have hrow:(sortWorldK enc k w b 0 n ys.toArray os).ownsRow 0 (elemOfT P t) k (.slice (some ⟨b,0,none⟩) xs.length cp) ys.length (ys.flatMap enc):=by
   refine⟨hlenf ys, .inr ⟨b,cp,_,by rw[hyl],Nat.zero_le _,hheap,by rw[hyl];exact hnc,hcm,by simp[putCells,hcs], ?_⟩⟩
   have:=take_putCells_id (flatK enc k ys.toArray) cur (by simp[hyl];exact hcn)
   rw[flatK_list hlenE ys]at this
   rw[←this];simp
  have hkp:=hKp n os ys.toArray
  obtain⟨g1,g2,g3⟩:=good_head (it':=vecT P t k encA (.slice (some ⟨b,0,none⟩) xs.length cp) (sortC c xs)) hg hkp (λ q hq=>⟨by simp[vecT,vecI,Value.ownBlock]at hq;subst hq;exact Nat.lt_of_lt_of_le hblt hkp.size,λ _=>hq⟩) (by simp[vecT,vecI,Value.ownBlock])
   (λ hkk hMM=>⟨ys.flatMap enc,by rw[←hsort,List.length_map];exact hrow,by
    rw[←hsort]
    have:=fit_join (encA:=encA) (M:=both F (Items.own [vecT P t k encA (.slice (some ⟨b,0,none⟩) xs.length cp) (sortC c xs)])) (w:=sortWorldK enc k w b 0 n ys.toArray os) (ys.map (λ i=>(xs[i.val],enc i))) (λ p hp=>by
     obtain⟨i,_,rfl⟩:=List.mem_map.1 hp
     exact(hfitE i).1.keep hkk hMM)
    rw[List.map_map,List.map_map,List.flatMap_map]at this
    rw[List.flatMap_map]at this⊢
    exact this⟩)
  exact⟨_,he,_,_,⟨rfl,rfl⟩,g1,g2,g3,⟨[],rfl,trivial⟩⟩
end
end
noncomputable section
def resW {α:Type}:Result α->World
 | .ok _ w=>w
 | .halt _ w=>w
theorem runW_drawn {P:Program} {α:Type}: ∀(m:Sem α) (w:World),w.drawn≤(resW (m.run P w)).drawn:=by
 intro m
 induction m with
 |pure a=>intro w;exact Nat.le_refl _
 |halt e=>intro w;exact Nat.le_refl _
 |load m a k ih=>
  intro w
  rw[Sem.run]
  split
  .exact ih _ _
  .split
   .exact ih _ _
   .exact Nat.le_refl _
 |store m a v k ih=>
  intro w
  have key:w.drawn≤(resW (match w.cell? a with|some _=>if w.frozen? a then Result.halt (.unsupported (.unsafePointer "a write to bytes that a string shares")) w else k.run P (w.setCell a v)|none=>match w.farStore P a v (m ==Mode.atomic)with| .ok (w,_)=>k.run P w| .error h=> .halt h w)).drawn:=by
   split
   .split
    .exact Nat.le_refl _
    .exact(ih (w.setCell a v):(w.setCell a v).drawn≤_)
   .split
    .rename_i h1;exact Nat.le_trans (far_drawn h1) (ih _)
    .exact Nat.le_refl _
  cases v
  all_goals first|exact key|(simp only[Sem.run];first|exact key|exact Nat.le_refl _)
 |new o k ih=>
  intro w
  rw[Sem.run]
  exact(ih _ { w with heap:=w.heap.push o }:({ w with heap:=w.heap.push o }:World).drawn≤_)
 |shape r k ih=>intro w;rw[Sem.run];exact ih _ _
 |freeze a n k ih=>
  intro w
  rw[Sem.run]
  have:=ih (w.freeze a n)
  have e:(w.freeze a n).drawn=w.drawn:=by unfold World.freeze;split <;>rfl
  rwa [e]at this
 |frozen a k ih=>intro w;rw[Sem.run];exact ih _ _
 |getObj r k ih=>
  intro w
  rw[Sem.run]
  split
  .exact Nat.le_refl _
  .exact ih _ _
  .exact Nat.le_refl _
 |setObj r o k ih=>
  intro w
  rw[Sem.run]
  split
  .exact Nat.le_refl _
  .exact(ih { w with heap:=w.heap.setIfInBounds r o }:({ w with heap:=w.heap.setIfInBounds r o }:World).drawn≤_)
  .exact Nat.le_refl _
 |choose q k ih=>
  intro w
  rw[Sem.run]
  split
  .exact ih _ _
  .exact Nat.le_trans (Nat.le_succ _) (ih _ { w with drawn:=w.drawn+1 })
 |sys c k ih=>intro w;rw[Sem.run];exact Nat.le_trans (sys_drawn w c) (ih _ _)
 |program k ih=>intro w;rw[Sem.run];exact ih _ _
 |mark m k ih=>intro w;rw[Sem.run];exact ih _
theorem zdi {P:Program} {α:Type} {m:Sem α} {w:World} {r:Result α} (h:m.run P w=r):w.drawn≤(resW r).drawn:=h ▸ runW_drawn m w
def GW (w:World):GStep->Prop
 | .go _ w' _=>w.drawn≤w'.drawn
 | .comm _ _ _ _ w' _=>w.drawn≤w'.drawn
 | .spawn _ _ w' _=>w.drawn≤w'.drawn
 | .count _ w' _=>w.drawn≤w'.drawn
 | .timer _ _ w' _=>w.drawn≤w'.drawn
 | .alone _ _ w' _=>w.drawn≤w'.drawn
 | .newcoro _ _ _ w' _=>w.drawn≤w'.drawn
 | .coroswitch _ _ _ w' _=>w.drawn≤w'.drawn
 | .collect _ w' _=>w.drawn≤w'.drawn
 | .watch _ w' _=>w.drawn≤w'.drawn
 | .ended _ _ _=>True
theorem GW.after {w:World} {es:Array Event} {s:GStep} (h:GW w s):GW w (GStep.after es s):=by cases s <;>exact h
theorem GW.trans {w w':World} {s:GStep} (h:w.drawn≤w'.drawn) (h':GW w' s):GW w s:=by
 cases s <;>first|exact trivial|exact Nat.le_trans h h'
theorem ite_GW {w:World} {c:Prop} [Decidable c] {a b:GStep} (ha:GW w a) (hb:GW w b):GW w (if c then a else b):=by split;exact ha;exact hb
theorem endWith_GW (w:World) (fd:Nat) (t:ByteArray) (o:Outcome):GW w (endWith w fd t o):=by
 unfold endWith
 dsimp only
 repeat' split
 all_goals exact trivial
theorem endThrow_GW (fr:Frame) (m:String) (w:World):GW w (endThrow fr m w):=Nat.le_refl _
theorem dieOf_GW (fr:Frame) (a:List ByteArray) (m:String) (b:Bool) (w:World):GW w (dieOf fr a m b w):=Nat.le_refl _
theorem endPrinting_GW (p:Program) (fr:Frame) (v:Value) (w:World):GW w (endPrinting p fr v w):=by
 unfold endPrinting
 dsimp only
 split
 .exact endThrow_GW _ _ _
 .exact trivial
theorem endFatal_GW (p:Program) (fr:Frame) (cs:List Frame) (d:Option Dying) (m:String) (w:World):GW w (endFatal p fr cs d m w):=by
 unfold endFatal
 dsimp only
 split
 .rename_i h;exact GW.trans (zdi h) (dieOf_GW _ _ _ _ _)
 .exact trivial
 .exact trivial
theorem writeOn_GW (p:Program) (fr:Frame) (d:Dying) (f:Fatal) (w:World):GW w (writeOn p fr d f w):=by
 unfold writeOn
 dsimp only
 split
 .exact trivial
 .simp only[Sem.runT_eq]
  split <;>rename_i h
  .simp only[Prod.mk.injEq]at h;exact zdi h.1
  .simp only[Prod.mk.injEq]at h;exact zdi h.1
  .exact trivial
  .exact trivial
theorem die_GW (p:Program) (fr:Frame) (d:Dying) (w:World):GW w (die p fr d w):=by
 unfold die
 split
 .exact writeOn_GW _ _ _ _ _
 .split
  .split
   .exact Nat.le_refl _
   .exact endWith_GW _ _ _ _
  .dsimp only
   split
   .exact Nat.le_refl _
   .split <;>rename_i h
    .exact zdi h
    .exact trivial
   .simp only[Sem.runT_eq]
    refine GW.after ?_
    split <;>rename_i h
    .exact zdi h
    .exact zdi h
    .exact trivial
    .exact GW.trans (zdi h) (endPrinting_GW _ _ _ _)
    .exact trivial
   .exact trivial
theorem doReturn_GW (p:Program) (main:Bool) (fr:Frame) (cs:List Frame) (d:Option Dying) (v:Value) (w:World):GW w (doReturn p main fr cs d v w):=by
 unfold doReturn
 repeat' split
 all_goals first|exact Nat.le_refl _|exact trivial
theorem callDeferred_GW (p:Program) (fr:Frame) (cs:List Frame) (dy:Option Dying) (d:Deferred) (w:World):GW w (callDeferred p fr cs dy d w):=by
 unfold callDeferred
 refine ite_GW trivial ?_
 .simp only[Sem.runT_eq]
  refine GW.after ?_
  split <;>rename_i h
  all_goals first|exact trivial|exact zdi h|exact GW.trans (zdi h) (endFatal_GW _ _ _ _ _ _)|exact GW.trans (zdi h) (endThrow_GW _ _ _)|(split <;>exact zdi h)
theorem unwind_GW (p:Program) (main:Bool) (fr:Frame) (cs:List Frame) (dy:Option Dying) (w:World):GW w (unwind p main fr cs dy w):=by
 unfold unwind
 split
 .simp only[Sem.runT_eq]
  refine GW.after ?_
  split <;>rename_i h
  .exact zdi h
  .exact trivial
 .exact callDeferred_GW _ _ _ _ _ _
 .split
  .exact trivial
  .split
   .exact trivial
   .split
    .exact Nat.le_refl _
    .split
     .split
      .exact Nat.le_refl _
      .split <;>rename_i h
       .exact zdi h
       .exact trivial
       .exact trivial
     .split
      .exact endPrinting_GW _ _ _ _
      .exact trivial
  .split
   .exact doReturn_GW _ _ _ _ _ _ _
   .simp only[Sem.runT_eq]
    refine GW.after ?_
    split <;>rename_i h
    .exact GW.trans (zdi h) (doReturn_GW _ _ _ _ _ _ _)
    .exact trivial
    .exact trivial
theorem early_GW (p:Program) (fr:Frame) (cs:List Frame) (dy:Option Dying) (g:Nat) (w:World):GW w (Go.early p fr cs dy g w):=by
 have notYet: ∀w:World,GW w (match w.heap[g]? with
  |some (.pending c elem)=>
   .go { frame:=fr,callers:=cs,status:= .running,dying:=dy } { w with heap:=w.heap.setIfInBounds g (.cells c elem) }
  |_=> .ended (.stuck "early: the variable does not wait" (fr.pos p)) w):=λ w=>by
  split
  .exact Nat.le_refl _
  .exact trivial
 unfold Go.early
 dsimp only
 refine ite_GW (notYet w) ?_
 split
 .exact trivial
 .refine ite_GW (notYet w) (ite_GW (notYet w) ?_)
  split
  .exact trivial
  .exact Nat.le_refl _
  .exact trivial
  .exact notYet w
  .refine ite_GW (Nat.le_refl _) (ite_GW (notYet w) ?_)
   split <;>rename_i h
   .exact GW.trans (zdi h) (notYet _)
   .exact zdi h
   .exact trivial
theorem apply_GW (p:Program) (listen:Bool) (fr:Frame) (cs:List Frame) (dy:Option Dying) (s:Sem Next) (w:World):GW w (stepG.apply p listen fr cs dy s w):=by
 unfold stepG.apply
 dsimp only
 refine GW.after ?_
 have e:(if listen=true then s.runT p w #[]else(s.run p w, #[])).1=s.run p w:=by split <;>simp
 rw[e]
 split <;>rename_i h
 all_goals first|exact trivial|exact zdi h|exact GW.trans (zdi h) (endFatal_GW _ _ _ _ _ _)|exact GW.trans (zdi h) (endThrow_GW _ _ _)|exact GW.trans (zdi h) (early_GW _ _ _ _ _ _)|exact ite_GW (GW.trans (zdi h) (endThrow_GW _ _ _)) (zdi h)|(split <;>exact zdi h)
theorem oper_GW (p:Program) (listen:Bool) (fr:Frame) (cs:List Frame) (dy:Option Dying) (w:World):GW w (stepG.oper p listen fr cs dy w):=by
 unfold stepG.oper
 split
 .exact trivial
 .split <;>exact apply_GW _ _ _ _ _ _ _
theorem exec_GW (p:Program) (main listen:Bool) (fr:Frame) (cs:List Frame) (dy:Option Dying) (w:World):GW w (stepG.exec p main listen fr cs dy w):=by
 have fin: ∀{α:Type} (m:Sem α) (w':World) (r:Result α) (s:GStep),m.run p w=r->resW r=w'->GW w' s->GW w s:=λ m w' r s h e hs=>GW.trans (e ▸ zdi h) hs
 have leave: ∀(c:Prop) [Decidable c] (jump:Option Code) (ro:Option Nat),GW w (match ro with
   |none=>if c then .go { frame:={ fr with mode:= .returning },callers:=cs,status:= .running,dying:=dy } w else .ended (.stuck "exit, goto: no such block or label" (fr.pos p)) w
   |some l=>
    GStep.after (seen p fr.fn ((Instr.endRound l jump).runT p w #[]).2)<|match((Instr.endRound l jump).runT p w #[]).1 with
    | .ok v w=>doReturn p main fr cs dy v w
    | .halt _ w=> .ended (.stuck "range over a function: no such loop" (fr.pos p)) w):=λ c _ jump ro=>by
  cases ro with
  |none=>
   refine ite_GW ?_ ?_
   .exact Nat.le_refl _
   .exact trivial
  |some l=>
   simp only[Sem.runT_eq]
   refine GW.after ?_
   split <;>rename_i h
   .exact GW.trans (zdi h) (doReturn_GW _ _ _ _ _ _ _)
   .exact trivial
 unfold stepG.exec
 dsimp only
 split
 .exact leave _ _ _
 .exact leave _ _ _
 .exact Nat.le_refl _
 .exact Nat.le_refl _
 .exact Nat.le_refl _
 .exact Nat.le_refl _
 .exact Nat.le_refl _
 .split
  .exact Nat.le_refl _
  .exact trivial
 .exact Nat.le_refl _
 .exact Nat.le_refl _
 .exact Nat.le_refl _
 .exact Nat.le_refl _
 .generalize exitTo _ _=o
  cases o with
  |none=>exact leave _ _ _
  |some x=>exact Nat.le_refl _
 .generalize gotoIn _ _=o
  cases o with
  |none=>exact leave _ _ _
  |some x=>exact Nat.le_refl _
 .simp only[Sem.runT_eq]
  refine GW.after ?_
  split <;>rename_i h
  .exact GW.trans (zdi h) (apply_GW _ _ _ _ _ _ _)
  .exact trivial
 .exact trivial
 .exact apply_GW _ _ _ _ _ _ _
 .simp only[Sem.runT_eq]
  refine GW.after ?_
  split <;>rename_i h
  .exact zdi h
  .exact zdi h
  .exact trivial
 .exact trivial
 .exact apply_GW _ _ _ _ _ _ _
 .generalize Extern.next _=o
  cases o with
  |none=>exact trivial
  |some e=>exact apply_GW _ _ _ _ _ _ _
 .refine ite_GW ?_ ?_
  .exact Nat.le_refl _
  .split <;>rename_i h
   .exact zdi h
   .exact trivial
 .exact Nat.le_refl _
 .refine ite_GW ?_ ?_
  .exact oper_GW _ _ _ _ _ _
  .exact Nat.le_refl _
theorem stepG_GW (p:Program) (main listen:Bool) (g:Goroutine) (w:World):GW w (stepG p main g w listen):=by
 unfold stepG
 dsimp only
 split
 .exact die_GW _ _ _ _
 .exact exec_GW _ _ _ _ _ _ _
 .exact unwind_GW _ _ _ _ _ _
theorem waitingAt_drawn {rest:Rest} {cases:Array CommCase} {w w':World} (h:waitingAt rest cases w=some w'):w.drawn≤w'.drawn:=by
 unfold waitingAt at h
 split at h
 .split at h
  .cases h;exact Nat.le_refl _
  .cases h
 .cases h;exact Nat.le_refl _
theorem communicate_drawn (p:Program) (rest:Rest) (gs:Array Goroutine) (i:Nat) (g:Goroutine) (cases:Array CommCase) (blocking:Bool) (shape:CommShape) (w:World) (m':Machine) (h:(communicate p rest gs i g cases blocking shape w).1= .next m'):w.drawn≤m'.world.drawn:=by
 unfold communicate at h
 simp only[]at h
 split at h
 .simp at h
 .split at h
  .split at h
   .split at h <;>rename_i hw
    .simp only[Stepped.next.injEq]at h;subst h;exact waitingAt_drawn hw
    .simp at h
   .simp only[Stepped.next.injEq]at h;subst h;exact Nat.le_refl _
  .split at h <;>rename_i hp
   .simp at h
   .have hd:=zdi hp
    repeat' split at h
    all_goals first
     |(simp at h;done)
     |(simp only[Stepped.next.injEq]at h;subst h;exact hd)
     |(rename_i hq;simp only[Stepped.next.injEq]at h;subst h;exact Nat.le_trans hd (zdi hq))
     |(rename_i hq _;simp only[Stepped.next.injEq]at h;subst h;exact Nat.le_trans hd (zdi hq))
     |(rename_i hq _ _;simp only[Stepped.next.injEq]at h;subst h;exact Nat.le_trans hd (zdi hq))
     |(rename_i hq _ _ _;simp only[Stepped.next.injEq]at h;subst h;exact Nat.le_trans hd (zdi hq))
     |(rename_i hq _ _ _ _;simp only[Stepped.next.injEq]at h;subst h;exact Nat.le_trans hd (zdi hq))
     |(rename_i hq _ _ _ _ _;simp only[Stepped.next.injEq]at h;subst h;exact Nat.le_trans hd (zdi hq))
     |(rename_i hq _ _ _ _ _ _;simp only[Stepped.next.injEq]at h;subst h;exact Nat.le_trans hd (zdi hq))
theorem look_drawn (p:Program) (gs:Array Goroutine) (rest:Rest) (w:World) (m':Machine) (h:look p gs rest w= .next m'):w.drawn≤m'.world.drawn:=by
 unfold look at h
 simp only[]at h
 split at h
 .split at h
  .simp at h
  .split at h
   .simp at h
   .split at h <;>rename_i hp
    .simp only[Stepped.next.injEq]at h;subst h;exact zdi hp
    .simp at h
    .simp at h
 .simp at h
theorem retime_drawn (m:Machine) (k:Nat) (t:Timer) (a b:Nat):(retime m k t a b).2.world.drawn=m.world.drawn:=by
 unfold retime drain
 dsimp only
 split
 .split <;>rfl
 .rfl
theorem opened_drawn {m m':Machine} {var:Addr} (h:timerOp.opened m var=some m'):m'.world.drawn=m.world.drawn:=by
 unfold timerOp.opened at h
 split at h
 .split at h
  .cases h;rfl
  .cases h
 .cases h;rfl
theorem named_drawn {m m':Machine} {var:Addr} {f:Nat->Timer->Value×Machine} {v:Value} {n:Nat} (hf: ∀k t,(f k t).2.world.drawn=n) (h:timerOp.named m var f= .ok (v,m')):m'.world.drawn=n:=by
 unfold timerOp.named at h
 split at h
 .simp only[Except.ok.injEq]at h
  rw[←hf _ _,h]
 .cases h
theorem timerOp_drawn (m m':Machine) (op:TimerOp) (v:Value) (h:timerOp m op= .ok (v,m')):m'.world.drawn=m.world.drawn:=by
 unfold timerOp at h
 split at h
 .split at h
  .cases h;rfl
  .split at h
   .split at h
    .cases h
    .cases h;rfl
   .cases h
 .exact named_drawn (λ _ _=>retime_drawn _ _ _ _ _) h
 .split at h <;>rename_i ho
  .have:=opened_drawn ho
   rw[←this]
   exact named_drawn (λ _ _=>retime_drawn _ _ _ _ _) h
  .cases h
 .cases h;rfl
theorem runT_drawn (p:Program) (m m':Machine) (i:Nat) (b:Bool) (h:(runT p m i b).1= .next m'):m.world.drawn≤m'.world.drawn:=by
 simp only[runT]at h
 have hs:=stepG_GW p (i ==0) b (m.gs.swapAt! i { (default:Goroutine)with status:= .finished }).1 m.world
 revert hs h
 generalize m.gs.swapAt! _ _=gg
 generalize stepG p _ gg.1 m.world b=s
 intro h hs
 cases s <;>simp only[]at h
 all_goals first
  |(simp at h;done)
  |(exact Nat.le_trans hs (communicate_drawn _ _ _ _ _ _ _ _ _ _ h))
  |(exact Nat.le_trans hs (look_drawn _ _ _ _ _ h))
  |(simp only[Stepped.next.injEq]at h;subst h;exact hs)
  |(repeat' first
    |(simp at h;done)
    |(simp only[Stepped.next.injEq]at h;subst h;exact hs)
    |(rename_i ht;simp only[Stepped.next.injEq]at h;subst h;have e:=timerOp_drawn _ _ _ _ ht;exact Nat.le_trans hs (Nat.le_of_eq e.symm))
    |(rename_i ht;simp only[endThrow,dieOf,GStep.go.injEq]at ht;obtain⟨_,e,_⟩:=ht;simp only[Stepped.next.injEq]at h;subst h;subst e;exact hs)
    |split at h)
theorem serve_drawn (p:Program) (m m':Machine) (k:Nat) (h:serve p m k= .next m'):m.world.drawn≤m'.world.drawn:=by
 unfold serve at h
 simp only[]at h
 repeat' first
  |(simp at h;done)
  |(simp only[Stepped.next.injEq]at h;subst h;exact Nat.le_refl _)
  |split at h
def MW (n:Nat):Move->Prop
 | .goroutine m _=>n≤m.world.drawn
 | .machine (.next m) _=>n≤m.world.drawn
 |_=>True
theorem MW.le {n k:Nat} {v:Move} (h:n≤k) (h':MW k v):MW n v:=by
 cases v with
 |goroutine m i=>exact Nat.le_trans h h'
 |machine s ops=>cases s <;>first|exact Nat.le_trans h h'|exact trivial
theorem serve_MW (p:Program) (m:Machine) (k:Nat) (ops:Array MemOp):MW m.world.drawn (.machine (serve p m k) ops):=by
 cases h:serve p m k with
 |next m'=>exact serve_drawn p m m' k h
 |ended o w=>exact trivial
theorem pick_MW (p : Program) (rs : List Nat) (m : Machine) : MW m.world.drawn (match (choose (.sched rs.length)).run p m.world with
   | .halt _ w=> .machine (.ended (.stuck "sched" "") w)
   | .ok k world=>
    if rs.length≤1 then .goroutine { m with world } (rs.getD k 0)else
    match(choose (.extern "sched.slice" 65536)).run p world with
    | .halt _ w=> .machine (.ended (.stuck "sched.slice" "") w)
    | .ok n world=> .goroutine { m with world,rest:={ m.rest with slice:=if n=0 then none else some (rs.getD k 0,n) } } (rs.getD k 0)):=by
 split <;>rename_i h
 .exact trivial
 .split
  .exact zdi h
  .split <;>rename_i h2
   .exact trivial
   .exact Nat.le_trans (zdi h) (zdi h2)
theorem askOn_MW (p:Program) (m:Machine):MW m.world.drawn (askOn p m):=by
 unfold askOn
 dsimp only
 split
 .exact trivial
 .rename_i k0 w0 h1
  refine MW.le (zdi h1) ?_
  dsimp only[resW]
  split
  .exact serve_MW p _ _ _
  .split
   .split
    .exact Nat.le_refl _
    .split
     .exact Nat.le_refl _
     .split <;>exact trivial
   .split
    .exact pick_MW p (runnable m.gs m.world.os.mono) { m with world:=w0 }
    .rename_i t ht
     split
     .exact trivial
     .rename_i w1 h2;exact MW.le (zdi h2) (pick_MW p (runnable m.gs m.world.os.mono) { m with world:=w1 })
     .rename_i h2;exact zdi h2
     .rename_i k1 w1 h2;exact MW.le (zdi h2) (pick_MW p (runnable m.gs m.world.os.mono) (({ m with world:=w1 }:Machine).advanceTo (t - (k1+1))))
theorem ask_MW (p:Program) (m:Machine):MW m.world.drawn (ask p m):=by
 unfold ask
 split
 .split <;>rename_i h1
  .exact trivial
  .refine MW.le (zdi h1) ?_
   dsimp only[resW]
   split <;>rename_i h2
   .exact MW.le (look_drawn _ _ _ _ _ h2) (askOn_MW p _)
   .rename_i e
    cases hl:look p m.gs m.rest _ with
    |next m'=>exact absurd hl (h2 m')
    |ended o w=>exact trivial
  .exact MW.le (zdi h1) (askOn_MW p _)
 .exact askOn_MW p m
theorem move_MW (p:Program) (m:Machine):MW m.world.drawn (move p m):=by
 unfold move
 split
 .split
  .exact Nat.le_refl _
  .exact trivial
 .split
  .split
   .exact Nat.le_refl _
   .exact ask_MW p { m with rest:={ m.rest with slice:=none } }
  .exact ask_MW p m
theorem step_drawn (p:Program) (m m':Machine) (h:step p m= .next m'):m.world.drawn≤m'.world.drawn:=by
 unfold step stepT at h
 have hm:=move_MW p m
 split at h <;>rename_i hk <;>rw[hk]at hm
 .exact Nat.le_trans hm (runT_drawn p _ m' _ _ h)
 .simp only[]at h
  subst h
  exact hm
theorem runN_drawn (p:Program): ∀(n:Nat) (m m':Machine),runN p n m= .next m'->m.world.drawn≤m'.world.drawn
 |0,m,m',h=>by cases h;exact Nat.le_refl _
 |n+1,m,m',h=>by
  rw[runN]at h
  split at h <;>rename_i hs
  .exact Nat.le_trans (step_drawn p m _ hs) (runN_drawn p n _ m' h)
  .exact absurd h (hs m')
theorem Steps_drawn {p:Program} {m m':Machine} (h:Steps p m m'):m.world.drawn≤m'.world.drawn:=by
 obtain⟨n,h⟩:=h
 exact runN_drawn p n m m' h
theorem Calls_drawn {P:Program} {f:FuncId} {args:Array Value} {w:World} {R:Ending->World->Prop} (h:Calls P f args w R):Calls P f args w λ e w'=>R e w'/\(e≠ .outgrown->w.drawn≤w'.drawn):=λ cs=>by
 obtain⟨e,w',fr,h1,h2,h3⟩:=h cs
 refine⟨e,w',fr,⟨h1,λ hne=> ?_⟩,h2,h3⟩
 cases e with
 |returned v=>exact Steps_drawn h2
 |panicked c=>exact Steps_drawn h2
 |outgrown=>exact absurd rfl hne
end
end Go.Proofs.YtohjfjmjnkglgaaGreatDoor
