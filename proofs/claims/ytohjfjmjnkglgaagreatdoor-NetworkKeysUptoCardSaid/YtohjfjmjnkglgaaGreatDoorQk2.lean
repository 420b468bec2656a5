/- Parts, merged. -/
import Derived.WalkKit
import Derived.RowKit3
import Derived.Test.YtohjfjmjnkglgaaGreatDoorRows
import Derived.Test.YtohjfjmjnkglgaaGreatDoorQk0
import Derived.WalkSpells
import Derived.WalkLawsBesides
import Derived.Still
import Derived.Maps.AppendAt
import Derived.Laws.Strings
import Derived.Laws.Small
import Derived.Laws.CopyRow
import Derived.Laws.BytesString
import Derived.Laws.MakeOwn
import Derived.Laws.Tables
import Derived.Laws.StructEq
namespace Go.Proofs.YtohjfjmjnkglgaaGreatDoor
open _root_.Go.Proofs.Tryz
noncomputable section
theorem ask_drawn {α:Type}: ∀(k:Ask α) (w:World),w.drawn≤(w.ask k).2.drawn:=by
 intro k
 induction k with
 |done a=>intro w;exact Nat.le_refl _
 |ask what range k ih=>
  intro w
  rw[World.ask]
  split
  .exact ih _ _
  .exact Nat.le_trans (Nat.le_succ _) (ih _ { w with drawn:=w.drawn+1 })
theorem sys_drawn (w:World) (c:Sys):w.drawn≤(w.sys c).2.drawn:=by
 have h:=ask_drawn (Kernel.perform c w.os) w
 unfold World.sys
 revert h
 generalize w.ask (Kernel.perform c w.os)=r
 intro h
 split
 .exact Nat.le_refl _
 .exact h
theorem ebind_ok {ε α β:Type} {x:Except ε α} {f:α->Except ε β} {b:β} (h:x >>=f= .ok b): ∃a,x= .ok a/\f a= .ok b:=by
 cases x with
 |error e=>cases h
 |ok a=>exact⟨a,rfl,h⟩
theorem view_drawn {P:Program} {w:World} {at_:Addr} {u:TypeId} {k:Addr} {v:Value} {b:Bool} {r:World×List Addr} (h:w.viewStore P at_ u k v b= .ok r):w.drawn≤r.1.drawn:=by
 unfold World.viewStore at h
 dsimp only at h
 split at h
 .obtain⟨_,h0,_⟩:=ebind_ok h
  cases h0
 .obtain⟨⟨c,e,frozen,first,like,cells⟩,_,h⟩:=ebind_ok h
  dsimp only at h
  split at h
  .split at h
   .obtain⟨_,h0,_⟩:=ebind_ok h
    cases h0
   .obtain⟨c',_,h⟩:=ebind_ok h
    cases h
    exact Nat.le_refl _
  .cases h
theorem far_drawn {P:Program} {w:World} {a:Addr} {v:Value} {b:Bool} {r:World×List Addr} (h:w.farStore P a v b= .ok r):w.drawn≤r.1.drawn:=by
 unfold World.farStore at h
 split at h
 .split at h
  .rename_i h1;cases h;exact view_drawn h1
  .cases h
 .cases h
theorem run_drawn {P:Program} {α:Type}: ∀(m:Sem α) (w:World) (a:α) (w':World),m.run P w= .ok a w'->w.drawn≤w'.drawn:=by
 intro m
 induction m with
 |pure a=>intro w b w' h;simp[Sem.run]at h;obtain⟨rfl,rfl⟩:=h;exact Nat.le_refl _
 |halt e=>intro w b w' h;simp[Sem.run]at h
 |load m a k ih=>
  intro w b w' h
  rw[Sem.run]at h
  split at h
  .exact ih _ _ _ _ h
  .split at h
   .exact ih _ _ _ _ h
   .cases h
 |store m a v k ih=>
  intro w b w' h
  have key:(match w.cell? a with|some _=>if w.frozen? a then Result.halt (.unsupported (.unsafePointer "a write to bytes that a string shares")) w else k.run P (w.setCell a v)|none=>match w.farStore P a v (m ==Mode.atomic)with| .ok (w,_)=>k.run P w| .error h=> .halt h w)= .ok b w'->w.drawn≤w'.drawn:=by
   intro h
   split at h
   .split at h
    .cases h
    .exact(ih (w.setCell a v) _ _ h:(w.setCell a v).drawn≤_)
   .split at h
    .rename_i h1;exact Nat.le_trans (far_drawn h1) (ih _ _ _ h)
    .cases h
  cases v
  all_goals first|exact key h|(simp only[Sem.run]at h;first|exact key h|cases h)
 |new o k ih=>
  intro w b w' h
  rw[Sem.run]at h
  have:=ih _ _ _ _ h
  exact this
 |shape r k ih=>intro w b w' h;rw[Sem.run]at h;exact ih _ _ _ _ h
 |freeze a n k ih=>
  intro w b w' h
  rw[Sem.run]at h
  have:=ih _ _ _ h
  have e:(w.freeze a n).drawn=w.drawn:=by unfold World.freeze;split <;>rfl
  rwa [e]at this
 |frozen a k ih=>intro w b w' h;rw[Sem.run]at h;exact ih _ _ _ _ h
 |getObj r k ih=>
  intro w b w' h
  rw[Sem.run]at h
  split at h
  .cases h
  .exact ih _ _ _ _ h
  .cases h
 |setObj r o k ih=>
  intro w b w' h
  rw[Sem.run]at h
  split at h
  .cases h
  .have:=ih _ _ _ h
   exact this
  .cases h
 |choose q k ih=>
  intro w b w' h
  rw[Sem.run]at h
  split at h
  .exact ih _ _ _ _ h
  .exact Nat.le_trans (Nat.le_succ _) (ih _ _ _ _ h)
 |sys c k ih=>intro w b w' h;rw[Sem.run]at h;exact Nat.le_trans (sys_drawn w c) (ih _ _ _ _ h)
 |program k ih=>intro w b w' h;rw[Sem.run]at h;exact ih _ _ _ _ h
 |mark m k ih=>intro w b w' h;rw[Sem.run]at h;exact ih _ _ _ h
end
noncomputable section
open Go.RowKit
abbrev BSet:=Nat->Prop
structure Keeps (M:BSet) (w w':World):Prop where
 os:w'.os=w.os
 tape:w'.tape=w.tape
 output:w'.output=w.output
 drawn:w.drawn≤w'.drawn
 size:w.heap.size≤w'.heap.size
 block: ∀k,k<w.heap.size-> ¬M k->w'.heap[k]?=w.heap[k]?
def noB:BSet:=λ _=>False
theorem Keeps.refl (M:BSet) (w:World):Keeps M w w:=⟨rfl,rfl,rfl,Nat.le_refl _,Nat.le_refl _,λ _ _ _=>rfl⟩
theorem Keeps.trans {M:BSet} {a b c:World} (h:Keeps M a b) (k:Keeps M b c):Keeps M a c:=
 ⟨k.os.trans h.os,k.tape.trans h.tape,k.output.trans h.output,Nat.le_trans h.drawn k.drawn,Nat.le_trans h.size k.size,λ i hi hm=>(k.block i (Nat.lt_of_lt_of_le hi h.size) hm).trans (h.block i hi hm)⟩
theorem Keeps.mono {M M':BSet} {w w':World} (h:Keeps M w w') (hm: ∀k,k<w.heap.size->M k->M' k):Keeps M' w w':=
 ⟨h.os,h.tape,h.output,h.drawn,h.size,λ i hi hn=>h.block i hi (λ hk=>hn (hm i hi hk))⟩
theorem Keeps.step {M N:BSet} {a b c:World} (h:Keeps M a b) (k:Keeps N b c) (ho: ∀i,N i->i<a.heap.size->M i):Keeps M a c:=
 ⟨k.os.trans h.os,k.tape.trans h.tape,k.output.trans h.output,Nat.le_trans h.drawn k.drawn,Nat.le_trans h.size k.size,λ i hi hm=>(k.block i (Nat.lt_of_lt_of_le hi h.size) (λ hn=>hm (ho i hn hi))).trans (h.block i hi hm)⟩
theorem Keeps.drew (M:BSet) (w:World):Keeps M w { w with drawn:=w.drawn+1 }:=⟨rfl,rfl,rfl,Nat.le_succ _,Nat.le_refl _,λ _ _ _=>rfl⟩
structure AV where
 p:BSet->World->Value->Prop
 keep: ∀{M M':BSet} {w w':World} {v:Value},Keeps M w w'->(∀k,k<w.heap.size->M' k->M k)->p M w v->p M' w' v
def AV.exact (v0:Value):AV:=⟨λ _ _ v=>v=v0,λ _ _ h=>h⟩
def AV.top:AV:=⟨λ _ _ _=>True,λ _ _ _=>trivial⟩
abbrev AF:=Nat->AV
def AF.ev (af:AF):Operand->AV
 | .tmp t=>af t
 | .const v=> .exact v
 | .global g=> .exact (.pointer (some ⟨g,0,none⟩))
 | .func f=> .exact (.func (.func f) #[] #[])
def AF.put (af:AF) (dst:Option Tmp) (x:AV):AF:=match dst with|some d=>λ t=>bif Nat.beq t d then x else af t|none=>af
theorem AF.put_same (af:AF) (d:Nat) (x:AV):(af.put (some d) x) d=x:=by simp[AF.put]
theorem AF.put_other (af:AF) {d t:Nat} (x:AV) (h:t≠d):(af.put (some d) x) t=af t:=by
 have:Nat.beq t d=false:=by
  cases hb:Nat.beq t d with
  |false=>rfl
  |true=>exact absurd (Nat.eq_of_beq_eq_true hb) h
 simp[AF.put,this]
structure Item where
 own:List Nat
 p:BSet->World->Prop
 keep: ∀{M M':BSet} {w w':World},Keeps (λ k=>M k/\k∉own) w w'->(∀k,k<w.heap.size->M' k->M k)->p M w->p M' w'
abbrev Items:=List Item
def Items.own (σ:Items):BSet:=λ k=>k∈σ.flatMap Item.own
def both (A B:BSet):BSet:=λ k=>A k∨B k
structure Good (F:BSet) (σ:Items) (w:World):Prop where
 fr: ∀k,F k->k<w.heap.size
 own: ∀k,Items.own σ k->k<w.heap.size/\ ¬F k
 nodup:(σ.flatMap Item.own).Nodup
 items: ∀it∈σ,it.p (both F (Items.own σ)) w
theorem Good.keep {F:BSet} {σ:Items} {w w':World} (h:Good F σ w) (hk:Keeps noB w w'):Good F σ w':=
 ⟨λ k hF=>Nat.lt_of_lt_of_le (h.fr k hF) hk.size,λ k ho=>⟨Nat.lt_of_lt_of_le (h.own k ho).1 hk.size,(h.own k ho).2⟩,h.nodup,
  λ it hi=>it.keep (hk.mono (λ _ _ hf=>hf.elim)) (λ _ _ hm=>hm) (h.items it hi)⟩
structure Env where
 w0:World
 M0:BSet
 F:BSet
structure Holds (E:Env) (n:Nat) (af:AF) (σ:Items) (a:Act) (w:World):Prop where
 tmps:a.tmps.size=n
 defers:a.defers=[]
 kept:Keeps E.M0 E.w0 w
 old: ∀k,Items.own σ k->k<E.w0.heap.size->E.M0 k
 good:Good E.F σ w
 fits: ∀t,(af t).p (both E.F (Items.own σ)) w (a.tmps.getD t undef)
theorem Holds.ev {E:Env} {n:Nat} {af:AF} {σ:Items} {a:Act} {w:World} (h:Holds E n af σ a w) (x:Operand):(af.ev x).p (both E.F (Items.own σ)) w (a.eval x):=by
 cases x with
 |tmp t=>exact h.fits t
 |const v=>exact rfl
 |global g=>exact rfl
 |func f=>exact rfl
def Out (F:BSet) (σ:Items) (w:World) (post:AV->Items->Prop) (v:Value) (w':World):Prop:=
 ∃av σ',post av σ'/\Good F σ' w'/\Keeps (Items.own σ) w w'/\(∀k,Items.own σ' k->k<w.heap.size->Items.own σ k)/\av.p (both F (Items.own σ')) w' v
def Upon (P:Program) (F:BSet) (σ:Items) (w:World) (post:AV->Items->Prop):Result Next->Prop
 | .ok (.value v) w'=>Out F σ w post v w'
 | .ok .skip w'=>Out F σ w post undef w'
 | .ok (.enter f args) w'=>Calls P f args w' λ e w''=> ∃v,e= .returned v/\Out F σ w post v w''
 | .ok (.row row args) w'=>Rows P row args w' λ v w''=>Out F σ w post v w''
 |_=>False
def Loud (P:Program) (o:Oper) (af:AF) (σ:Items) (post:AV->Items->Prop):Prop:=
 ∀F w ev,Good F σ w->(∀x∈o.op.operands,(af.ev x).p (both F (Items.own σ)) w (ev x))->Upon P F σ w post ((execOp ev o).run P w)
def UponQ (P:Program) (M:BSet) (w:World) (av:AV):Result Next->Prop
 | .ok (.value v) w'=>Keeps noB w w'/\av.p M w' v
 | .ok .skip w'=>Keeps noB w w'/\av.p M w' undef
 | .ok (.enter f args) w'=>Calls P f args w' λ e w''=> ∃v,e= .returned v/\Keeps noB w w''/\av.p M w'' v
 | .ok (.row row args) w'=>Rows P row args w' λ v w''=>Keeps noB w w''/\av.p M w'' v
 |_=>False
def Quiet (P:Program) (o:Oper) (af:AF) (av:AV):Prop:=
 ∀M w ev,(∀k,M k->k<w.heap.size)->(∀x∈o.op.operands,(af.ev x).p M w (ev x))->UponQ P M w av ((execOp ev o).run P w)
theorem zhb {F:BSet} {σ:Items} {w w':World} {av:AV} {v:Value} (hg:Good F σ w) (hk:Keeps noB w w') (hp:av.p (both F (Items.own σ)) w' v):Out F σ w (λ a s=>a=av/\s=σ) v w':=
 ⟨av,σ,⟨rfl,rfl⟩,hg.keep hk,hk.mono (λ _ _ h=>h.elim),λ _ h _=>h,hp⟩
theorem Good.lt {F:BSet} {σ:Items} {w:World} (hg:Good F σ w): ∀k,both F (Items.own σ) k->k<w.heap.size:=λ k h=>h.elim (hg.fr k) (λ h=>(hg.own k h).1)
theorem loud_of_quiet {P:Program} {o:Oper} {af:AF} {av:AV} (σ:Items) (h:Quiet P o af av):Loud P o af σ (λ a s=>a=av/\s=σ):=by
 intro F w ev hg hx
 have h1:=h _ w ev hg.lt hx
 generalize(execOp ev o).run P w=r at h1
 cases r with
 |ok n w'=>
  cases n <;>simp only[UponQ]at h1 <;>simp only[Upon] <;>try exact h1.elim
  case value v=>exact zhb hg h1.1 h1.2
  case skip=>exact zhb hg h1.1 h1.2
  case enter f args=>exact h1.mono λ e w'' ⟨v,he,hk,hp⟩=>⟨v,he,zhb hg hk hp⟩
  case row r args=>exact h1.mono λ v w'' ⟨hk,hp⟩=>zhb hg hk hp
 |halt x w'=>exact h1.elim
def boolOf:Value->Option Bool
 | .bool c=>some c
 |_=>none
def Sat (ops:Array Oper) (o:Oper) (af:AF) (b:Bool):Prop:=
 (o.guard=none/\b=true)∨ ∃j want d u,o.guard=some (j,want)/\(ops[j]?).bind (·.dst)=some d/\af d= .exact u/\b=(boolOf u ==some want)
section
variable {P:Program} {ops:Array Oper} {E:Env} {n:Nat} {Q:Exit->Act->World->Prop}
theorem Sat.wanted {o:Oper} {af:AF} {σ:Items} {b:Bool} {a:Act} {w:World} (h:Sat ops o af b) (hh:Holds E n af σ a w):Region.wanted o (yielded ops a.tmps)=b:=by
 rcases h with⟨h1,rfl⟩|⟨j,want,d,c,h1,h2,h3,rfl⟩
 .simp[Region.wanted,h1]
 .have h4:=hh.fits d
  rw[h3]at h4
  have h5:a.tmps.getD d undef=c:=h4
  have h6:yielded ops a.tmps j=boolOf c:=by
   unfold yielded
   rw[h2]
   cases hq:a.tmps[d]? with
   |none=>simp[hq,undef]at h5;subst h5;simp[hq,boolOf]
   |some u=>
    simp[hq]at h5
    subst h5
    simp only[Option.bind_some,hq]
    cases u <;>rfl
  simp only[Region.wanted,h1,h6]
theorem AF.put_ne (af:AF) {d:Tmp} {dst:Option Tmp} (x:AV) (h:dst≠some d):(af.put dst x) d=af d:=by
 cases dst with
 |none=>rfl
 |some e=>exact af.put_other x (λ he=>h (by rw[he]))
theorem AF.put_comm (af:AF) {x y:Option Tmp} (u v:AV) (h: ∀d,x=some d->y≠some d):(af.put x u).put y v=(af.put y v).put x u:=by
 cases x with
 |none=>rfl
 |some d=>
  cases y with
  |none=>rfl
  |some e=>
   have hne:d≠e:=λ he=>h d rfl (by rw[he])
   funext t
   by_cases h1:t=e
   .subst h1;rw[AF.put_same,AF.put_other _ _ (Ne.symm hne),AF.put_same]
   .rw[AF.put_other _ _ h1];by_cases h2:t=d
    .subst h2;rw[AF.put_same,AF.put_same]
    .rw[AF.put_other _ _ h2,AF.put_other _ _ h2,AF.put_other _ _ h1]
theorem ev_put {o oj:Oper} (af:AF) (x:AV) (h: ∀d,oj.dst=some d->d∉o.looksAt ops): ∀y∈o.op.operands,(af.put oj.dst x).ev y=af.ev y:=by
 intro y hy
 cases y with
 |tmp t=>
  refine af.put_ne x (λ he=>h t he ?_)
  exact List.mem_append_left _ (List.mem_filterMap.2 ⟨.tmp t,by simpa using hy,rfl⟩)
 |_=>rfl
theorem Quiet.put {o oj:Oper} {af:AF} {av:AV} (x:AV) (h: ∀d,oj.dst=some d->d∉o.looksAt ops) (hq:Quiet P o af av):Quiet P o (af.put oj.dst x) av:=
 λ M w ev hM hx=>hq M w ev hM (λ y hy=>by have:=hx y hy;rwa [ev_put af x h y hy]at this)
theorem Loud.unput {o oj:Oper} {af:AF} {σ:Items} {post:AV->Items->Prop} (x:AV) (h: ∀d,oj.dst=some d->d∉o.looksAt ops) (hq:Loud P o (af.put oj.dst x) σ post):Loud P o af σ post:=
 λ F w ev hg hx=>hq F w ev hg (λ y hy=>by rw[ev_put af x h y hy];exact hx y hy)
theorem Sat.put_iff {o oj:Oper} {af:AF} {b:Bool} (x:AV) (h: ∀d,oj.dst=some d->d∉o.looksAt ops):Sat ops o (af.put oj.dst x) b↔Sat ops o af b:=by
 have key: ∀j want d,o.guard=some (j,want)->(ops[j]?).bind (·.dst)=some d->(af.put oj.dst x) d=af d:=λ j want d h1 h2=>
  af.put_ne x (λ he=>h d he (by simp[Oper.looksAt,h1,h2]))
 constructor
 .rintro (h1|⟨j,want,d,c,h1,h2,h3,h4⟩)
  .exact .inl h1
  .exact .inr ⟨j,want,d,c,h1,h2,by rw[←key j want d h1 h2];exact h3,h4⟩
 .rintro (h1|⟨j,want,d,c,h1,h2,h3,h4⟩)
  .exact .inl h1
  .exact .inr ⟨j,want,d,c,h1,h2,by rw[key j want d h1 h2];exact h3,h4⟩
def undefA:AV:= .exact undef
def stepA (P:Program) (ops:Array Oper) (i:Nat) (K:AF->Items->Prop) (af:AF) (σ:Items):Prop:=
 match ops[i]? with
 |none=>K af σ
 |some o=>(Sat ops o af false/\K (af.put o.dst undefA) σ)∨(Sat ops o af true/\ ∃post,Loud P o af σ post/\ ∀av σ',post av σ'->K (af.put o.dst av) σ')
theorem stepA_mono {i:Nat} {K K':AF->Items->Prop} {af:AF} {σ:Items} (h: ∀af σ,K af σ->K' af σ) (hh:stepA P ops i K af σ):stepA P ops i K' af σ:=by
 unfold stepA at*
 split
 .rename_i h0;simp only[h0]at hh;exact h _ _ hh
 .rename_i o h0
  simp only[h0]at hh
  rcases hh with⟨h1,h2⟩|⟨h1,post,h2,h3⟩
  .exact .inl ⟨h1,h _ _ h2⟩
  .exact .inr ⟨h1,post,h2,λ av σ' hp=>h _ _ (h3 av σ' hp)⟩
def YieldsA (P:Program) (ops:Array Oper) (o:Oper) (av:AV) (af:AF):Prop:=
 (Sat ops o af false/\av=undefA)∨(Sat ops o af true/\Quiet P o af av)
theorem YieldsA.step {i:Nat} {o:Oper} {av:AV} {af:AF} {σ:Items} {K:AF->Items->Prop} (hi:ops[i]?=some o) (hy:YieldsA P ops o av af) (h:K (af.put o.dst av) σ):stepA P ops i K af σ:=by
 unfold stepA
 simp only[hi]
 rcases hy with⟨h1,rfl⟩|⟨h1,h2⟩
 .exact .inl ⟨h1,h⟩
 .exact .inr ⟨h1,_,loud_of_quiet σ h2,λ a s ⟨e1,e2⟩=>by subst e1 e2;exact h⟩
theorem YieldsA.put {o oj:Oper} {af:AF} {av:AV} (x:AV) (h: ∀d,oj.dst=some d->d∉o.looksAt ops) (hy:YieldsA P ops o av af):YieldsA P ops o av (af.put oj.dst x):=
 hy.imp (λ⟨h1,h2⟩=>⟨(Sat.put_iff x h).2 h1,h2⟩) (λ⟨h1,h2⟩=>⟨(Sat.put_iff x h).2 h1,h2.put x h⟩)
theorem stepA_put {j:Nat} {oi oj:Oper} {av:AV} (hj:ops[j]?=some oj) (hap:oi.apart ops oj=true) {K:AF->Items->Prop} {af:AF} {σ:Items}
  (hy:YieldsA P ops oi av af) (h:stepA P ops j K (af.put oi.dst av) σ):stepA P ops j (λ af' σ'=>YieldsA P ops oi av af'/\K (af'.put oi.dst av) σ') af σ:=by
 obtain⟨h1,h2,h3⟩:=Oper.apart_spec hap
 unfold stepA at*
 simp only[hj]at*
 rcases h with⟨h4,h5⟩|⟨h4,post,h5,h6⟩
 .refine .inl ⟨(Sat.put_iff av h1).1 h4,hy.put _ h3, ?_⟩
  rw[←AF.put_comm af av undefA h2]
  exact h5
 .refine .inr ⟨(Sat.put_iff av h1).1 h4,post,h5.unput av h1,λ u σ' hp=>⟨hy.put _ h3, ?_⟩⟩
  rw[←AF.put_comm af av u h2]
  exact h6 u σ' hp
def anyA (P:Program) (ops:Array Oper) (K:AF->Items->Prop):Nat->Array Bool->AF->Items->Prop
 |0,listed,af,σ=>Region.ready .any ops listed=[]/\K af σ
 |fuel+1,listed,af,σ=>(Region.ready .any ops listed=[]->K af σ)/\ ∀i∈Region.ready .any ops listed,stepA P ops i (anyA P ops K fuel (listed.setIfInBounds i true)) af σ
theorem anyA_first {K:AF->Items->Prop} {i:Nat} {oi:Oper} {av:AV} (hi:ops[i]?=some oi):
  ∀(fuel:Nat) (listed:Array Bool) (af:AF) (σ:Items),
   (∀j oj,ops[j]?=some oj->j≠i->listed.getD j true=false->(∀e∈oj.after,Region.binds .any e=true->e.on≠i)->oi.apart ops oj=true)->
   i∈Region.ready .any ops listed->YieldsA P ops oi av af->
   anyA P ops K fuel (listed.setIfInBounds i true) (af.put oi.dst av) σ->anyA P ops K (fuel+1) listed af σ:=by
 intro fuel
 induction fuel with
 |zero=>
  intro listed af σ _ hr hy H
  refine⟨λ h=>(by rw[h]at hr;cases hr),λ j hj=> ?_⟩
  by_cases hji:j=i
  .subst hji;exact hy.step hi H
  .have:=ready_mono hj hji
   rw[H.1]at this
   cases this
 |succ fuel ih=>
  intro listed af σ hfree hr hy H
  refine⟨λ h=>(by rw[h]at hr;cases hr),λ j hj=> ?_⟩
  by_cases hji:j=i
  .subst hji;exact hy.step hi H
  .have h1:=H.2 j (ready_mono hj hji)
   obtain⟨hjun,oj,hoj,hall⟩:=mem_ready.1 hj
   have hnot: ∀e∈oj.after,Region.binds .any e=true->e.on≠i:=λ e he hb heq=>by
    have h1:=hall e he hb
    have h0:=(mem_ready.1 hr).1
    rw[heq]at h1
    rcases Nat.lt_or_ge i listed.size with h'|h'
    .simp[h']at h0 h1;rw[h0]at h1;cases h1
    .simp[Array.getElem?_eq_none h']at h1
   have h2:=stepA_put hoj (hfree j oj hoj hji hjun hnot) hy h1
   have hfree': ∀k ok,ops[k]?=some ok->k≠i->(listed.setIfInBounds j true).getD k true=false->
     (∀e∈ok.after,Region.binds .any e=true->e.on≠i)->oi.apart ops ok=true:=λ k ok hk hki hun hno=>by
    refine hfree k ok hk hki ?_ hno
    by_cases hjk:j=k
    .subst hjk;exact hjun
    .rw[getD_set_ne true hjk]at hun;exact hun
   refine stepA_mono (λ af' σ' h3=>ih (listed.setIfInBounds j true) af' σ' hfree' (ready_mono hr (Ne.symm hji)) h3.1 ?_) h2
   rw[Array.setIfInBounds_comm _ _ hji]
   exact h3.2
theorem Holds.out {af:AF} {σ:Items} {a:Act} {w w':World} {post:AV->Items->Prop} {v:Value} {dst:Option Tmp} (hh:Holds E n af σ a w) (hd: ∀d,dst=some d->d<n) (ho:Out E.F σ w post v w'):
  ∃av σ',post av σ'/\Holds E n (af.put dst av) σ' (a.put dst v) w':=by
 obtain⟨av,σ',hp,hg,hk,hn,hv⟩:=ho
 have hM: ∀k,k<w.heap.size->both E.F (Items.own σ') k->both E.F (Items.own σ) k:=λ k hlt hb=>hb.imp id (λ ho=>hn k ho hlt)
 refine⟨av,σ',hp, ?_, ?_, ?_, ?_,hg, ?_⟩
 .cases dst <;>simp[Act.put,hh.tmps]
 .cases dst <;>simp[Act.put,hh.defers]
 .exact hh.kept.step hk hh.old
 .exact λ k ho hlt=>hh.old k (hn k ho (Nat.lt_of_lt_of_le hlt hh.kept.size)) hlt
 .intro t
  cases dst with
  |none=>exact(af t).keep (hk.mono (λ _ _ h=> .inr h)) hM (hh.fits t)
  |some d=>
   have hdn:=hd d rfl
   by_cases htd:t=d
   .subst htd
    rw[AF.put_same]
    simp only[Act.put]
    have:(a.tmps.setIfInBounds t v).getD t undef=v:=by
     have:=hh.tmps
     simp[this,hdn]
    rw[this]
    exact hv
   .rw[AF.put_other _ _ htd]
    simp only[Act.put]
    have:(a.tmps.setIfInBounds d v).getD t undef=a.tmps.getD t undef:=by
     simp[Array.getElem?_setIfInBounds_ne (Ne.symm htd)]
    rw[this]
    exact(af t).keep (hk.mono (λ _ _ h=> .inr h)) hM (hh.fits t)
def dstB (ops:Array Oper) (n:Nat):Bool:=ops.all λ o=>match o.dst with|some d=>decide (d<n)|none=>true
theorem dstB_spec (h:dstB ops n=true) {i:Nat} {o:Oper} (ho:ops[i]?=some o): ∀d,o.dst=some d->d<n:=by
 intro d hd
 have:=Array.all_eq_true_iff_forall_mem.1 h o (Array.mem_of_getElem? ho)
 simpa[hd]using this
def PostA (E:Env) (n:Nat) (QA:Exit->AF->Items->Prop):Exit->Act->World->Prop:=λ e a w=> ∃af σ,Holds E n af σ a w/\QA e af σ
theorem wpOp_of_stepA (hd:dstB ops n=true) {i:Nat} {K:AF->Items->Prop} {af:AF} {σ:Items} {a:Act} {w:World} (h:stepA P ops i K af σ) (hh:Holds E n af σ a w):
  wpOp P ops Q i (λ a' w'=> ∃af' σ',Holds E n af' σ' a' w'/\K af' σ') a w:=by
 unfold wpOp
 unfold stepA at h
 split
 .rename_i h0;simp only[h0]at h;exact⟨af,σ,hh,h⟩
 .rename_i o h0
  simp only[h0]at h
  have hdst:=dstB_spec hd h0
  rcases h with⟨h1,h2⟩|⟨h1,post,h2,h3⟩
  .rw[if_neg (by rw[h1.wanted hh];exact Bool.false_ne_true)]
   obtain⟨av,σ',hp,hH⟩:=hh.out (post:=λ a s=>a=undefA/\s=σ) hdst (zhb (av:=undefA) hh.good (Keeps.refl noB w) rfl)
   obtain⟨rfl,rfl⟩:=hp
   exact⟨_,_,hH,h2⟩
  .rw[if_pos (h1.wanted hh)]
   refine .inl ?_
   have h4:=h2 E.F w a.eval hh.good (λ x _=>hh.ev x)
   have fin: ∀v w',Out E.F σ w post v w'-> ∃af' σ',Holds E n af' σ' (a.put o.dst v) w'/\K af' σ':=λ v w' ho=>by
    obtain⟨av,σ',hp,hH⟩:=hh.out hdst ho
    exact⟨_,_,hH,h3 av σ' hp⟩
   unfold Oper.wp
   generalize(execOp a.eval o).run P w=r at h4
   cases r with
   |ok m w'=>
    cases m <;>simp only[Upon]at h4 <;>simp only[Oper.upon] <;>try exact h4.elim
    case value v=>exact fin v w' h4
    case skip=>exact fin undef w' h4
    case enter f args=>exact h4.mono λ e w'' ⟨v,he,ho⟩=>by subst he;exact fin v w'' ho
    case row r args=>exact h4.mono λ v w'' ho=>fin v w'' ho
   |halt x w'=>exact h4.elim
theorem wpAny_of_anyA (hd:dstB ops n=true) {QA:Exit->AF->Items->Prop}: ∀(fuel:Nat) (listed:Array Bool) (af:AF) (σ:Items) (a:Act) (w:World),
  anyA P ops (QA .normal) fuel listed af σ->Holds E n af σ a w->wpAny P .any ops (PostA E n QA) fuel listed a w
 |0,_,af,σ,_,_,h,hh=>⟨h.1,af,σ,hh,h.2⟩
 |fuel+1,_,af,σ,_,_,h,hh=>⟨λ h0=>⟨af,σ,hh,h.1 h0⟩,λ i hi=>wpOp_mono (λ a' w' ⟨af',σ',hh',h'⟩=>wpAny_of_anyA hd fuel _ af' σ' a' w' h' hh') (wpOp_of_stepA hd (h.2 i hi) hh)⟩
theorem Holds.drew {af:AF} {σ:Items} {a:Act} {w:World} (hh:Holds E n af σ a w):Holds E n af σ a { w with drawn:=w.drawn+1 }:=
 ⟨hh.tmps,hh.defers,hh.kept.trans (Keeps.drew _ _),hh.old,hh.good.keep (Keeps.drew _ _),λ t=>(af t).keep (Keeps.drew _ _) (λ _ _ h=>h) (hh.fits t)⟩
def awp (P:Program) (E:Env) (n:Nat) (c:Code) (QA:Exit->AF->Items->Prop) (af:AF) (σ:Items):Prop:=
 ∀a w,Holds E n af σ a w->c.wp P (PostA E n QA) a w
variable {QA:Exit->AF->Items->Prop} {af:AF} {σ:Items}
def thenA (K:AF->Items->Prop) (QA:Exit->AF->Items->Prop):Exit->AF->Items->Prop
 | .normal,af,σ=>K af σ
 |e,af,σ=>QA e af σ
theorem awp_mono {c:Code} {QA':Exit->AF->Items->Prop} (h:awp P E n c QA af σ) (hq: ∀e af σ,QA e af σ->QA' e af σ):awp P E n c QA' af σ:=
 λ a w hh=>wp_mono (h a w hh) (λ _ _ _ ⟨af',σ',hh',h'⟩=>⟨af',σ',hh',hq _ _ _ h'⟩)
theorem awp_skip (h:QA .normal af σ):awp P E n .skip QA af σ:=λ _ _ hh=>wp_skip ⟨af,σ,hh,h⟩
theorem awp_exit {id:Nat} (h:QA (.exit id) af σ):awp P E n (.exit id) QA af σ:=λ _ _ hh=>wp_exit ⟨af,σ,hh,h⟩
theorem awp_ret (h:QA .ret af σ):awp P E n .ret QA af σ:=λ _ _ hh=>wp_ret ⟨af,σ,hh,h⟩
theorem awp_seq {x y:Code} (h:awp P E n x (thenA (awp P E n y QA) QA) af σ):awp P E n (.seq x y) QA af σ:=by
 intro a w hh
 refine wp_seq (wp_mono (h a w hh) ?_)
 rintro e a' w' ⟨af',σ',hh',h'⟩
 cases e with
 |normal=>exact h' a' w' hh'
 |_=>exact⟨af',σ',hh',h'⟩
theorem awp_cond {c:Operand} {x y:Code} (t:Bool) (hc:af.ev c= .exact (.bool t)) (ht:t=true->awp P E n x QA af σ) (hf:t=false->awp P E n y QA af σ):awp P E n (.cond c x y) QA af σ:=by
 intro a w hh
 have h1:=hh.ev c
 rw[hc]at h1
 exact wp_cond_split h1 (λ e=>ht e a w hh) (λ e=>hf e a w hh)
def blockA (id:Nat) (QA:Exit->AF->Items->Prop):Exit->AF->Items->Prop
 | .exit id',af,σ=>if id'=id then QA .normal af σ else QA (.exit id') af σ
 |e,af,σ=>QA e af σ
theorem awp_block {id:Nat} {c:Code} (h:awp P E n c (blockA id QA) af σ):awp P E n (.block id c) QA af σ:=by
 intro a w hh
 refine wp_block (wp_mono (h a w hh) ?_)
 rintro e a' w' ⟨af',σ',hh',h'⟩
 cases e with
 |exit id'=>
  simp only[blockA]at h'
  simp only[Exit.inBlock]
  split
  .rename_i e;rw[if_pos e]at h';exact⟨af',σ',hh',h'⟩
  .rename_i e;rw[if_neg e]at h';exact⟨af',σ',hh',h'⟩
 |_=>exact⟨af',σ',hh',h'⟩
abbrev KFr:=Sum Code (Sum Nat (Sum (AF->Items->Prop) (Exit->AF->Items->Prop)))
abbrev kC (c:Code):KFr:= .inl c
abbrev kB (id:Nat):KFr:= .inr (.inl id)
abbrev kI (I:AF->Items->Prop):KFr:= .inr (.inr (.inl I))
abbrev kP (Q:Exit->AF->Items->Prop):KFr:= .inr (.inr (.inr Q))
def den (P:Program) (E:Env) (n:Nat):List KFr->Exit->AF->Items->Prop
 |[]=>λ _ _ _=>False
 | .inl c::ks=>thenA (awp P E n c (den P E n ks)) (den P E n ks)
 | .inr (.inl id)::ks=>blockA id (den P E n ks)
 | .inr (.inr (.inl I))::ks=>thenA I (den P E n ks)
 | .inr (.inr (.inr Q))::_=>Q
variable {ks:List KFr}
theorem zan {x y:Code} (h:awp P E n x (den P E n (kC y::ks)) af σ):awp P E n (.seq x y) (den P E n ks) af σ:=awp_seq h
theorem zaq {id:Nat} {c:Code} (h:awp P E n c (den P E n (kB id::ks)) af σ):awp P E n (.block id c) (den P E n ks) af σ:=awp_block h
theorem zaf {c:Code} (h:awp P E n c (den P E n ks) af σ):den P E n (kC c::ks) .normal af σ:=h
theorem zbi {c:Code} {id:Nat} (h:den P E n ks (.exit id) af σ):den P E n (kC c::ks) (.exit id) af σ:=h
theorem zdb {c:Code} (h:den P E n ks .ret af σ):den P E n (kC c::ks) .ret af σ:=h
theorem zaa {I:AF->Items->Prop} (h:I af σ):den P E n (kI I::ks) .normal af σ:=h
theorem zbk {I:AF->Items->Prop} {id:Nat} (h:den P E n ks (.exit id) af σ):den P E n (kI I::ks) (.exit id) af σ:=h
theorem zek {I:AF->Items->Prop} (h:den P E n ks .ret af σ):den P E n (kI I::ks) .ret af σ:=h
theorem zau {id:Nat} (h:den P E n ks .normal af σ):den P E n (kB id::ks) .normal af σ:=h
theorem zde {id:Nat} (h:den P E n ks .ret af σ):den P E n (kB id::ks) .ret af σ:=h
theorem zbj {id:Nat} (h:den P E n ks .normal af σ):den P E n (kB id::ks) (.exit id) af σ:=by show blockA _ _ _ _ _;simp only[blockA,if_pos];exact h
theorem kP_any {Q:Exit->AF->Items->Prop} {e:Exit} (h:Q e af σ):den P E n (kP Q::ks) e af σ:=h
theorem zbn (h:den P E n ks .ret af σ):awp P E n .ret (den P E n ks) af σ:=awp_ret h
theorem zap (h:den P E n ks .normal af σ):awp P E n .skip (den P E n ks) af σ:=awp_skip h
theorem zbr {id:Nat} (h:den P E n ks (.exit id) af σ):awp P E n (.exit id) (den P E n ks) af σ:=awp_exit h
theorem k_cond_t {c:Operand} {x y:Code} (hc:af.ev c= .exact (.bool true)) (ht:awp P E n x (den P E n ks) af σ):awp P E n (.cond c x y) (den P E n ks) af σ:=awp_cond true hc (λ _=>ht) (λ h=>by cases h)
theorem k_cond_f {c:Operand} {x y:Code} (hc:af.ev c= .exact (.bool false)) (hf:awp P E n y (den P E n ks) af σ):awp P E n (.cond c x y) (den P E n ks) af σ:=awp_cond false hc (λ h=>by cases h) (λ _=>hf)
theorem k_cond_d {c:Operand} {x y:Code} {p:Prop} [Decidable p] (hc:af.ev c= .exact (.bool (decide p))) (ht:p->awp P E n x (den P E n ks) af σ) (hf: ¬p->awp P E n y (den P E n ks) af σ):awp P E n (.cond c x y) (den P E n ks) af σ:=
 awp_cond _ hc (λ h=>ht (of_decide_eq_true h)) (λ h=>hf (of_decide_eq_false h))
def AV.le (x y:AV):Prop:= ∀M w v,x.p M w v->y.p M w v
theorem AV.le_refl (x:AV):AV.le x x:=λ _ _ _ h=>h
theorem AV.le_top (x:AV):AV.le x .top:=λ _ _ _ _=>trivial
theorem AV.le_eq {x y:AV} (h:x=y):AV.le x y:=h ▸ AV.le_refl x
def AF.le (x y:AF):Prop:= ∀t,AV.le (x t) (y t)
theorem AF.le_top (x:AF):AF.le x (λ _=> .top):=λ _ _ _ _ _=>trivial
theorem AF.le_put {x y:AF} {d:Nat} {av:AV} (h1:AV.le (x d) av) (h2:AF.le x y):AF.le x (y.put (some d) av):=λ t=>by
 by_cases h:t=d
 .subst h;rw[AF.put_same];exact h1
 .rw[AF.put_other _ _ h];exact h2 t
theorem AF.le_refl (x:AF):AF.le x x:=λ _=>AV.le_refl _
def Sub (E:Env) (n:Nat) (af:AF) (σ:Items) (af':AF) (σ':Items):Prop:= ∀a w,Holds E n af σ a w->Holds E n af' σ' a w
theorem Sub.of_le {af':AF} (h:AF.le af af'):Sub E n af σ af' σ:=λ _ _ hh=>⟨hh.tmps,hh.defers,hh.kept,hh.old,hh.good,λ t=>h t _ _ _ (hh.fits t)⟩
theorem awp_sub {c:Code} {af':AF} {σ':Items} (h:Sub E n af σ af' σ') (h':awp P E n c QA af' σ'):awp P E n c QA af σ:=λ a w hh=>h' a w (h a w hh)
theorem awp_loop {c:Code} {α:Type} (I:α->AF) (S:α->Items) (pre:α->Prop) (μ:α->Nat) (x0:α) (hp:pre x0) (h0:Sub E n af σ (I x0) (S x0))
  (round: ∀x,pre x->awp P E n c (thenA (λ af' σ'=> ∃x',pre x'/\μ x'<μ x/\Sub E n af' σ' (I x') (S x')) QA) (I x) (S x)):awp P E n (.loop c) QA af σ:=by
 intro a w hh b k cs
 have key: ∀m x,μ x=m->pre x-> ∀a w,Holds E n (I x) (S x) a w->
   ∃e a' w',PostA E n QA e a' w'/\Arrives P (lone (b.at a (.code c:: .inLoop c::k)) cs w) b k cs e a' w':=by
  intro m
  induction m using Nat.strongRecOn with
  |_ m ih=>
   intro x hm hpx a w hh
   obtain⟨e,a₁,w₁,⟨af',σ',hh',hq⟩,harr⟩:=round x hpx a w hh b (.inLoop c::k) cs
   cases e with
   |normal=>
    obtain⟨x',hp',hlt,hs⟩:=hq
    obtain⟨e₂,a₂,w₂,hq₂,harr₂⟩:=ih (μ x') (hm ▸ hlt) x' rfl hp' a₁ w₁ (hs _ _ hh')
    exact⟨e₂,a₂,w₂,hq₂, .of_steps (Steps.trans harr (.one step_inLoop)) harr₂⟩
   |exit id=>exact⟨_,a₁,w₁,⟨af',σ',hh',hq⟩, .pass (x:= .inLoop c) rfl (λ _ _=> .inl (by simp)) harr⟩
   |goto l=>exact⟨_,a₁,w₁,⟨af',σ',hh',hq⟩, .pass (x:= .inLoop c) rfl (λ _ _=> .inl (by simp)) harr⟩
   |ret=>exact⟨_,a₁,w₁,⟨af',σ',hh',hq⟩, .pass (x:= .inLoop c) rfl (λ _ _=> .inl (by simp)) harr⟩
   |panic ch=>exact⟨_,a₁,w₁,⟨af',σ',hh',hq⟩, .pass (x:= .inLoop c) rfl (λ _ _=> .inl (by simp)) harr⟩
   |outgrown=>exact⟨_,a₁,w₁,⟨af',σ',hh',hq⟩, .pass (x:= .inLoop c) rfl (λ _ _=> .inl (by simp)) harr⟩
 obtain⟨e,a',w',hq,harr⟩:=key _ x0 rfl hp a w (h0 a w hh)
 exact⟨e,a',w',hq, .of_steps (.one step_loop) harr⟩
theorem k_loop {c:Code} {α:Type} (I:α->AF) (S:α->Items) (pre:α->Prop) (μ:α->Nat) (x0:α) (hp:pre x0) (h0:Sub E n af σ (I x0) (S x0))
  (round: ∀x,pre x->awp P E n c (den P E n (kI (λ af' σ'=> ∃x',pre x'/\μ x'<μ x/\Sub E n af' σ' (I x') (S x'))::ks)) (I x) (S x)):awp P E n (.loop c) (den P E n ks) af σ:=
 awp_loop I S pre μ x0 hp h0 round
theorem zca {c:Code} {Q:Exit->AF->Items->Prop} (h:awp P E n c (den P E n [kP Q]) af σ):awp P E n c Q af σ:=h
def Fit (M:BSet) (w:World):List AV->List Value->Prop
 |[],[]=>True
 |x::xs,v::vs=>x.p M w v/\Fit M w xs vs
 |_,_=>False
theorem Fit.length {M:BSet} {w:World}: ∀{xs:List AV} {vs:List Value},Fit M w xs vs->xs.length=vs.length
 |[],[],_=>rfl
 |_::_,_::_,h=>by simp[Fit.length h.2]
theorem Fit.get {M:BSet} {w:World}: ∀{xs:List AV} {vs:List Value},Fit M w xs vs-> ∀t,(xs.getD t .top).p M w (vs.getD t undef)
 |[],[],_,_=>trivial
 |_::_,_::_,h,0=>h.1
 |_::_,_::_,h,t+1=>by simpa using Fit.get h.2 t
theorem Fit.keep {M M':BSet} {w w':World} (hk:Keeps M w w') (hm: ∀k,k<w.heap.size->M' k->M k): ∀{xs:List AV} {vs:List Value},Fit M w xs vs->Fit M' w' xs vs
 |[],[],_=>trivial
 |x::_,_::_,h=>⟨x.keep hk hm h.1,Fit.keep hk hm h.2⟩
def AV.tup (l:List AV):AV:=⟨λ M w v=> ∃vs:List Value,v= .tuple vs.toArray/\Fit M w l vs,λ hk hm ⟨vs,h1,h2⟩=>⟨vs,h1,h2.keep hk hm⟩⟩
def Fun (P:Program) (f:FuncId) (args:List AV) (σ:Items) (post:AV->Items->Prop):Prop:=
 ∀F w vs,Good F σ w->Fit (both F (Items.own σ)) w args vs->Calls P f vs.toArray w λ e w'=> ∃v,e= .returned v/\Out F σ w post v w'
def Pure (P:Program) (f:FuncId) (args:List AV) (r:AV):Prop:=
 ∀M w vs,(∀k,M k->k<w.heap.size)->Fit M w args vs->Calls P f vs.toArray w λ e w'=> ∃v,e= .returned v/\Keeps noB w w'/\r.p M w' v
def resA (rs:List ResultVar) (af:AF):AV:=
 match rs with
 |[.tmp t]=>af t
 |rs=> .tup (rs.map λ| .tmp t=>af t| .cell _ _=> .top)
def plainRes (rs:List ResultVar):Bool:=rs.all λ| .tmp _=>true|_=>false
theorem fit_res {M:BSet} {w:World} {af:AF} {a:Act} (h: ∀t,(af t).p M w (a.tmps.getD t undef)): ∀rs:List ResultVar,plainRes rs=true->Fit M w (rs.map λ| .tmp t=>af t| .cell _ _=> .top) (rs.map λ| .tmp t=>a.tmps.getD t undef| .cell _ _=>undef)
 |[],_=>trivial
 | .tmp t::rs,hp=>⟨h t,fit_res h rs (by simpa[plainRes]using hp)⟩
def resV (rs:List ResultVar) (tmps:Array Value):Value:=
 match rs with
 |[.tmp t]=>tmps.getD t undef
 |rs=> .tuple (rs.map λ| .tmp t=>tmps.getD t undef| .cell _ _=>undef).toArray
theorem res1 {fn:Func} {r1:Tmp} (h:fn.results= #[.tmp r1]) (tmps:Array Value) (w:World):(results fn tmps).run P w= .ok (resV fn.results.toList tmps) w:=by
 simp[results,h,go_sem,resV]
theorem res2 {fn:Func} {r1 r2:Tmp} (h:fn.results= #[.tmp r1, .tmp r2]) (tmps:Array Value) (w:World):(results fn tmps).run P w= .ok (resV fn.results.toList tmps) w:=by
 simp[results,h,go_sem,resV]
theorem res3 {fn:Func} {r1 r2 r3:Tmp} (h:fn.results= #[.tmp r1, .tmp r2, .tmp r3]) (tmps:Array Value) (w:World):(results fn tmps).run P w= .ok (resV fn.results.toList tmps) w:=by
 simp[results,h,go_sem,resV]
theorem res0 {fn:Func} (h:fn.results= #[]) (tmps:Array Value) (w:World):(results fn tmps).run P w= .ok (resV fn.results.toList tmps) w:=by
 simp[results,h,go_sem,resV]
def EndA (fn:Func) (E:Env) (n:Nat) (post:AV->Items->Prop):Exit->AF->Items->Prop
 | .normal,af,σ| .ret,af,σ=> ∃af' σ',Sub E n af σ af' σ'/\post (resA fn.results.toList af') σ'
 |_,_,_=>False
def ofArgs (args:List AV):AF:=λ t=>args.getD t .top
theorem zam {f:FuncId} {fn:Func} {c:Code} {args:List AV} {post:AV->Items->Prop} (hf:P.funcs[f]?=some fn) (hb:fn.body=some c) (hnt:fn.ntmps=n) (hle:args.length≤n) (hr:plainRes fn.results.toList=true)
  (hres: ∀tmps w,(results fn tmps).run P w= .ok (resV fn.results.toList tmps) w)
  (h: ∀E,(∀k,E.M0 k↔Items.own σ k)->awp P E n c (EndA fn E n post) (ofArgs args) σ):Fun P f args σ post:=by
 intro F w vs hg hfit
 have hlen:=hfit.length
 refine calls_of_wp hf hb ?_
 have hh:Holds ⟨w,Items.own σ,F⟩ n (ofArgs args) σ { tmps:=vs.toArray++Array.replicate (fn.ntmps - vs.toArray.size) undef,defers:=[] } w:=by
  refine⟨by simp[←hlen,hnt];omega,rfl,Keeps.refl _ _,λ _ h _=>h,hg,λ t=> ?_⟩
  have h1:=hfit.get t
  rcases Nat.lt_or_ge t vs.length with hlt|hge
  .have:(vs.toArray++Array.replicate (fn.ntmps - vs.toArray.size) undef).getD t undef=vs.getD t undef:=by
    simp[Array.getElem?_append,hlt]
   simp only[this]
   exact h1
  .have:args.getD t .top= .top:=by simp[List.getElem?_eq_none (by omega:args.length≤t)]
   show(args.getD t AV.top).p _ _ _
   rw[this]
   trivial
 refine wp_mono (h ⟨w,Items.own σ,F⟩ (λ _=>Iff.rfl) _ _ hh) ?_
 have fin: ∀a' w' af' σ',Holds ⟨w,Items.own σ,F⟩ n af' σ' a' w'->post (resA fn.results.toList af') σ'->
   a'.defers=[]/\ ∃v,(results fn a'.tmps).run P w'= .ok v w'/\ ∃v_1,Ending.returned v= .returned v_1/\Out F σ w post v_1 w':=by
  intro a' w' af' σ' hh' hp
  refine⟨hh'.defers,_,hres _ _,_,rfl,_,σ',hp,hh'.good,hh'.kept,hh'.old, ?_⟩
  have h2:=fit_res hh'.fits _ hr
  generalize fn.results.toList=rs at h2
  match rs,h2 with
  |[.tmp t],h2=>exact h2.1
  |[],h2=>exact⟨_,rfl,h2⟩
  |[.cell _ _],h2=>exact⟨_,rfl,h2⟩
  | .tmp _::_::_,h2=>exact⟨_,rfl,h2⟩
  | .cell _ _::_::_,h2=>exact⟨_,rfl,h2⟩
 rintro e a' w' ⟨af',σ',hh',hq⟩
 cases e with
 |normal=>obtain⟨af2,σ2,hs,hp⟩:=hq;exact fin a' w' af2 σ2 (hs _ _ hh') hp
 |ret=>obtain⟨af2,σ2,hs,hp⟩:=hq;exact fin a' w' af2 σ2 (hs _ _ hh') hp
 |_=>exact hq.elim
theorem Pure.ofFun {f:FuncId} {args:List AV} {r:AV} (h:Fun P f args [] (λ a s=>a=r/\s=[])):Pure P f args r:=by
 intro M w vs hM hfit
 have hown: ∀k, ¬Items.own [] k:=λ k hk=>by simp[Items.own]at hk
 refine(h M w vs ⟨hM,λ k hk=>(hown k hk).elim,List.nodup_nil,λ it hi=>by cases hi⟩ (hfit.keep (Keeps.refl _ _) (λ k _ hk=>hk.elim id (λ h=>(hown k h).elim)))).mono ?_
 rintro e w' ⟨v,he,av,σ',⟨rfl,rfl⟩,hg,hk,_,hp⟩
 exact⟨v,he,hk.mono (λ k _ ho=>(hown k ho).elim),av.keep (Keeps.refl _ _) (λ k _ hm=> .inl hm) hp⟩
end
end
noncomputable section
open Go.RowKit
section
variable {P:Program} {ops:Array Oper} {af:AF} {σ:Items}
def opA (P:Program) (o:Oper) (af:AF) (K:AF->Prop):Prop:= ∃av,Quiet P o af av/\K (af.put o.dst av)
variable {KK:AF->Items->Prop} {rest:List Oper} {dst:Option Tmp} {op:Op} {ty0:TypeId} {pos0:String} {after0:Array Edge}
variable {j:Nat} {want:Bool} {dg:Tmp} {c:Bool} {p:Prop} [Decidable p]
theorem opnd {M:BSet} {w:World} {ev:Operand->Value} {o:Oper} {x:Operand} {v:Value} (hx: ∀x∈o.op.operands,(af.ev x).p M w (ev x)) (hm:x∈o.op.operands) (h:af.ev x= .exact v):ev x=v:=by
 have:=hx x hm
 rw[h]at this
 exact this
variable {d:Option Tmp} {ty:TypeId} {pos:String} {after:Array Edge} {g:Option (Nat×Bool)} {K:AF->Prop}
theorem zah {x:Operand} {av:AV} (h:af.ev x=av) (hk:K (af.put d av)):opA P ⟨d, .move x,ty,pos,after,g⟩ af K:=
 ⟨av,λ M w ev _ hx=>⟨Keeps.refl _ _,by have:=hx x (by simp[Op.operands]);rwa [h]at this⟩,hk⟩
theorem zcj {x:Operand} {av:AV} (h:af.ev x=av) (hk:K (af.put d av)):opA P ⟨d, .assign x,ty,pos,after,g⟩ af K:=
 ⟨av,λ M w ev _ hx=>⟨Keeps.refl _ _,by have:=hx x (by simp[Op.operands]);rwa [h]at this⟩,hk⟩
theorem zdq {t:TypeId} {D:TypeDesc} {w:World} (h:P.underlying t=some D):(underlying t).run P w= .ok D w:=by
 show(Sem.program _).run P w=_
 simp only[Sem.run,Sem.bind,h]
 rfl
theorem run_prog {w:World}:(program).run P w= .ok P w:=rfl
theorem run_size {t:TypeId} {n:Nat} {w:World} (h:(P.info? t).map (·.size)=some n):(sizeOf t).run P w= .ok n w:=by
 cases hI:P.info? t with
 |none=>simp[hI]at h
 |some I=>
  have hn:I.size=n:=by simpa[hI]using h
  show(Sem.program _).run P w=_
  simp only[Sem.run,Sem.bind,hI, ←hn]
  rfl
def sizeB (P:Program) (t:TypeId) (n:Nat):Bool:=match P.info? t with|some i=>i.size ==n|none=>false
theorem sizeB_spec {t:TypeId} {n:Nat} (h:sizeB P t n=true):(P.info? t).map (·.size)=some n:=by
 unfold sizeB at h
 cases hi:P.info? t with
 |none=>simp[hi]at h
 |some i=>simpa[hi]using h
def sliceB (P:Program) (t:TypeId) (n:Nat):Bool:=match P.underlying t with|some (.slice e)=>sizeB P e n|_=>false
theorem sliceB_spec {t:TypeId} {n:Nat} (h:sliceB P t n=true): ∃e,P.underlying t=some (.slice e)/\(P.info? e).map (·.size)=some n:=by
 unfold sliceB at h
 split at h
 .rename_i e he;exact⟨e,he,sizeB_spec h⟩
 .cases h
def isSliceB (P:Program) (t:TypeId):Bool:=match P.underlying t with|some (.slice _)=>true|_=>false
theorem isSliceB_spec {t:TypeId} (h:isSliceB P t=true): ∃e,P.underlying t=some (.slice e):=by
 unfold isSliceB at h
 split at h
 .rename_i e he;exact⟨e,he⟩
 .cases h
def isStrB (P:Program) (t:TypeId):Bool:=match P.underlying t with|some .string=>true|_=>false
theorem isStrB_spec {t:TypeId} (h:isStrB P t=true):P.underlying t=some .string:=by
 unfold isStrB at h
 split at h
 .assumption
 .cases h
def convB (P:Program) (t t':TypeId) (k:IntKind):Bool:=(P.underlying t).isSome && (match P.underlying t' with|some (.int k')=>decide (k'=k)|_=>false)
theorem convB_spec {t t':TypeId} {k:IntKind} (h:convB P t t' k=true):(∃D,P.underlying t=some D)/\P.underlying t'=some (.int k):=by
 simp only[convB,Bool.and_eq_true]at h
 refine⟨Option.isSome_iff_exists.1 h.1, ?_⟩
 have h2:=h.2
 split at h2
 .rename_i k' he;rw[he,of_decide_eq_true h2]
 .cases h2
def aggB:TypeDesc->Bool| .struct _| .array _ _=>true|_=>false
theorem run_agg {t:TypeId} {D:TypeDesc} {w:World} (h:P.underlying t=some D):(isAgg t).run P w= .ok (aggB D) w:=by
 show(Sem.program _).run P w=_
 simp only[Sem.run,Sem.bind,h]
 cases D <;>rfl
section
variable {t t':TypeId} {x y z:Operand} {k k':IntKind} {a b r:Int} {q:Prop} [Decidable q] {u v:Value} {s1 s2:ByteArray} {c1 c2:Bool}
theorem zbo (hx:af.ev x= .exact (.int k a)) (hy:af.ev y= .exact (.int k b)) (hr:k.wrap (a+b)=r) (hk:K (af.put d (.exact (.int k r)))):opA P ⟨d, .binOp .add t x y t',ty,pos,after,g⟩ af K:=by
 refine⟨_,λ M w ev _ h=> ?_,hk⟩
 have e1:=opnd h (x:=x) (by simp[Op.operands]) hx
 have e2:=opnd h (x:=y) (by simp[Op.operands]) hy
 simp[execOp,eqGuard,e1,e2,binOp,Op.intArith,hr,go_sem,UponQ]
 exact⟨Keeps.refl _ _,rfl⟩
theorem op_sub (hx:af.ev x= .exact (.int k a)) (hy:af.ev y= .exact (.int k b)) (hr:k.wrap (a - b)=r) (hk:K (af.put d (.exact (.int k r)))):opA P ⟨d, .binOp .sub t x y t',ty,pos,after,g⟩ af K:=by
 refine⟨_,λ M w ev _ h=> ?_,hk⟩
 have e1:=opnd h (x:=x) (by simp[Op.operands]) hx
 have e2:=opnd h (x:=y) (by simp[Op.operands]) hy
 simp[execOp,eqGuard,e1,e2,binOp,Op.intArith,hr,go_sem,UponQ]
 exact⟨Keeps.refl _ _,rfl⟩
theorem op_mul (hx:af.ev x= .exact (.int k a)) (hy:af.ev y= .exact (.int k b)) (hr:k.wrap (a*b)=r) (hk:K (af.put d (.exact (.int k r)))):opA P ⟨d, .binOp .mul t x y t',ty,pos,after,g⟩ af K:=by
 refine⟨_,λ M w ev _ h=> ?_,hk⟩
 have e1:=opnd h (x:=x) (by simp[Op.operands]) hx
 have e2:=opnd h (x:=y) (by simp[Op.operands]) hy
 simp[execOp,eqGuard,e1,e2,binOp,Op.intArith,hr,go_sem,UponQ]
 exact⟨Keeps.refl _ _,rfl⟩
theorem op_or (hx:af.ev x= .exact (.int k a)) (hy:af.ev y= .exact (.int k b)) (hr:k.wrap ((BitVec.ofInt k.bits a |||BitVec.ofInt k.bits b).toNat:Int)=r) (hk:K (af.put d (.exact (.int k r)))):opA P ⟨d, .binOp .or t x y t',ty,pos,after,g⟩ af K:=by
 refine⟨_,λ M w ev _ h=> ?_,hk⟩
 have e1:=opnd h (x:=x) (by simp[Op.operands]) hx
 have e2:=opnd h (x:=y) (by simp[Op.operands]) hy
 simp[execOp,eqGuard,e1,e2,binOp,Op.intBits,go_sem,UponQ]
 exact⟨Keeps.refl _ _,by rw[←hr];rfl⟩
theorem op_rem (hx:af.ev x= .exact (.int k a)) (hy:af.ev y= .exact (.int k b)) (h0:b≠0) (hr:a.tmod b=r) (hk:K (af.put d (.exact (.int k r)))):opA P ⟨d, .binOp .rem t x y t',ty,pos,after,g⟩ af K:=by
 refine⟨_,λ M w ev _ h=> ?_,hk⟩
 have e1:=opnd h (x:=x) (by simp[Op.operands]) hx
 have e2:=opnd h (x:=y) (by simp[Op.operands]) hy
 simp[execOp,eqGuard,e1,e2,binOp,Op.intDiv,h0,hr,go_sem,UponQ]
 exact⟨Keeps.refl _ _,rfl⟩
theorem op_shl (hx:af.ev x= .exact (.int k a)) (hy:af.ev y= .exact (.int k' b)) (h0: ¬b<0) (hr:k.wrap (a*2^min b.toNat k.bits)=r) (hk:K (af.put d (.exact (.int k r)))):opA P ⟨d, .binOp .shl t x y t',ty,pos,after,g⟩ af K:=by
 refine⟨_,λ M w ev _ h=> ?_,hk⟩
 have e1:=opnd h (x:=x) (by simp[Op.operands]) hx
 have e2:=opnd h (x:=y) (by simp[Op.operands]) hy
 simp[execOp,eqGuard,e1,e2,binOp,Op.shift,h0,go_sem,UponQ]
 exact⟨Keeps.refl _ _,by rw[←hr];rfl⟩
theorem op_shr (hx:af.ev x= .exact (.int k a)) (hy:af.ev y= .exact (.int k' b)) (h0: ¬b<0) (hr:a.fdiv (2^min b.toNat k.bits)=r) (hk:K (af.put d (.exact (.int k r)))):opA P ⟨d, .binOp .shr t x y t',ty,pos,after,g⟩ af K:=by
 refine⟨_,λ M w ev _ h=> ?_,hk⟩
 have e1:=opnd h (x:=x) (by simp[Op.operands]) hx
 have e2:=opnd h (x:=y) (by simp[Op.operands]) hy
 simp[execOp,eqGuard,e1,e2,binOp,Op.shift,h0,go_sem,UponQ]
 exact⟨Keeps.refl _ _,by rw[←hr];rfl⟩
theorem zbm (hx:af.ev x= .exact (.int k a)) (hy:af.ev y= .exact (.int k b)) (hk:K (af.put d (.exact (.bool (decide (a<b)))))):opA P ⟨d, .binOp .lss t x y t',ty,pos,after,g⟩ af K:=by
 refine⟨_,λ M w ev _ h=> ?_,hk⟩
 have e1:=opnd h (x:=x) (by simp[Op.operands]) hx
 have e2:=opnd h (x:=y) (by simp[Op.operands]) hy
 simp[execOp,eqGuard,e1,e2,binOp,Op.intCmp,go_sem,UponQ]
 exact⟨Keeps.refl _ _,by simp[AV.exact] <;>first|done|exact Int.beq_eq_decide_eq _ _|(by_cases h:a=b <;>simp[h])⟩
theorem op_leq (hx:af.ev x= .exact (.int k a)) (hy:af.ev y= .exact (.int k b)) (hk:K (af.put d (.exact (.bool (decide (a≤b)))))):opA P ⟨d, .binOp .leq t x y t',ty,pos,after,g⟩ af K:=by
 refine⟨_,λ M w ev _ h=> ?_,hk⟩
 have e1:=opnd h (x:=x) (by simp[Op.operands]) hx
 have e2:=opnd h (x:=y) (by simp[Op.operands]) hy
 simp[execOp,eqGuard,e1,e2,binOp,Op.intCmp,go_sem,UponQ]
 exact⟨Keeps.refl _ _,by simp[AV.exact] <;>first|done|exact Int.beq_eq_decide_eq _ _|(by_cases h:a=b <;>simp[h])⟩
theorem zfx (hx:af.ev x= .exact (.int k a)) (hy:af.ev y= .exact (.int k b)) (hk:K (af.put d (.exact (.bool (decide (b<a)))))):opA P ⟨d, .binOp .gtr t x y t',ty,pos,after,g⟩ af K:=by
 refine⟨_,λ M w ev _ h=> ?_,hk⟩
 have e1:=opnd h (x:=x) (by simp[Op.operands]) hx
 have e2:=opnd h (x:=y) (by simp[Op.operands]) hy
 simp[execOp,eqGuard,e1,e2,binOp,Op.intCmp,go_sem,UponQ]
 exact⟨Keeps.refl _ _,by simp[AV.exact] <;>first|done|exact Int.beq_eq_decide_eq _ _|(by_cases h:a=b <;>simp[h])⟩
theorem zgm (hx:af.ev x= .exact (.int k a)) (hy:af.ev y= .exact (.int k b)) (hk:K (af.put d (.exact (.bool (decide (b≤a)))))):opA P ⟨d, .binOp .geq t x y t',ty,pos,after,g⟩ af K:=by
 refine⟨_,λ M w ev _ h=> ?_,hk⟩
 have e1:=opnd h (x:=x) (by simp[Op.operands]) hx
 have e2:=opnd h (x:=y) (by simp[Op.operands]) hy
 simp[execOp,eqGuard,e1,e2,binOp,Op.intCmp,go_sem,UponQ]
 exact⟨Keeps.refl _ _,by simp[AV.exact] <;>first|done|exact Int.beq_eq_decide_eq _ _|(by_cases h:a=b <;>simp[h])⟩
theorem zbf (hx:af.ev x= .exact (.int k a)) (hy:af.ev y= .exact (.int k b)) (hk:K (af.put d (.exact (.bool (decide (a=b)))))):opA P ⟨d, .binOp .eql t x y t',ty,pos,after,g⟩ af K:=by
 refine⟨_,λ M w ev _ h=> ?_,hk⟩
 have e1:=opnd h (x:=x) (by simp[Op.operands]) hx
 have e2:=opnd h (x:=y) (by simp[Op.operands]) hy
 simp[execOp,eqGuard,e1,e2,binOp,Op.intCmp,go_sem,UponQ]
 exact⟨Keeps.refl _ _,by simp[AV.exact] <;>first|done|exact Int.beq_eq_decide_eq _ _|(by_cases h:a=b <;>simp[h])⟩
theorem zfr (hx:af.ev x= .exact (.int k a)) (hy:af.ev y= .exact (.int k b)) (hk:K (af.put d (.exact (.bool (decide (¬a=b)))))):opA P ⟨d, .binOp .neq t x y t',ty,pos,after,g⟩ af K:=by
 refine⟨_,λ M w ev _ h=> ?_,hk⟩
 have e1:=opnd h (x:=x) (by simp[Op.operands]) hx
 have e2:=opnd h (x:=y) (by simp[Op.operands]) hy
 simp[execOp,eqGuard,e1,e2,binOp,Op.intCmp,go_sem,UponQ]
 exact⟨Keeps.refl _ _,by simp[AV.exact] <;>first|done|exact Int.beq_eq_decide_eq _ _|(by_cases h:a=b <;>simp[h])⟩
theorem zdh (hx:af.ev x= .exact (.bool c1)) (hk:K (af.put d (.exact (.bool (!c1))))):opA P ⟨d, .unOp .not t x,ty,pos,after,g⟩ af K:=by
 refine⟨_,λ M w ev _ h=> ?_,hk⟩
 have e1:=opnd h (x:=x) (by simp[Op.operands]) hx
 simp[execOp,e1,Op.unary,go_sem,UponQ]
 exact⟨Keeps.refl _ _,rfl⟩
theorem zat (hx:af.ev x= .exact (.bool true)) {av:AV} (hy:af.ev y=av) (hk:K (af.put d av)):opA P ⟨d, .pick x y z,ty,pos,after,g⟩ af K:=by
 refine⟨_,λ M w ev _ h=> ?_,hk⟩
 have e1:=opnd h (x:=x) (by simp[Op.operands]) hx
 have e2:=h y (by simp[Op.operands])
 rw[hy]at e2
 simp[execOp,e1,asBool,go_sem,UponQ]
 exact⟨Keeps.refl _ _,e2⟩
theorem zar (hx:af.ev x= .exact (.bool false)) {av:AV} (hy:af.ev z=av) (hk:K (af.put d av)):opA P ⟨d, .pick x y z,ty,pos,after,g⟩ af K:=by
 refine⟨_,λ M w ev _ h=> ?_,hk⟩
 have e1:=opnd h (x:=x) (by simp[Op.operands]) hx
 have e2:=h z (by simp[Op.operands])
 rw[hy]at e2
 simp[execOp,e1,asBool,go_sem,UponQ]
 exact⟨Keeps.refl _ _,e2⟩
theorem zds (hB:convB P t t' k=true) (hx:af.ev x= .exact (.int k' a)) (hr:k.wrap a=r) (hk:K (af.put d (.exact (.int k r)))):opA P ⟨d, .convert t t' x,ty,pos,after,g⟩ af K:=by
 refine⟨_,λ M w ev _ h=> ?_,hk⟩
 have e1:=opnd h (x:=x) (by simp[Op.operands]) hx
 obtain⟨⟨D,hD⟩,hu'⟩:=convB_spec hB
 simp[execOp,e1,convert,zdq hD,zdq hu',Conv.intToInt,hr,go_sem,UponQ]
 exact⟨Keeps.refl _ _,rfl⟩
end
def loadB (P:Program) (t:TypeId) (b:Bool) (n:Nat):Bool:=(match P.underlying t with|some D=>aggB D ==b|none=>false) && sizeB P t n
theorem loadB_spec {t:TypeId} {b:Bool} {n:Nat} (h:loadB P t b n=true):(∃D,P.underlying t=some D/\aggB D=b)/\(P.info? t).map (·.size)=some n:=by
 simp only[loadB,Bool.and_eq_true]at h
 refine⟨?_,sizeB_spec h.2⟩
 have h1:=h.1
 split at h1
 .rename_i D hD;exact⟨D,hD,by simpa using h1⟩
 .cases h1
theorem cell_keep {M M':BSet} {w w':World} (hk:Keeps M w w') (hm: ∀k,k<w.heap.size->M' k->M k) {b:Nat} (hb:b<w.heap.size) (hn: ¬M b):b<w'.heap.size/\ ¬M' b/\ ∀o,w'.cell? ⟨b,o,none⟩=w.cell? ⟨b,o,none⟩:=
 ⟨Nat.lt_of_lt_of_le hb hk.size,λ h=>hn (hm b hb h),λ o=>World.cell?_of_block (w:=w) (a:=⟨b,o,none⟩) (hk.block b hb hn)⟩
def CellsAt (M:BSet) (w:World) (b off:Nat) (c:List AV):Prop:= ∀(j:Nat) (a:AV),c[j]?=some a-> ∃u,w.cell? ⟨b,off+j,none⟩=some u/\a.p M w u
theorem CellsAt.keep {M M':BSet} {w w':World} {b off:Nat} {c:List AV} (h:CellsAt M w b off c) (hk:Keeps M w w') (hm: ∀k,k<w.heap.size->M' k->M k) (hb:b<w.heap.size) (hn: ¬M b):CellsAt M' w' b off c:=
 λ j a hj=>let⟨u,h1,h2⟩:=h j a hj;⟨u,((cell_keep hk hm hb hn).2.2 _).trans h1,a.keep hk hm h2⟩
def AV.ptr (c:List AV):AV:=
 ⟨λ M w v=> ∃b off,v= .pointer (some ⟨b,off,none⟩)/\b<w.heap.size/\ ¬M b/\CellsAt M w b off c,
   λ hk hm ⟨b,off,h1,h2,h3,h4⟩=>⟨b,off,h1,(cell_keep hk hm h2 h3).1,(cell_keep hk hm h2 h3).2.1,h4.keep hk hm h2 h3⟩⟩
def AV.row {α:Type} (n:Nat) (enc:α->List AV) (xs:List α):AV:=
 ⟨λ M w v=> ∃A c,v= .slice A xs.length c/\xs.length≤c/\c≤9223372036854775807/\(xs≠[]-> ∃b off,A=some ⟨b,off,none⟩/\b<w.heap.size/\ ¬M b/\ ∀(i:Nat) (x:α),xs[i]?=some x->(enc x).length=n/\CellsAt M w b (off+i*n) (enc x)),
   λ hk hm ⟨A,c,h1,h2,h3,h4⟩=>⟨A,c,h1,h2,h3,λ hx=>let⟨b,off,e1,e2,e3,e4⟩:=h4 hx
     ⟨b,off,e1,(cell_keep hk hm e2 e3).1,(cell_keep hk hm e2 e3).2.1,λ i x hi=>⟨(e4 i x hi).1,(e4 i x hi).2.keep hk hm e2 e3⟩⟩⟩⟩
def AV.agg (c:List AV):AV:=⟨λ M w v=> ∃vs:List Value,v= .agg vs.toArray/\Fit M w c vs,λ hk hm ⟨vs,h1,h2⟩=>⟨vs,h1,h2.keep hk hm⟩⟩
section
variable {α:Type} {n:Nat} {enc:α->List AV} {xs:List α} {t e:TypeId} {x y:Operand} {i:Int} {k:IntKind} {v:Value} {c:List AV}
theorem zgw {M:BSet} {w:World} {ev:Operand->Value} {o:Oper} {x:Operand} {av:AV} (hx: ∀x∈o.op.operands,(af.ev x).p M w (ev x)) (hm:x∈o.op.operands) (h:af.ev x=av):av.p M w (ev x):=by
 have:=hx x hm
 rwa [h]at this
theorem zao (hB:isSliceB P t=true) (hx:af.ev x= .row n enc xs) (hk:K (af.put d (.exact (.int .i64 (xs.length:Int))))):
  opA P ⟨d, .call { callee:= .builtin .len,args:= #[x],argTypes:= #[t] },ty,pos,after,g⟩ af K:=by
 refine⟨_,λ M w ev _ h=> ?_,hk⟩
 obtain⟨A,c,e1,_⟩:=zgw h (x:=x) (by simp[Op.operands,Call.operands]) hx
 obtain⟨e,hu⟩:=isSliceB_spec hB
 simp[execOp,resolve,invoke,builtin,Builtin.len_,e1,zdq hu,goInt,go_sem,UponQ]
 exact⟨Keeps.refl _ _,rfl⟩
theorem op_len_str {s:ByteArray} (hB:isStrB P t=true) (hx:af.ev x= .exact (.string s)) (hk:K (af.put d (.exact (.int .i64 (s.size:Int))))):
  opA P ⟨d, .call { callee:= .builtin .len,args:= #[x],argTypes:= #[t] },ty,pos,after,g⟩ af K:=by
 refine⟨_,λ M w ev _ h=> ?_,hk⟩
 have hu:=isStrB_spec hB
 have e1:=opnd h (x:=x) (by simp[Op.operands,Call.operands]) hx
 simp[execOp,resolve,invoke,builtin,Builtin.len_,e1,zdq hu,goInt,go_sem,UponQ]
 exact⟨Keeps.refl _ _,rfl⟩
theorem zai [Inhabited α] (hB:sliceB P t n=true) (hx:af.ev x= .row n enc xs) (hy:af.ev y= .exact (.int k i)) (h0:0≤i) (h1:i<xs.length)
  (hk:K (af.put d (.ptr (enc (gi xs i))))):opA P ⟨d, .indexAddr t x y,ty,pos,after,g⟩ af K:=by
 refine⟨_,λ M w ev _ h=> ?_,hk⟩
 obtain⟨A,c,e1,_,_,e4⟩:=zgw h (x:=x) (by simp[Op.operands]) hx
 obtain⟨e,hu,hs⟩:=sliceB_spec hB
 have e2:=opnd h (x:=y) (by simp[Op.operands]) hy
 obtain⟨b,off,rfl,hb,hn,hc⟩:=e4 (by rintro rfl;simp at h1;omega)
 have hadd:Addr.add ⟨b,off,none⟩ (i.toNat*n)=⟨b,off+i.toNat*n,none⟩:=by
  unfold Addr.add;split
  .rename_i h0;rw[h0];rfl
  .rfl
 simp[execOp,Instr.indexAt,e1,e2,zdq hu,asIntOf,h0,h1,run_size hs,hadd,go_sem,UponQ]
 exact⟨Keeps.refl _ _,b,_,rfl,hb,hn,(hc _ _ (gi_get h0 h1)).2⟩
theorem run_cells {w:World} {b:Nat}: ∀(n off i:Nat) (vs:List Value) (acc:Array Value),(∀j,j<n-> ∃u,vs[j]?=some u/\w.cell? ⟨b,off+(i+j),none⟩=some u)->vs.length=n->
  (loadCellsFrom ⟨b,off,none⟩ i n acc).run P w= .ok (acc++vs.toArray) w
 |0,off,i,vs,acc,_,hl=>by
  obtain rfl:vs=[]:=List.length_eq_zero_iff.1 hl
  simp[loadCellsFrom,go_sem]
 |n+1,off,i,v::vs,acc,h,hl=>by
  obtain⟨u,h1,h2⟩:=h 0 (by omega)
  obtain rfl:v=u:=by simpa using h1
  have hadd:Addr.add ⟨b,off,none⟩ i=⟨b,off+i,none⟩:=by
   unfold Addr.add;split
   .rename_i h0;rw[h0];rfl
   .rfl
  have h2':w.cell? ⟨b,off+i,none⟩=some v:=by simpa using h2
  have ih:=run_cells (w:=w) (b:=b) n off (i+1) vs (acc.push v) (λ j hj=>by
   obtain⟨u,h3,h4⟩:=h (j+1) (by omega)
   exact⟨u,by simpa using h3,by rw[←h4];congr 2;omega⟩) (by simpa using hl)
  simp[loadCellsFrom,hadd,h2',ih,go_sem]
theorem fit_cells {M:BSet} {w:World} {b off:Nat}: ∀{c:List AV},CellsAt M w b off c-> ∃vs:List Value,Fit M w c vs/\ ∀j,j<c.length-> ∃u,vs[j]?=some u/\w.cell? ⟨b,off+j,none⟩=some u
 |[],_=>⟨[],trivial,λ j hj=>by simp at hj⟩
 |a::c,h=>by
  obtain⟨u,h1,h2⟩:=h 0 a rfl
  obtain⟨vs,h3,h4⟩:=fit_cells (M:=M) (w:=w) (b:=b) (off:=off+1) (c:=c) (λ j a hj=>by
   obtain⟨u,h5,h6⟩:=h (j+1) a (by simpa using hj)
   exact⟨u,by rw[←h5];congr 2;omega,h6⟩)
  refine⟨u::vs,⟨h2,h3⟩,λ j hj=> ?_⟩
  cases j with
  |zero=>exact⟨u,rfl,h1⟩
  |succ j=>
   obtain⟨u',h5,h6⟩:=h4 j (by simpa using hj)
   exact⟨u',by simpa using h5,by rw[←h6];congr 2;omega⟩
theorem run_callFunc {f:FuncId} {fn:Func} {args:Array Value} {w:World} (hf:P.funcs[f]?=some fn) (hb:fn.body.isNone=false) (hnm:(fn.name == "runtime.NumGoroutine")=false):(callFunc f args).run P w= .ok (.enter f args) w:=by
 show(Sem.program _).run P w=_
 simp only[Sem.run,Sem.bind,hf,hnm,hb]
 rfl
end
end
end
noncomputable section
open Go.RowKit
section
variable {P:Program} {ops:Array Oper} {E:Env} {N:Nat} {af:AF} {σ:Items}
def elemOfT (P:Program) (t:TypeId):TypeId:=match P.underlying t with|some (.slice e)=>e|_=>0
def elB (P:Program) (t:TypeId) (n:Nat):Bool:=
 match P.underlying t with
 |some (.slice e)=>match P.info? e with
  |some i=>match i.zero with
   |some z=>i.size ==n && decide (0<n) && decide (i.bytes≤1024) && z.cells.size ==n
   |none=>false
  |none=>false
 |_=>false
theorem elB_spec {t:TypeId} {n:Nat} (h:elB P t n=true):P.underlying t=some (.slice (elemOfT P t))/\0<n/\ ∃i z,P.info? (elemOfT P t)=some i/\i.zero=some z/\i.size=n/\i.bytes≤1024/\z.cells.size=n:=by
 unfold elB at h
 split at h
 .rename_i e he
  have e1:elemOfT P t=e:=by unfold elemOfT;rw[he]
  split at h
  .rename_i i hi
   split at h
   .rename_i z hz
    simp only[Bool.and_eq_true,beq_iff_eq,decide_eq_true_eq]at h
    obtain⟨⟨⟨h1,h2⟩,h3⟩,h4⟩:=h
    exact⟨by rw[e1];exact he,h2,i,z,by rw[e1];exact hi,hz,h1,h3,h4⟩
   .cases h
  .cases h
 .cases h
def vecI (P:Program) (t:TypeId) (v:Value) (n m:Nat) (c:List AV):Item where
 own:=v.ownBlock.toList
 p:=λ M w=> ∃xs,w.ownsRow 0 (elemOfT P t) n v m xs/\Fit M w c xs
 keep:=λ {M M' w w'} hk hm ⟨xs,h1,h2⟩=>by
  refine⟨xs,⟨h1.1, ?_⟩,h2.keep (hk.mono (λ k _ h=>h.1)) hm⟩
  rcases h1.2 with h3|⟨g,cap,cur,rfl,hb,hg,r⟩
  .exact .inl h3
  .refine .inr ⟨g,cap,cur,rfl,hb, ?_,r⟩
   rw[hk.block g (Array.getElem?_eq_some_iff.1 hg).1 (λ h=>h.2 (by simp[Value.ownBlock]))]
   exact hg
theorem Fit.app {M:BSet} {w:World}: ∀{xs ys:List AV} {vs us:List Value},Fit M w xs vs->Fit M w ys us->Fit M w (xs++ys) (vs++us)
 |[],_,[],_,_,h=>h
 |_::_,_,_::_,_,h1,h2=>⟨h1.1,Fit.app h1.2 h2⟩
def OneC (c:List AV):Prop:= ∀a∈c, ∀M w u,a.p M w u->u.oneCell'=true
theorem OneC.fit {M:BSet} {w:World}: ∀{c:List AV} {vs:List Value},OneC c->Fit M w c vs-> ∀u∈vs,u.oneCell'=true
 |[],[],_,_,u,hu=>by simp at hu
 |a::c,v::vs,h1,h2,u,hu=>by
  rcases List.mem_cons.1 hu with rfl|hu
  .exact h1 a (by simp) _ _ _ h2.1
  .exact OneC.fit (c:=c) (λ b hb=>h1 b (by simp[hb])) h2.2 u hu
theorem flat_len {α:Type} {enc:α->List AV} {n:Nat}: ∀{xs:List α},(∀x∈xs,(enc x).length=n)->(xs.flatMap enc).length=xs.length*n
 |[],_=>by simp
 |x::xs,h=>by
  rw[List.flatMap_cons,List.length_append,h x (by simp),flat_len (λ y hy=>h y (by simp[hy])),List.length_cons,Nat.add_mul,Nat.one_mul,Nat.add_comm]
theorem row_cells {M:BSet} {w:World} {α:Type} {n:Nat} {enc:α->List AV} {b:Nat}: ∀{xs:List α} {off:Nat},(∀(i:Nat) (x:α),xs[i]?=some x->(enc x).length=n/\CellsAt M w b (off+i*n) (enc x))->CellsAt M w b off (xs.flatMap enc)
 |[],off,_=>λ j a hj=>by simp at hj
 |x::xs,off,h=>λ j a hj=>by
  obtain⟨h1,h2⟩:=h 0 x rfl
  rw[List.flatMap_cons]at hj
  by_cases hlt:j<(enc x).length
  .rw[List.getElem?_append_left hlt]at hj
   have:=h2 j a hj
   simpa using this
  .rw[List.getElem?_append_right (by omega)]at hj
   obtain⟨u,h3,h4⟩:=row_cells (xs:=xs) (off:=off+n) (λ i y hy=>by
    obtain⟨g1,g2⟩:=h (i+1) y (by simpa using hy)
    refine⟨g1, ?_⟩
    have e:off+(i+1)*n=off+n+i*n:=by rw[Nat.add_mul];omega
    rwa [e]at g2) (j - (enc x).length) a hj
   exact⟨u,by rw[←h3];congr 2;omega,h4⟩
theorem addr_add' (b off j:Nat):(⟨b,off,none⟩:Addr).add j=⟨b,off+j,none⟩:=by unfold Addr.add;split <;>simp_all
theorem zch {it:Item} {ρ:Items} {k:Nat}:Items.own (it::ρ) k↔k∈it.own∨Items.own ρ k:=by simp[Items.own]
theorem good_head {F:BSet} {it it':Item} {ρ:Items} {w w':World} (hg:Good F (it::ρ) w) (hk:Keeps (λ k=>k∈it.own) w w') (ho: ∀k∈it'.own,k<w'.heap.size/\(k<w.heap.size->k∈it.own)) (hn:it'.own.Nodup)
  (hp:Keeps (both F (Items.own (it::ρ))) w w'->(∀k,k<w.heap.size->both F (Items.own (it'::ρ)) k->both F (Items.own (it::ρ)) k)->it'.p (both F (Items.own (it'::ρ))) w'):
  Good F (it'::ρ) w'/\Keeps (Items.own (it::ρ)) w w'/\(∀k,Items.own (it'::ρ) k->k<w.heap.size->Items.own (it::ρ) k):=by
 have hM: ∀k,k<w.heap.size->both F (Items.own (it'::ρ)) k->both F (Items.own (it::ρ)) k:=λ k hlt hb=>hb.imp id (λ h=>zch.2 ((zch.1 h).imp (λ h=>(ho k h).2 hlt) id))
 have hnd:=hg.nodup
 rw[List.flatMap_cons,List.nodup_append]at hnd
 refine⟨⟨λ k h=>Nat.lt_of_lt_of_le (hg.fr k h) hk.size,λ k h=> ?_, ?_,λ x hx=> ?_⟩,hk.mono (λ k _ h=>zch.2 (.inl h)),λ k h hlt=>zch.2 ((zch.1 h).imp (λ h=>(ho k h).2 hlt) id)⟩
 .rcases zch.1 h with h|h
  .refine⟨(ho k h).1,λ hF=> ?_⟩
   have hlt:=hg.fr k hF
   exact(hg.own k (zch.2 (.inl ((ho k h).2 hlt)))).2 hF
  .have:=hg.own k (zch.2 (.inr h))
   exact⟨Nat.lt_of_lt_of_le this.1 hk.size,this.2⟩
 .rw[List.flatMap_cons,List.nodup_append]
  refine⟨hn,hnd.2.1,λ a ha b hb hab=> ?_⟩
  subst hab
  have hlt:=(hg.own a (zch.2 (.inr hb))).1
  exact hnd.2.2 a ((ho a ha).2 hlt) a hb rfl
 .rcases List.mem_cons.1 hx with rfl|hx
  .exact hp (hk.mono (λ k _ h=> .inr (zch.2 (.inl h)))) hM
  .refine x.keep (hk.mono (λ k _ h=>⟨.inr (zch.2 (.inl h)),λ hxo=>hnd.2.2 k h k (List.mem_flatMap.2 ⟨x,hx,hxo⟩) rfl⟩)) hM (hg.items x (List.mem_cons_of_mem _ hx))
variable {d:Option Tmp} {ty:TypeId} {pos:String} {after:Array Edge} {g:Option (Nat×Bool)}
theorem loud_append {t:TypeId} {s x:Operand} {v:Value} {n m:Nat} {c:List AV} {α:Type} {enc:α->List AV} {ys:List α} {ρ:Items} (hB:elB P t n=true) (hs:af.ev s= .exact v) (hx:af.ev x= .row n enc ys)
  (ho:OneC (ys.flatMap enc)) (hl:m+ys.length≤137438953472):
  Loud P ⟨d, .call { callee:= .builtin .append,args:= #[s,x],argTypes:= #[t,t] },ty,pos,after,g⟩ af (vecI P t v n m c::ρ) (λ a σ'=> ∃v',a= .exact v'/\σ'=vecI P t v' n (m+ys.length) (c++ys.flatMap enc)::ρ):=by
 intro F w ev hg h
 obtain⟨ht,hn0,i,z,hi,hz,hi1,hi2,hi3⟩:=elB_spec hB
 have e1:=opnd h (x:=s) (by simp[Op.operands,Call.operands]) hs
 obtain⟨A,cp,e2,_,_,e5⟩:=zgw h (x:=x) (by simp[Op.operands,Call.operands]) hx
 obtain⟨xs,hown,hfit⟩:=hg.items (vecI P t v n m c) List.mem_cons_self
 have hown0:=hown
 have hbs:(m+ys.length)*i.bytes≤140737488355328:=Nat.le_trans (Nat.mul_le_mul hl hi2) (by omega)
 have hrun: ∃v' w' us,(Builtin.append_ #[t,t] ty #[v, .slice A ys.length cp]).run P w= .ok v' w'/\w'.ownsRow 0 (elemOfT P t) n v' (m+ys.length) (xs++us)/\w.grownBy w' v.ownBlock/\(v'.ownBlock=v.ownBlock∨v'.ownBlock=some w.heap.size)/\Fit (both F (Items.own (vecI P t v n m c::ρ))) w (ys.flatMap enc) us:=by
  by_cases hy:ys=[]
  .subst hy
   have happ:(Builtin.append_ #[t,t] ty #[v, .slice A ([]:List α).length cp]).run P w= .ok v w:=by
    rcases hown.2 with⟨rfl,rfl⟩|⟨g,cap,cur,rfl,_,_,hnc,_⟩
    .cases A <;>simp[Builtin.append_,run_underlying ht,sizeOf,typeInfo,hi,Builtin.lenOf,Builtin.firstCells,loadCells,loadCellsFrom]
    .cases A <;>simp[Builtin.append_,run_underlying ht,sizeOf,typeInfo,hi,Builtin.lenOf,Builtin.firstCells,hnc,storeCells,loadCells,loadCellsFrom]
   exact⟨v,w,[],happ,by simpa using hown,⟨rfl,rfl,rfl,Nat.le_refl _,λ _ _ _=>rfl⟩, .inl rfl,trivial⟩
  .obtain⟨b,off,rfl,hb,hnM,hcell⟩:=e5 hy
   have hcells:=row_cells hcell
   obtain⟨us,hf,hu⟩:=fit_cells hcells
   have hlen:(ys.flatMap enc).length=ys.length*n:=flat_len (λ y hy=>by
    obtain⟨i,hi⟩:=List.mem_iff_getElem?.1 hy
    exact(hcell i y hi).1)
   obtain⟨v',w',h1,h2,h3,_,h5⟩:=run_append_own_at (P:=P) w 0 t ty (elemOfT P t) i z n i.bytes ht hi hz hi1 rfl hi3 hn0 v m xs hown ⟨b,off,none⟩ ys.length cp us (by rw[←hf.length,hlen])
    (λ j u hj=>by
     rw[addr_add']
     have hjl:j<(ys.flatMap enc).length:=by rw[hf.length];exact(List.getElem?_eq_some_iff.1 hj).1
     obtain⟨u',g1,g2⟩:=hu j hjl
     rw[hj]at g1
     injection g1 with g1
     rw[g1];exact g2) (ho.fit hf) (by simp only[maxLen];omega) hbs (Nat.zero_le _)
   exact⟨v',w',us,h1,h2,h3,h5,hf⟩
 obtain⟨v',w',us,h1,h2,h3,h5,hf⟩:=hrun
 have hrun':(execOp ev ⟨d, .call { callee:= .builtin .append,args:= #[s,x],argTypes:= #[t,t] },ty,pos,after,g⟩).run P w= .ok (.value v') w':=by
  unfold execOp
  simp only[resolve,invoke,builtin,Sem.run_bind,Sem.run_pure,Result.andThen_ok,List.map_toArray,List.map_cons,List.map_nil,e1,e2,h1]
 rw[hrun']
 have hk:Keeps (λ k=>k∈(vecI P t v n m c).own) w w':=⟨h3.os,h3.tape,h3.output,run_drawn _ _ _ _ h1,h3.size,λ k hlt hn=>h3.block k hlt (λ e=>hn (by simp[vecI, ←e]))⟩
 obtain⟨g1,g2,g3⟩:=good_head (it':=vecI P t v' n (m+ys.length) (c++ys.flatMap enc)) hg hk (λ k hk'=>by
   have hk'':v'.ownBlock=some k:=by simpa[vecI]using hk'
   refine⟨(h2.lt k hk'').2,λ hlt=> ?_⟩
   rcases h5 with h5|h5
   .simp[vecI, ←h5,hk'']
   .rw[h5]at hk'';injection hk'' with e;omega) (by cases h:v'.ownBlock <;>simp[vecI,h])
  (λ hkk hMM=>⟨xs++us,h2,(hfit.keep hkk hMM).app (hf.keep hkk hMM)⟩)
 exact⟨_,_,⟨v',rfl,rfl⟩,g1,g2,g3,rfl⟩
theorem sub_nil {t:TypeId} {n:Nat}:Sub E N af σ af (vecI P t (.slice none 0 0) n 0 []::σ):=by
 intro a w hh
 have hown: ∀k,Items.own (vecI P t (.slice none 0 0) n 0 []::σ) k↔Items.own σ k:=λ k=>by rw[zch];simp[vecI,Value.ownBlock]
 have hM: ∀k,k<w.heap.size->both E.F (Items.own (vecI P t (.slice none 0 0) n 0 []::σ)) k->both E.F (Items.own σ) k:=λ k _ h=>h.imp id (hown k).1
 refine⟨hh.tmps,hh.defers,hh.kept,λ k h hlt=>hh.old k ((hown k).1 h) hlt,⟨hh.good.fr,λ k h=>hh.good.own k ((hown k).1 h), ?_,λ it hi=> ?_⟩,λ t=>(af t).keep (Keeps.refl _ _) hM (hh.fits t)⟩
 .rw[List.flatMap_cons];simpa[vecI,Value.ownBlock]using hh.good.nodup
 .rcases List.mem_cons.1 hi with rfl|hi
  .exact⟨[],World.ownsRow_nil _ _ _ _,trivial⟩
  .exact it.keep (Keeps.refl _ _) hM (hh.good.items it hi)
theorem zgn {M:BSet} {w:World} {b:Nat}: ∀{c:List AV} {vs:List Value} {off:Nat},Fit M w c vs->(∀j u,vs[j]?=some u->w.cell? ⟨b,off+j,none⟩=some u)->CellsAt M w b off c
 |[],[],_,_,_=>λ j a hj=>by simp at hj
 |a::c,v::vs,off,h1,h2=>λ j x hj=>by
  cases j with
  |zero=>simp at hj;subst hj;exact⟨v,h2 0 v rfl,h1.1⟩
  |succ j=>
   obtain⟨u,g1,g2⟩:=zgn (c:=c) (vs:=vs) (off:=off+1) h1.2 (λ j u hu=>by rw[←h2 (j+1) u (by simpa using hu)];congr 2;omega) j x (by simpa using hj)
   exact⟨u,by rw[←g1];congr 2;omega,g2⟩
theorem CellsAt.sub {M:BSet} {w:World} {b off:Nat} {c c':List AV} {k:Nat} (h:CellsAt M w b off c) (hs: ∀j a,c'[j]?=some a->c[k+j]?=some a):CellsAt M w b (off+k) c':=
 λ j a hj=>by
  obtain⟨u,h1,h2⟩:=h (k+j) a (hs j a hj)
  exact⟨u,by rw[←h1];congr 2;omega,h2⟩
theorem flat_get {α:Type} {enc:α->List AV} {n:Nat}: ∀{xs:List α} (_: ∀x∈xs,(enc x).length=n) {i:Nat} {x:α},xs[i]?=some x-> ∀j a,(enc x)[j]?=some a->(xs.flatMap enc)[i*n+j]?=some a
 |y::xs,h,0,x,hx,j,a,hj=>by
  simp at hx
  subst hx
  rw[List.flatMap_cons,Nat.zero_mul,Nat.zero_add,List.getElem?_append_left (List.getElem?_eq_some_iff.1 hj).1]
  exact hj
 |y::xs,h,i+1,x,hx,j,a,hj=>by
  have hy:=h y (by simp)
  rw[List.flatMap_cons,List.getElem?_append_right (by rw[hy,Nat.add_mul];omega),hy,show(i+1)*n+j - n=i*n+j by rw[Nat.add_mul];omega]
  exact flat_get (λ z hz=>h z (by simp[hz])) (by simpa using hx) j a hj
theorem sub_freeze {t:TypeId} {v:Value} {n m:Nat} {c:List AV} {α:Type} {enc:α->List AV} {xs:List α} {s:Tmp} (hs:af s= .exact v) (hm:m=xs.length) (hc:c=xs.flatMap enc) (he: ∀x∈xs,(enc x).length=n):
  Sub E N af (vecI P t v n m c::σ) (af.put (some s) (.row n enc xs)) σ:=by
 intro a w hh
 have hM: ∀k,k<w.heap.size->both E.F (Items.own σ) k->both E.F (Items.own (vecI P t v n m c::σ)) k:=λ k _ h=>h.imp id (λ h=>zch.2 (.inr h))
 have hnd:=hh.good.nodup
 rw[List.flatMap_cons,List.nodup_append]at hnd
 refine⟨hh.tmps,hh.defers,hh.kept,λ k h hlt=>hh.old k (zch.2 (.inr h)) hlt,⟨hh.good.fr,λ k h=>hh.good.own k (zch.2 (.inr h)),hnd.2.1,λ it hi=>it.keep (Keeps.refl _ _) hM (hh.good.items it (List.mem_cons_of_mem _ hi))⟩,λ u=> ?_⟩
 by_cases hu:u=s
 .subst hu
  rw[AF.put_same]
  have hv:=hh.fits u
  rw[hs]at hv
  have hv':a.tmps.getD u undef=v:=hv
  rw[hv']
  obtain⟨vs,hown,hfit⟩:=hh.good.items (vecI P t v n m c) List.mem_cons_self
  subst hm hc
  rcases hown.2 with⟨rfl,h0⟩|⟨g,cap,cur,rfl,_,hg,hnc,hcm,_,htake⟩
  .have:xs=[]:=List.length_eq_zero_iff.1 h0
   subst this
   exact⟨none,0,rfl,by simp,by omega,λ h=>absurd rfl h⟩
  .refine⟨some ⟨g,0,none⟩,cap,rfl,hnc,by simp only[maxLen]at hcm;omega,λ _=>⟨g,0,rfl,(Array.getElem?_eq_some_iff.1 hg).1, ?_,λ i x hx=> ?_⟩⟩
   .rintro (hF|hO)
    .exact(hh.good.own g (zch.2 (.inl (by simp[vecI,Value.ownBlock])))).2 hF
    .exact hnd.2.2 g (by simp[vecI,Value.ownBlock]) g hO rfl
   .have hxm:x∈xs:=List.mem_of_getElem? hx
    refine⟨he x hxm, ?_⟩
    have hcells:=zgn (b:=g) (off:=0) (hfit.keep (Keeps.refl _ _) hM) (λ j u hu=>by
     have:=hown.cells (g:=g) rfl j u hu
     rwa [addr_add']at this)
    exact hcells.sub (λ j a hj=>flat_get he hx j a hj)
 .rw[AF.put_other _ _ hu]
  exact(af u).keep (Keeps.refl _ _) hM (hh.fits u)
end
end
noncomputable section
open Go.RowKit
section
variable {P:Program} {ops:Array Oper} {E:Env} {n:Nat} {QA:Exit->AF->Items->Prop} {af:AF} {σ:Items}
def quietKind (louds:List FuncId) (o:Oper):Bool:=
 match o.op with
 | .call { callee:= .builtin .append, .. }=>false
 | .call { callee:= .value (.func f), .. }=> !louds.contains f
 | .call { callee:= .builtin .copy, .. }| .call { callee:= .builtin .delete, .. }| .call { callee:= .builtin .clear, .. }=>false
 | .box .. | .alloc .. => !(match o.dst with|some d=>louds.contains (1000000+d)|none=>false)
 | .store .. | .mapUpdate .. | .insert .. | .entryStore .. | .mapEntry .. =>false
 |_=>true
def opB (P:Program) (o:Oper) (af:AF) (σ:Items) (K:AF->Items->Prop):Prop:= ∃post,Loud P o af σ post/\ ∀av σ',post av σ'->K (af.put o.dst av) σ'
def wpM (P:Program) (ops:Array Oper) (louds:List FuncId) (K:AF->Items->Prop):List Oper->AF->Items->Prop
 |[],af,σ=>K af σ
 |o::rest,af,σ=>(quietKind louds o=true/\ ∃av,YieldsA P ops o av af/\wpM P ops louds K rest (af.put o.dst av) σ)∨
   (quietKind louds o=false/\((Sat ops o af false/\wpM P ops louds K rest (af.put o.dst undefA) σ)∨(Sat ops o af true/\opB P o af σ (wpM P ops louds K rest))))
def lexMB (ops:Array Oper) (louds:List FuncId):List Oper->Nat->Array Bool->Bool
 |[],_,listed=>(Region.ready .any ops listed).isEmpty
 |o::rest,k,listed=>(bif quietKind louds o then(Region.ready .any ops listed).contains k && Region.free .any ops listed k else(Region.ready .any ops listed) ==[k]) && lexMB ops louds rest (k+1) (listed.setIfInBounds k true)
theorem stepA_of_M {louds:List FuncId} {K:AF->Items->Prop} {k:Nat} {o:Oper} {rest:List Oper} (h0:ops[k]?=some o) (h:wpM P ops louds K (o::rest) af σ):stepA P ops k (wpM P ops louds K rest) af σ:=by
 rcases h with⟨_,av,hy,hK⟩|⟨_,h⟩
 .exact hy.step h0 hK
 .unfold stepA;simp only[h0];exact h
theorem anyA_of_lexM {louds:List FuncId} {K:AF->Items->Prop}: ∀(l:List Oper) (k:Nat) (listed:Array Bool) (af:AF) (σ:Items),(∀j,l[j]?=ops[k+j]?)->
  lexMB ops louds l k listed=true->wpM P ops louds K l af σ->anyA P ops K l.length listed af σ
 |[],_,_,_,_,_,hB,h=>⟨by simpa[lexMB]using hB,h⟩
 |o::l,k,listed,af,σ,hl,hB,h=>by
  have h0:ops[k]?=some o:=by simpa using(hl 0).symm
  have hl': ∀j,l[j]?=ops[k+1+j]?:=λ j=>by have:=hl (j+1);simpa[Nat.add_assoc,Nat.add_comm 1 j]using this
  simp only[lexMB,Bool.and_eq_true]at hB
  obtain⟨hB1,hB2⟩:=hB
  have hst:=stepA_of_M h0 h
  rcases h with⟨hq,av,hy,hK⟩|⟨hq,h⟩
  .rw[hq]at hB1
   simp only[cond_true,Bool.and_eq_true]at hB1
   exact anyA_first h0 l.length listed af σ (Region.free_spec h0 hB1.2) (by simpa using hB1.1) hy (anyA_of_lexM l (k+1) _ _ σ hl' hB2 hK)
  .rw[hq]at hB1
   simp only[cond_false,beq_iff_eq]at hB1
   refine⟨λ h0=>(by rw[h0]at hB1;cases hB1),λ j hj=> ?_⟩
   rw[hB1]at hj
   obtain rfl:j=k:=by simpa using hj
   exact stepA_mono (λ af' σ' hr=>anyA_of_lexM l (j+1) _ af' σ' hl' hB2 hr) hst
variable {louds:List FuncId} {KK:AF->Items->Prop} {rest:List Oper} {dst:Option Tmp} {op:Op} {ty0:TypeId} {pos0:String} {after0:Array Edge} {gd:Option (Nat×Bool)}
def opM (P:Program) (louds:List FuncId) (o:Oper) (af:AF) (σ:Items) (K:AF->Items->Prop):Prop:=(quietKind louds o=true/\opA P o af (λ af'=>K af' σ))∨(quietKind louds o=false/\opB P o af σ K)
variable {j:Nat} {want:Bool} {dg:Tmp} {c:Bool} {p:Prop} [Decidable p]
def LEs:List AV->List AV->Prop
 |[],[]=>True
 |x::xs,y::ys=>AV.le x y/\LEs xs ys
 |_,_=>False
theorem LEs.nil:LEs [] []:=trivial
theorem LEs.cons {x y:AV} {xs ys:List AV} (h:AV.le x y) (h':LEs xs ys):LEs (x::xs) (y::ys):=⟨h,h'⟩
theorem LE_fit {M:BSet} {w:World}: ∀{xs ys:List AV} {vs:List Value},LEs xs ys->Fit M w xs vs->Fit M w ys vs
 |[],[],[],_,_=>trivial
 |_::_,_::_,_::_,h,hf=>⟨h.1 _ _ _ hf.1,LE_fit h.2 hf.2⟩
variable {d:Option Tmp} {ty:TypeId} {pos:String} {after:Array Edge} {g:Option (Nat×Bool)}
theorem run_call {f:FuncId} {fn:Func} {xs:List Operand} {ats:Array TypeId} {ev:Operand->Value} {w:World} (hf:P.funcs[f]?=some fn) (hb:(fn.body.isNone ||fn.name == "runtime.NumGoroutine")=false) (he':ev (.func f)= .func (.func f) #[] #[]):
  (execOp ev ⟨d, .call { callee:= .value (.func f),args:=xs.toArray,argTypes:=ats },ty,pos,after,g⟩).run P w= .ok (.enter f (xs.map ev).toArray) w:=by
 simp only[Bool.or_eq_false_iff]at hb
 simp[execOp,resolve,he',Deferred.ofValue,invoke,run_callFunc hf hb.1 hb.2,go_sem]
theorem fit_args {f:FuncId} {xs:List Operand} {ats:Array TypeId} {args:List AV} {M:BSet} {w:World} {ev:Operand->Value}
  (h: ∀x∈(⟨d, .call { callee:= .value (.func f),args:=xs.toArray,argTypes:=ats },ty,pos,after,g⟩:Oper).op.operands,(af.ev x).p M w (ev x)) (hx:LEs (xs.map af.ev) args):Fit M w args (xs.map ev):=by
 refine LE_fit hx ?_
 have h': ∀x∈xs,(af.ev x).p M w (ev x):=λ x hm=>h x (by simp[Op.operands,Call.operands,hm])
 clear hx h
 induction xs with
 |nil=>trivial
 |cons x xs ih=>exact⟨h' x (by simp),ih (λ y hy=>h' y (by simp[hy]))⟩
theorem zal {f:FuncId} {fn:Func} {args:List AV} {r:AV} {xs:List Operand} {ats:Array TypeId} {K:AF->Prop} (hp:Pure P f args r) (hf:P.funcs[f]?=some fn) (hb:(fn.body.isNone ||fn.name == "runtime.NumGoroutine")=false)
  (hx:LEs (xs.map af.ev) args) (hk:K (af.put d r)):opA P ⟨d, .call { callee:= .value (.func f),args:=xs.toArray,argTypes:=ats },ty,pos,after,g⟩ af K:=by
 refine⟨r,λ M w ev hM h=> ?_,hk⟩
 have he':ev (.func f)= .func (.func f) #[] #[]:=h (.func f) (by simp[Op.operands,Call.operands])
 rw[run_call hf hb he']
 exact hp M w _ hM (fit_args h hx)
theorem op_fun {f:FuncId} {fn:Func} {args:List AV} {post:AV->Items->Prop} {xs:List Operand} {ats:Array TypeId} {K:AF->Items->Prop} (hp:Fun P f args σ post) (hf:P.funcs[f]?=some fn) (hb:(fn.body.isNone ||fn.name == "runtime.NumGoroutine")=false)
  (hx:LEs (xs.map af.ev) args) (hk: ∀av σ',post av σ'->K (af.put d av) σ'):opB P ⟨d, .call { callee:= .value (.func f),args:=xs.toArray,argTypes:=ats },ty,pos,after,g⟩ af σ K:=by
 refine⟨post,λ F w ev hg h=> ?_,hk⟩
 have he':ev (.func f)= .func (.func f) #[] #[]:=h (.func f) (by simp[Op.operands,Call.operands])
 rw[run_call hf hb he']
 exact hp F w _ hg (fit_args h hx)
theorem own_app {A B:Items} {k:Nat}:Items.own (A++B) k↔Items.own A k∨Items.own B k:=by simp[Items.own]
theorem Fun.frame {f:FuncId} {args:List AV} {post:AV->Items->Prop} (hp:Fun P f args σ post) (ρ:Items):Fun P f args (σ++ρ) (λ a s=> ∃s',post a s'/\s=s'++ρ):=by
 intro F w vs hg hfit
 have hsp: ∀(s:Items) k,both (both F (Items.own ρ)) (Items.own s) k↔both F (Items.own (s++ρ)) k:=λ s k=>by
  simp only[both,own_app]
  constructor
  .rintro ((h|h)|h)
   .exact .inl h
   .exact .inr (.inr h)
   .exact .inr (.inl h)
  .rintro (h|h|h)
   .exact .inl (.inl h)
   .exact .inr h
   .exact .inl (.inr h)
 have hnd:=hg.nodup
 rw[List.flatMap_append,List.nodup_append]at hnd
 have hg':Good (both F (Items.own ρ)) σ w:=⟨λ k h=>h.elim (hg.fr k) (λ h=>(hg.own k (own_app.2 (.inr h))).1),
  λ k h=>⟨(hg.own k (own_app.2 (.inl h))).1,λ hb=>hb.elim (λ hF=>(hg.own k (own_app.2 (.inl h))).2 hF) (λ hr=>hnd.2.2 k h k hr rfl)⟩,hnd.1,
  λ it hi=>it.keep (Keeps.refl _ _) (λ k _ h=>(hsp σ k).1 h) (hg.items it (List.mem_append_left _ hi))⟩
 refine(hp _ w vs hg' (hfit.keep (Keeps.refl _ _) (λ k _ h=>(hsp σ k).1 h))).mono ?_
 rintro e w' ⟨v,he,av,s',hpost,hg2,hk,hn,hpv⟩
 refine⟨v,he,av,s'++ρ,⟨s',hpost,rfl⟩, ?_,hk.mono (λ k _ h=>own_app.2 (.inl h)),λ k h hlt=>own_app.2 ((own_app.1 h).imp (λ h=>hn k h hlt) id),av.keep (Keeps.refl _ _) (λ k _ h=>(hsp s' k).2 h) hpv⟩
 have hfr: ∀k,Items.own ρ k->k<w.heap.size/\ ¬F k:=λ k h=>hg.own k (own_app.2 (.inr h))
 refine⟨λ k h=>Nat.lt_of_lt_of_le (hg.fr k h) hk.size,λ k h=> ?_, ?_,λ it hi=> ?_⟩
 .rcases own_app.1 h with h|h
  .exact⟨(hg2.own k h).1,λ hF=>(hg2.own k h).2 (.inl hF)⟩
  .exact⟨Nat.lt_of_lt_of_le (hfr k h).1 hk.size,(hfr k h).2⟩
 .rw[List.flatMap_append,List.nodup_append]
  exact⟨hg2.nodup,hnd.2.1,λ a ha b hb hab=>(hg2.own a ha).2 (.inr (by rw[hab];exact hb))⟩
 .rcases List.mem_append.1 hi with hi|hi
  .exact it.keep (Keeps.refl _ _) (λ k _ h=>(hsp s' k).2 h) (hg2.items it hi)
  .refine it.keep (hk.mono (λ k _ h=>⟨.inr (own_app.2 (.inl h)),λ hio=>hnd.2.2 k h k (List.mem_flatMap.2 ⟨it,hi,hio⟩) rfl⟩)) (λ k hlt h=> ?_) (hg.items it (List.mem_append_right _ hi))
   exact h.imp id (λ h=>own_app.2 ((own_app.1 h).imp (λ h=>hn k h hlt) id))
end
end
noncomputable section
open Go.RowKit
section
variable {P:Program} {af:AF} {d:Option Tmp} {ty:TypeId} {pos:String} {after:Array Edge} {g:Option (Nat×Bool)} {K:AF->Prop} {t t':TypeId} {x y:Operand}
theorem Fit.at {M:BSet} {w:World}: ∀{l:List AV} {vs:List Value} {i:Nat} {av:AV},Fit M w l vs->l[i]?=some av-> ∃v,vs[i]?=some v/\av.p M w v
 |_::_,v::_,0,_,h,hi=>by simp at hi;subst hi;exact⟨v,rfl,h.1⟩
 |_::_,_::_,i+1,_,h,hi=>by simpa using Fit.at (i:=i) h.2 (by simpa using hi)
theorem zbq {l:List AV} {i:Nat} {av:AV} (hx:af.ev x= .tup l) (hl:l[i]?=some av) (hk:K (af.put d av)):opA P ⟨d, .extract x i,ty,pos,after,g⟩ af K:=by
 refine⟨_,λ M w ev _ h=> ?_,hk⟩
 obtain⟨vs,e1,hf⟩:=zgw h (x:=x) (by simp[Op.operands]) hx
 obtain⟨v,hv,hp⟩:=hf.at hl
 simp[execOp,Instr.extract,e1,hv,go_sem,UponQ]
 exact⟨Keeps.refl _ _,hp⟩
theorem str_inj {a b:ByteArray}:a.toList=b.toList↔a=b:=by
 rw[ByteArray.toList_eq,ByteArray.toList_eq]
 constructor
 .intro h;cases a;cases b;simpa using h
 .rintro rfl;rfl
theorem op_eql_str {a b:ByteArray} (hx:af.ev x= .exact (.string a)) (hy:af.ev y= .exact (.string b)) (hk:K (af.put d (.exact (.bool (decide (a=b)))))):opA P ⟨d, .binOp .eql t x y t',ty,pos,after,g⟩ af K:=by
 refine⟨_,λ M w ev _ h=> ?_,hk⟩
 have e1:=opnd h (x:=x) (by simp[Op.operands]) hx
 have e2:=opnd h (x:=y) (by simp[Op.operands]) hy
 simp[execOp,eqGuard,e1,e2,binOp,Op.stringOp,go_sem,UponQ]
 exact⟨Keeps.refl _ _,by by_cases h:a=b <;>simp[AV.exact,h,str_inj]⟩
theorem op_neq_str {a b:ByteArray} (hx:af.ev x= .exact (.string a)) (hy:af.ev y= .exact (.string b)) (hk:K (af.put d (.exact (.bool (decide (¬a=b)))))):opA P ⟨d, .binOp .neq t x y t',ty,pos,after,g⟩ af K:=by
 refine⟨_,λ M w ev _ h=> ?_,hk⟩
 have e1:=opnd h (x:=x) (by simp[Op.operands]) hx
 have e2:=opnd h (x:=y) (by simp[Op.operands]) hy
 simp[execOp,eqGuard,e1,e2,binOp,Op.stringOp,go_sem,UponQ]
 exact⟨Keeps.refl _ _,by by_cases h:a=b <;>simp[AV.exact,h,str_inj]⟩
def isBoolB (P:Program) (t:TypeId):Bool:=match P.underlying t with|some .bool=>true|_=>false
theorem isBoolB_spec {t:TypeId} (h:isBoolB P t=true):P.underlying t=some .bool:=by
 unfold isBoolB at h
 split at h
 .assumption
 .cases h
theorem op_eql_bool {a b:Bool} (hB:isBoolB P t=true) (hx:af.ev x= .exact (.bool a)) (hy:af.ev y= .exact (.bool b)) (hk:K (af.put d (.exact (.bool (decide (a=b)))))):opA P ⟨d, .binOp .eql t x y t',ty,pos,after,g⟩ af K:=by
 refine⟨_,λ M w ev _ h=> ?_,hk⟩
 have e1:=opnd h (x:=x) (by simp[Op.operands]) hx
 have e2:=opnd h (x:=y) (by simp[Op.operands]) hy
 have hq:(Op.equal t (.bool a) (.bool b)).run P w= .ok (decide (a=b)) w:=by
  rw[run_equal_bool w t a b (isBoolB_spec hB)]
  cases a <;>cases b <;>rfl
 have hr:(execOp ev ⟨d, .binOp .eql t x y t',ty,pos,after,g⟩).run P w= .ok (.value (.bool (decide (a=b)))) w:=by
  unfold execOp
  simp only[eqGuard,binOp,e1,e2,Sem.run_bind,hq,Sem.run_pure,Result.andThen_ok]
  simp[go_sem]
  rw[hq]
  rfl
 rw[hr]
 exact⟨Keeps.refl _ _,rfl⟩
section
variable {α:Type} {n:Nat} {enc:α->List AV} {xs:List α} {lo hi:Option Operand} {k k':IntKind} {i j:Int}
def bnd (af:AF) (x:Option Operand) (dflt i:Int):Prop:=match x with|none=>i=dflt|some o=> ∃k,af.ev o= .exact (.int k i)
theorem zdu {dflt:Int}:bnd af none dflt dflt:=rfl
theorem zdn {o:Operand} {dflt:Int} (h:af.ev o= .exact (.int k i)):bnd af (some o) dflt i:=⟨k,h⟩
theorem op_slice_row (hB : sliceB P t n = true) (hx : af.ev x = .row n enc xs) (hlo : bnd af lo 0 i) (hhi : bnd af hi xs.length j) (h0 : 0 ≤ i) (h1 : i ≤ j) (h2 : j ≤ xs.length)
    (hk:K (af.put d (.row n enc ((xs.drop i.toNat).take (j.toNat - i.toNat))))):opA P ⟨d, .slice t x lo hi none,ty,pos,after,g⟩ af K:=by
  refine⟨_,λ M w ev _ h=> ?_,hk⟩
  obtain⟨A,c,e1,hc1,hc2,e4⟩:=zgw h (x:=x) (by cases lo <;>cases hi <;>simp[Op.operands]) hx
  obtain⟨e,hu,hs⟩:=sliceB_spec hB
  obtain⟨a,rfl⟩:=Int.eq_ofNat_of_zero_le h0
  obtain⟨b,rfl⟩:=Int.eq_ofNat_of_zero_le (Int.le_trans h0 h1)
  simp only[Int.toNat_natCast]
  have h1':a≤b:=by omega
  have h2':b≤xs.length:=by omega
  have hlen:((xs.drop a).take (b - a)).length=b - a:=by simp;omega
  have hrun:(execOp ev ⟨d, .slice t x lo hi none,ty,pos,after,g⟩).run P w= .ok (.value (.slice (if c=a then A else A.map (·.add (a*n))) (b - a) (c - a))) w:=by
    have hh:(match hi.map ev with|some v=>Instr.sliceBound v c .sliceAcap|none=>pure xs.length:Sem Nat).run P w= .ok b w:=by
      cases hi with
      | none => have : (b : Int) = xs.length := hhi; obtain rfl : b = xs.length := by omega
                simp[go_sem]
      |some o=>
        obtain⟨k,hk⟩:=hhi
        have e2:=opnd h (x:=o) (by cases lo <;>simp[Op.operands]) hk
        have hbc:b≤c:=by omega
        simp[Instr.sliceBound,asIntOf,e2,hbc,go_sem]
    have hl:(match lo.map ev with|some v=>Instr.sliceBound v b .sliceB|none=>pure 0:Sem Nat).run P w= .ok a w:=by
      cases lo with
      | none => have : (a : Int) = 0 := hlo; obtain rfl : a = 0 := by omega
                simp[go_sem]
      |some o=>
        obtain⟨k,hk⟩:=hlo
        have e2:=opnd h (x:=o) (by simp[Op.operands]) hk
        simp[Instr.sliceBound,asIntOf,e2,h1',go_sem]
    have hb:(Instr.sliceBounds true xs.length c (lo.map ev) (hi.map ev) none).run P w= .ok (a,b,c) w:=by
      unfold Instr.sliceBounds
      simp only[Sem.run_bind,Sem.run_pure,Result.andThen_ok]
      cases hi with
      |none=>
        cases lo with
        |none=>simp[go_sem]at hh hl ⊢;exact⟨hl,hh⟩
        |some o=>simp[go_sem]at hh hl ⊢;simp[hh,hl]
      |some o'=>
        cases lo with
        |none=>simp[go_sem]at hh hl ⊢;simp[hh,hl]
        |some o=>simp[go_sem]at hh hl ⊢;simp[hh,hl]
    unfold execOp
    simp only[Instr.sliceAt,Instr.slice,e1,Sem.run_bind,zdq hu,Result.andThen_ok,hb,run_size hs,Sem.run_pure,Option.map_none]
  rw[hrun]
  show Keeps noB w w/\_
  refine⟨Keeps.refl _ _,(if c=a then A else A.map (·.add (a*n))),c - a, ?_, ?_, ?_,λ hne=> ?_⟩
  . rw[hlen]
  . rw[hlen];omega
  . omega
  . have hxs:xs≠[]:=by rintro rfl;simp at hne
    obtain⟨bb,off,rfl,hb,hnM,hcell⟩:=e4 hxs
    have hij:a<b:=by
      rcases Nat.lt_or_ge a b with h|h
      . exact h
      . exact absurd (List.eq_nil_of_length_eq_zero (by rw[hlen];omega)) hne
    rw[if_neg (by omega)]
    refine⟨bb,off+a*n,by simp[addr_add'],hb,hnM,λ q x hq=> ?_⟩
    have hq':xs[a+q]?=some x:=by
      rw[List.getElem?_take]at hq
      split at hq
      . rwa [List.getElem?_drop]at hq
      . cases hq
    obtain⟨g1,g2⟩:=hcell _ _ hq'
    refine⟨g1, ?_⟩
    have e:off+(a+q)*n=off+a*n+q*n:=by rw[Nat.add_mul];omega
    rwa [e]at g2
end
end
end
noncomputable section
open Go.RowKit
theorem foldl_set {off:Nat}: ∀(l:List Value) (k:Nat) (cs:Array Value),off+k+l.length≤cs.size->
  ((l.zipIdx k).foldl (λ cs p=>cs.setIfInBounds (off+p.2) p.1) cs).toList=cs.toList.take (off+k)++l++cs.toList.drop (off+k+l.length)
 |[],k,cs,_=>by simp
 |v::l,k,cs,h=>by
  simp only[List.length_cons]at h
  rw[List.zipIdx_cons,List.foldl_cons,foldl_set l (k+1) _ (by simp;omega)]
  have hlt:off+k<cs.toList.length:=by simp;omega
  rw[Array.toList_setIfInBounds,List.set_eq_take_append_cons_drop,if_pos hlt]
  have h1:(cs.toList.take (off+k)++v::cs.toList.drop (off+k+1)).take (off+(k+1))=cs.toList.take (off+k)++[v]:=by
   rw[List.take_append,List.length_take,Nat.min_eq_left (by omega),show off+(k+1) - (off+k)=1 by omega]
   rw[List.take_of_length_le (by simp;omega)]
   rfl
  have h2:(cs.toList.take (off+k)++v::cs.toList.drop (off+k+1)).drop (off+(k+1)+l.length)=cs.toList.drop (off+k+(l.length+1)):=by
   rw[List.drop_append,List.length_take,Nat.min_eq_left (by omega),show off+(k+1)+l.length - (off+k)=l.length+1 by omega,List.drop_of_length_le (by simp;omega),List.drop_succ_cons,List.drop_drop]
   simp only[List.nil_append]
   congr 1;omega
  rw[h1,h2]
  simp only[List.append_assoc,List.cons_append,List.nil_append,List.length_cons]
theorem fill_seq (place:Nat->Option (Nat×Nat)): ∀(parts:List (Nat×Value)) (pre suf:List Value),(∀i (p:Nat×Value),parts[i]?=some p->place p.1=some (pre.length+((parts.take i).flatMap (λ q=>q.2.cells.toList)).length,p.2.cells.size))->
  (parts.flatMap (λ q=>q.2.cells.toList)).length≤suf.length->
  Instr.fill place (pre++suf).toArray parts=some (pre++parts.flatMap (λ q=>q.2.cells.toList)++suf.drop (parts.flatMap (λ q=>q.2.cells.toList)).length).toArray
 |[],pre,suf,_,_=>by simp[Instr.fill]
 |(i,v)::rest,pre,suf,hp,hl=>by
  have h0:=hp 0 (i,v) rfl
  simp only[List.take_zero,List.flatMap_nil,List.length_nil,Nat.add_zero]at h0
  rw[List.flatMap_cons,List.length_append]at hl
  simp only[Array.length_toList]at hl
  have hs: ¬(v.cells.size≠v.cells.size∨pre.length+v.cells.size>(pre++suf).toArray.size):=by simp;omega
  have hfold:(v.cells.zipIdx.foldl (λ cs (p:Value×Nat)=>cs.setIfInBounds (pre.length+p.2) p.1) (pre++suf).toArray)=((pre++v.cells.toList)++suf.drop v.cells.size).toArray:=by
   apply Array.ext'
   rw[←Array.foldl_toList,Array.toList_zipIdx,foldl_set _ 0 _ (by simp;omega)]
   simp
  simp only[Instr.fill,h0]
  rw[if_neg (by simpa using hs)]
  rw[hfold,fill_seq place rest (pre++v.cells.toList) (suf.drop v.cells.size) (λ k p hk=>by
    have:=hp (k+1) p (by simpa using hk)
    rw[this]
    simp[List.take_succ_cons,Nat.add_assoc]) (by rw[List.length_drop];omega)]
  simp[List.append_assoc]
section
variable {P:Program} {af:AF} {d:Option Tmp} {ty:TypeId} {pos:String} {after:Array Edge} {g:Option (Nat×Bool)} {K:AF->Prop} {t t':TypeId} {x y:Operand}
def CellsOf (a:AV) (c:List AV):Prop:= ∀M w v,a.p M w v-> ∃vs:List Value,v.cells=vs.toArray/\Fit M w c vs
theorem CellsOf.agg {c:List AV}:CellsOf (.agg c) c:=λ M w v ⟨vs,h1,h2⟩=>⟨vs,by rw[h1];rfl,h2⟩
theorem CellsOf.int {k:IntKind} {n:Int}:CellsOf (.exact (.int k n)) [.exact (.int k n)]:=λ M w v h=>⟨[v],by rw[show v=_ from h];rfl,⟨h,trivial⟩⟩
theorem CellsOf.bool {b:Bool}:CellsOf (.exact (.bool b)) [.exact (.bool b)]:=λ M w v h=>⟨[v],by rw[show v=_ from h];rfl,⟨h,trivial⟩⟩
theorem CellsOf.str {b:ByteArray}:CellsOf (.exact (.string b)) [.exact (.string b)]:=λ M w v h=>⟨[v],by rw[show v=_ from h];rfl,⟨h,trivial⟩⟩
theorem CellsOf.slice {A:Option Addr} {l c:Nat}:CellsOf (.exact (.slice A l c)) [.exact (.slice A l c)]:=λ M w v h=>⟨[v],by rw[show v=_ from h];rfl,⟨h,trivial⟩⟩
theorem CellsOf.row {α:Type} {n:Nat} {enc:α->List AV} {xs:List α}:CellsOf (.row n enc xs) [.row n enc xs]:=λ M w v h=>⟨[v],by obtain⟨A,c,h1,_⟩:=h;rw[h1];rfl,⟨h,trivial⟩⟩
def CellsAll (af:AF):List (Nat×Operand)->List (List AV)->Prop
 |[],[]=>True
 |p::ps,c::cs=>CellsOf (af.ev p.2) c/\CellsAll af ps cs
 |_,_=>False
theorem CellsAll.nil:CellsAll af [] []:=trivial
theorem CellsAll.cons {i:Nat} {x:Operand} {a:AV} {ps:List (Nat×Operand)} {c:List AV} {cs:List (List AV)} (h:af.ev x=a) (hc:CellsOf a c) (hs:CellsAll af ps cs):CellsAll af ((i,x)::ps) (c::cs):=⟨h ▸ hc,hs⟩
theorem cells_fit {M:BSet} {w:World} {ev:Operand->Value}: ∀{ps:List (Nat×Operand)} {cs:List (List AV)},CellsAll af ps cs->(∀p∈ps,(af.ev p.2).p M w (ev p.2))->
  Fit M w cs.flatten (ps.flatMap λ p=>(ev p.2).cells.toList)/\ ∀(i:Nat) (p:Nat×Operand) (c:List AV),ps[i]?=some p->cs[i]?=some c->(ev p.2).cells.size=c.length
 |[],[],_,_=>⟨trivial,λ i p c h=>by simp at h⟩
 |p::ps,c::cs,h,hv=>by
  obtain⟨vs,h1,h2⟩:=h.1 M w _ (hv p (by simp))
  obtain⟨h3,h4⟩:=cells_fit h.2 (λ q hq=>hv q (by simp[hq]))
  refine⟨?_,λ i q c' hi hc=> ?_⟩
  .rw[List.flatten_cons,List.flatMap_cons,h1]
   exact h2.app h3
  .cases i with
   |zero=>simp at hi hc;subst hi hc;rw[h1];simp[h2.length]
   |succ i=>exact h4 i q c' (by simpa using hi) (by simpa using hc)
def litB (P:Program) (t:TypeId) (n len:Nat) (ks:List Nat):Bool:=
 (match P.underlying t with
   |some (.slice e)=>sizeB P e n && (match(P.info? e).bind (·.zero)with|some z=>z.cells.size ==n|none=>false)
   |_=>false) && decide (0<n) && ks ==List.range len && decide (0<len) && decide (len*n≤16777216)
theorem flatMap_len {ps:List (Nat×Value)} {n:Nat} (h: ∀p∈ps,p.2.cells.size=n):(ps.flatMap (λ q=>q.2.cells.toList)).length=ps.length*n:=by
 induction ps with
 |nil=>simp
 |cons p ps ih=>
  rw[List.flatMap_cons,List.length_append,ih (λ q hq=>h q (by simp[hq])),Array.length_toList,h p (by simp),List.length_cons,Nat.add_mul,Nat.one_mul,Nat.add_comm]
theorem lit_run {n len:Nat} {ps:List (Nat×Operand)} {cs:List (List AV)} (hc:CellsAll af ps cs) (hB3:cs.map (·.length)=List.replicate len n) (hB:litB P t n len (ps.map (·.1))=true) {M:BSet} {w:World} {ev:Operand->Value}
  (h: ∀x∈(⟨d, .buildSlice t len ps.toArray,ty,pos,after,g⟩:Oper).op.operands,(af.ev x).p M w (ev x)): ∃(e:TypeId) (vs:List Value),P.underlying t=some (.slice e)/\0<n/\0<len/\len*n≤16777216/\cs.length=len/\(∀c∈cs,c.length=n)/\Fit M w cs.flatten vs∧
   (execOp ev ⟨d, .buildSlice t len ps.toArray,ty,pos,after,g⟩).run P w= .ok (.value (.slice (some ⟨w.heap.size,0,none⟩) len len)) (w.alloc (.cells vs.toArray e)):=by
 simp only[litB,Bool.and_eq_true,beq_iff_eq,decide_eq_true_eq]at hB
 obtain⟨⟨⟨⟨hB1,hn0⟩,hB2⟩,hl0⟩,hbig⟩:=hB
 have hB1': ∃e z,P.underlying t=some (.slice e)/\(P.info? e).map (·.size)=some n/\(P.info? e).bind (·.zero)=some z/\z.cells.size=n:=by
  split at hB1
  .rename_i e he
   simp only[Bool.and_eq_true]at hB1
   obtain⟨h1,h2⟩:=hB1
   split at h2
   .rename_i z hz;exact⟨e,z,he,sizeB_spec h1,hz,by simpa using h2⟩
   .cases h2
  .cases hB1
 obtain⟨e,z,hu,hs,hz,hzs⟩:=hB1'
 obtain⟨I,hI⟩: ∃I,P.info? e=some I:=by cases hI:P.info? e with|none=>simp[hI]at hs|some I=>exact⟨I,rfl⟩
 have hIz:I.zero=some z:=by simpa[hI]using hz
 obtain⟨hf,hcz⟩:=cells_fit (M:=M) (w:=w) (ev:=ev) hc (λ p hp=>h p.2 (by simp[Op.operands];exact⟨p.1,hp⟩))
 have hpl:ps.length=len:=by have:=congrArg List.length hB2;simpa using this
 have hcl:cs.length=len:=by have:=congrArg List.length hB3;simpa using this
 have hce: ∀c∈cs,c.length=n:=λ c hc=>by
  have:c.length∈cs.map (·.length):=List.mem_map_of_mem hc
  rw[hB3]at this
  exact(List.mem_replicate.1 this).2
 have hpi: ∀(i:Nat) (p:Nat×Operand),ps[i]?=some p->p.1=i:=λ i p hp=>by
  have h1:(ps.map (·.1))[i]?=some p.1:=by simp[hp]
  rw[hB2,List.getElem?_range (by have:=(List.getElem?_eq_some_iff.1 hp).1;omega)]at h1
  injection h1 with h1;exact h1.symm
 have hpz: ∀(i:Nat) (p:Nat×Operand),ps[i]?=some p->(ev p.2).cells.size=n:=λ i p hp=>by
  have hlt:i<cs.length:=by have:=(List.getElem?_eq_some_iff.1 hp).1;omega
  have hci:cs[i]?=some cs[i]:=List.getElem?_eq_getElem hlt
  rw[hcz i p _ hp hci]
  exact hce _ (List.getElem_mem hlt)
 let qs:List (Nat×Value):=ps.map λ p=>(p.1,ev p.2)
 have hqz: ∀q∈qs,q.2.cells.size=n:=λ q hq=>by
  obtain⟨p,hp,rfl⟩:=List.mem_map.1 hq
  obtain⟨i,hi⟩:=List.mem_iff_getElem?.1 hp
  exact hpz i p hi
 have hql:(qs.flatMap (λ q=>q.2.cells.toList)).length=len*n:=by rw[flatMap_len hqz];simp[qs,hpl]
 have hflat:qs.flatMap (λ q=>q.2.cells.toList)=ps.flatMap λ p=>(ev p.2).cells.toList:=by simp[qs,List.flatMap_map]
 let Z:Array Value:=(Array.range (len*n)).map (z.cells[· % z.cells.size]!)
 have hZ:Z.toList.length=len*n:=by simp[Z]
 have hfill:Instr.fill (λ i=>some (i*n,n)) Z qs=some (ps.flatMap λ p=>(ev p.2).cells.toList).toArray:=by
  have:=fill_seq (λ i=>some (i*n,n)) qs [] Z.toList (λ i q hq=>by
   have hq': ∃p,ps[i]?=some p/\q=(p.1,ev p.2):=by
    simp only[qs,List.getElem?_map,Option.map_eq_some_iff]at hq
    obtain⟨p,h1,h2⟩:=hq
    exact⟨p,h1,h2.symm⟩
   obtain⟨p,hp,rfl⟩:=hq'
   have ht:((qs.take i).flatMap (λ q=>q.2.cells.toList)).length=i*n:=by
    rw[flatMap_len (λ q hq=>hqz q (List.mem_of_mem_take hq))]
    simp only[qs,List.length_take,List.length_map]
    rw[Nat.min_eq_left (by have:=(List.getElem?_eq_some_iff.1 hp).1;omega)]
   simp only[ht,List.length_nil,Nat.zero_add,hpi i p hp,hpz i p hp]) (by rw[hql,hZ];exact Nat.le_refl _)
  rw[List.nil_append,Array.toArray_toList]at this
  rw[this,hql,List.drop_of_length_le (by omega),hflat]
  simp
 have hrun:(execOp ev ⟨d, .buildSlice t len ps.toArray,ty,pos,after,g⟩).run P w= .ok (.value (.slice (some ⟨w.heap.size,0,none⟩) len len)) (w.alloc (.cells (ps.flatMap λ p=>(ev p.2).cells.toList).toArray e)):=by
  have hzv:(zeroValue e).run P w= .ok z w:=by
   have hti:(typeInfo e).run P w= .ok I w:=by
    show(Sem.program _).run P w=_
    simp only[Sem.run,Sem.bind,hI]
    rfl
   unfold zeroValue
   simp only[Sem.run_bind,hti,Result.andThen_ok,hIz]
   rfl
  have hne: ¬len*n=0:=by intro h0;rcases Nat.mul_eq_zero.1 h0 with h|h <;>omega
  unfold execOp
  simp only[Instr.buildSlice,Sem.run_bind,zdq hu,Result.andThen_ok,run_size hs,if_neg (show¬len*n>2^24 by omega),if_neg hne,hzv,Sem.run_pure,List.map_toArray]
  simp only[qs,Z]at hfill
  simp only[hfill]
  simp[newRow,go_sem]
 exact⟨e,_,hu,hn0,hl0,hbig,hcl,hce,hf,hrun⟩
theorem quiet_lit {n len:Nat} {ps:List (Nat×Operand)} {cs:List (List AV)} (hc:CellsAll af ps cs) (hB3:cs.map (·.length)=List.replicate len n) (hB:litB P t n len (ps.map (·.1))=true):
  Quiet P ⟨d, .buildSlice t len ps.toArray,ty,pos,after,g⟩ af (.row n id cs):=by
 intro M w ev hM h
 obtain⟨e,vs,hu,hn0,hl0,hbig,hcl,hce,hf,hrun⟩:=lit_run (d:=d) (ty:=ty) (pos:=pos) (after:=after) (g:=g) hc hB3 hB h
 rw[hrun]
 have hk0:Keeps noB w (w.alloc (.cells vs.toArray e)):=⟨rfl,rfl,rfl,Nat.le_refl _,by simp,λ k hlt _=>heap_alloc_old w _ hlt⟩
 refine⟨hk0,some ⟨w.heap.size,0,none⟩,len,by rw[hcl],by omega, ?_,λ _=>⟨w.heap.size,0,rfl,by simp,λ hm=>Nat.lt_irrefl _ (hM _ hm),λ i c hi=>⟨hce c (List.mem_of_getElem? hi), ?_⟩⟩⟩
 .have:len≤len*n:=Nat.le_mul_of_pos_right _ hn0
  omega
 .have hcells:=zgn (b:=w.heap.size) (off:=0) (hf.keep (M':=M) (hk0.mono (M':=M) (λ _ _ h=>h.elim)) (λ _ _ h=>h)) (λ j u hu=>by
   rw[Nat.zero_add,cell_of_row _ w.heap.size j _ e (0,0) (heap_alloc_new w _)]
   simpa using hu)
  refine hcells.sub (λ j a hj=> ?_)
  have:=flat_get (enc:=id) (n:=n) (xs:=cs) hce hi j a hj
  rwa [List.flatMap_id]at this
theorem run_zero {t:TypeId} {z:Value} {w:World} (h:(P.info? t).bind (·.zero)=some z):(zeroValue t).run P w= .ok z w:=by
 obtain⟨I,hI⟩: ∃I,P.info? t=some I:=by cases hI:P.info? t with|none=>simp[hI]at h|some I=>exact⟨I,rfl⟩
 have hIz:I.zero=some z:=by simpa[hI]using h
 have hti:(typeInfo t).run P w= .ok I w:=by
  show(Sem.program _).run P w=_
  simp only[Sem.run,Sem.bind,hI]
  rfl
 unfold zeroValue
 simp only[Sem.run_bind,hti,Result.andThen_ok,hIz]
 rfl
end
end
noncomputable section
open Go.RowKit
theorem OneC.nil:OneC []:=λ a h=>by simp at h
theorem OneC.cons {a:AV} {c:List AV} (h: ∀M w u,a.p M w u->u.oneCell'=true) (hc:OneC c):OneC (a::c):=λ b hb=>by
 rcases List.mem_cons.1 hb with rfl|hb
 .exact h
 .exact hc b hb
theorem OneC.int {k:IntKind} {n:Int} {c:List AV} (hc:OneC c):OneC (.exact (.int k n)::c):=OneC.cons (λ M w u h=>by rw[show u=_ from h];rfl) hc
theorem OneC.bool {b:Bool} {c:List AV} (hc:OneC c):OneC (.exact (.bool b)::c):=OneC.cons (λ M w u h=>by rw[show u=_ from h];rfl) hc
theorem OneC.str {b:ByteArray} {c:List AV} (hc:OneC c):OneC (.exact (.string b)::c):=OneC.cons (λ M w u h=>by rw[show u=_ from h];rfl) hc
theorem OneC.row {α:Type} {n:Nat} {enc:α->List AV} {xs:List α} {c:List AV} (hc:OneC c):OneC (.row n enc xs::c):=OneC.cons (λ M w u h=>by obtain⟨A,q,h1,_⟩:=h;rw[h1];rfl) hc
theorem OneC.flat {α:Type} {enc:α->List AV} {xs:List α} (h: ∀x,OneC (enc x)):OneC (xs.flatMap enc):=λ a ha=>by
 obtain⟨x,_,hx⟩:=List.mem_flatMap.1 ha
 exact h x a hx
theorem zfe {P:Program} {af:AF} {d:Option Tmp} {ty:TypeId} {pos:String} {after:Array Edge} {g:Option (Nat×Bool)} {K:AF->Prop} {t:TypeId} {x:Operand} {a:AV} {c:List AV} (hx:af.ev x=a) (hc:CellsOf a c) (hk:K (af.put d (.ptr c))):
  opA P ⟨d, .box t x,ty,pos,after,g⟩ af K:=by
 refine⟨_,λ M w ev hM h=> ?_,hk⟩
 obtain⟨vs,h1,h2⟩:=hc M w _ (zgw h (x:=x) (by simp[Op.operands]) hx)
 have hrun:(execOp ev ⟨d, .box t x,ty,pos,after,g⟩).run P w= .ok (.value (.pointer (some ⟨w.heap.size,0,none⟩))) (w.alloc (.cells (ev x).cells t)):=by
  simp[execOp,Instr.box,newVar,newRow,go_sem]
 rw[hrun,h1]
 have hk0:Keeps noB w (w.alloc (.cells vs.toArray t)):=⟨rfl,rfl,rfl,Nat.le_refl _,by simp,λ k hlt _=>heap_alloc_old w _ hlt⟩
 refine⟨hk0,w.heap.size,0,rfl,by simp,λ hm=>Nat.lt_irrefl _ (hM _ hm), ?_⟩
 exact zgn (b:=w.heap.size) (off:=0) (h2.keep (M':=M) (hk0.mono (M':=M) (λ _ _ h=>h.elim)) (λ _ _ h=>h)) (λ j u hu=>by
  rw[Nat.zero_add,cell_of_row _ w.heap.size j _ t (0,0) (heap_alloc_new w _)]
  simpa using hu)
section
variable {P:Program} {E:Env} {n:Nat} {af af':AF} {ρ:Items} {t:TypeId} {v:Value} {k m m':Nat} {c c':List AV}
theorem Sub.trans {a b c:AF} {σ1 σ2 σ3:Items} (h:Sub E n a σ1 b σ2) (h':Sub E n b σ2 c σ3):Sub E n a σ1 c σ3:=λ x w hh=>h' x w (h x w hh)
theorem zcy {α:Type} {enc:α->List AV} {q:Nat} (hq:q≤9223372036854775807):AV.le (.exact (.slice none 0 q)) (.row k enc ([]:List α)):=λ M w v h=>by
 have h':v= .slice none 0 q:=h
 exact⟨none,q,h',by simp,hq,λ hx=>absurd rfl hx⟩
end
end
noncomputable section
open Go.RowKit
inductive Mode where
 |free
 |still
 |mixed (l:List FuncId)
def Mode.q:Mode->Oper->Bool
 | .mixed l,o=>quietKind l o
 |_,_=>true
def Mode.r:Mode->Oper->Bool
 | .mixed _,_=>false
 |_,_=>true
def Mode.l:Mode->Oper->Bool
 | .free,_=>true
 | .still,_=>false
 | .mixed l,o=> !quietKind l o
section
variable {P:Program} {ops:Array Oper} {E:Env} {n:Nat} {QA:Exit->AF->Items->Prop} {af:AF} {σ:Items}
def Reads (P:Program) (o:Oper) (af:AF) (σ:Items) (av:AV):Prop:=
 ∀F w ev,Good F σ w->(∀x∈o.op.operands,(af.ev x).p (both F (Items.own σ)) w (ev x))->UponQ P (both F (Items.own σ)) w av ((execOp ev o).run P w)
theorem Quiet.reads {o:Oper} {av:AV} (h:Quiet P o af av) (σ:Items):Reads P o af σ av:=λ _ w ev hg hx=>h _ w ev hg.lt hx
theorem loud_of_reads {o:Oper} {av:AV} (h:Reads P o af σ av):Loud P o af σ (λ a s=>a=av/\s=σ):=by
 intro F w ev hg hx
 have h1:=h F w ev hg hx
 generalize(execOp ev o).run P w=r at h1
 cases r with
 |ok n w'=>
  cases n <;>simp only[UponQ]at h1 <;>simp only[Upon] <;>try exact h1.elim
  case value v=>exact zhb hg h1.1 h1.2
  case skip=>exact zhb hg h1.1 h1.2
  case enter f args=>exact h1.mono λ e w'' ⟨v,he,hk,hp⟩=>⟨v,he,zhb hg hk hp⟩
  case row r args=>exact h1.mono λ v w'' ⟨hk,hp⟩=>zhb hg hk hp
 |halt x w'=>exact h1.elim
theorem Reads.put {o oj:Oper} {av:AV} (x:AV) (h: ∀d,oj.dst=some d->d∉o.looksAt ops) (hq:Reads P o af σ av):Reads P o (af.put oj.dst x) σ av:=
 λ F w ev hM hx=>hq F w ev hM (λ y hy=>by have:=hx y hy;rwa [ev_put af x h y hy]at this)
theorem Reads.unput {o oj:Oper} {av:AV} (x:AV) (h: ∀d,oj.dst=some d->d∉o.looksAt ops) (hq:Reads P o (af.put oj.dst x) σ av):Reads P o af σ av:=
 λ F w ev hg hx=>hq F w ev hg (λ y hy=>by rw[ev_put af x h y hy];exact hx y hy)
def YieldsS (P:Program) (ops:Array Oper) (σ:Items) (o:Oper) (av:AV) (af:AF):Prop:=
 (Sat ops o af false/\av=undefA)∨(Sat ops o af true/\Reads P o af σ av)
def stepS (P:Program) (ops:Array Oper) (σ:Items) (i:Nat) (K:AF->Prop) (af:AF):Prop:=
 match ops[i]? with
 |none=>K af
 |some o=> ∃av,YieldsS P ops σ o av af/\K (af.put o.dst av)
def anyS (P:Program) (ops:Array Oper) (σ:Items) (K:AF->Prop):Nat->Array Bool->AF->Prop
 |0,listed,af=>Region.ready .any ops listed=[]/\K af
 |fuel+1,listed,af=>(Region.ready .any ops listed=[]->K af)/\ ∀i∈Region.ready .any ops listed,stepS P ops σ i (anyS P ops σ K fuel (listed.setIfInBounds i true)) af
theorem stepS_mono {i:Nat} {K K':AF->Prop} (h: ∀af,K af->K' af) (hh:stepS P ops σ i K af):stepS P ops σ i K' af:=by
 unfold stepS at*
 split
 .rename_i h0;simp only[h0]at hh;exact h _ hh
 .rename_i o h0
  simp only[h0]at hh
  obtain⟨av,h1,h2⟩:=hh
  exact⟨av,h1,h _ h2⟩
theorem YieldsS.put {o oj:Oper} {av:AV} (x:AV) (h: ∀d,oj.dst=some d->d∉o.looksAt ops) (hy:YieldsS P ops σ o av af):YieldsS P ops σ o av (af.put oj.dst x):=
 hy.imp (λ⟨h1,h2⟩=>⟨(Sat.put_iff x h).2 h1,h2⟩) (λ⟨h1,h2⟩=>⟨(Sat.put_iff x h).2 h1,h2.put x h⟩)
theorem YieldsS.unput {o oj:Oper} {av:AV} (x:AV) (h: ∀d,oj.dst=some d->d∉o.looksAt ops) (hy:YieldsS P ops σ o av (af.put oj.dst x)):YieldsS P ops σ o av af:=
 hy.imp (λ⟨h1,h2⟩=>⟨(Sat.put_iff x h).1 h1,h2⟩) (λ⟨h1,h2⟩=>⟨(Sat.put_iff x h).1 h1,h2.unput x h⟩)
theorem stepS_put {j:Nat} {oi oj:Oper} {av:AV} (hj:ops[j]?=some oj) (hap:oi.apart ops oj=true) {K:AF->Prop}
  (hy:YieldsS P ops σ oi av af) (h:stepS P ops σ j K (af.put oi.dst av)):stepS P ops σ j (λ af'=>YieldsS P ops σ oi av af'/\K (af'.put oi.dst av)) af:=by
 obtain⟨h1,h2,h3⟩:=Oper.apart_spec hap
 unfold stepS at*
 simp only[hj]at*
 obtain⟨u,h4,h5⟩:=h
 refine⟨u,h4.unput av h1,hy.put _ h3, ?_⟩
 rw[←AF.put_comm af av u h2]
 exact h5
theorem anyS_first {K:AF->Prop} {i:Nat} {oi:Oper} {av:AV} (hi:ops[i]?=some oi):
  ∀(fuel:Nat) (listed:Array Bool) (af:AF),
   (∀j oj,ops[j]?=some oj->j≠i->listed.getD j true=false->(∀e∈oj.after,Region.binds .any e=true->e.on≠i)->oi.apart ops oj=true)->
   i∈Region.ready .any ops listed->YieldsS P ops σ oi av af->
   anyS P ops σ K fuel (listed.setIfInBounds i true) (af.put oi.dst av)->anyS P ops σ K (fuel+1) listed af:=by
 intro fuel
 have one: ∀{K':AF->Prop} {af:AF},YieldsS P ops σ oi av af->K' (af.put oi.dst av)->stepS P ops σ i K' af:=λ hy hk=>by
  unfold stepS;simp only[hi];exact⟨av,hy,hk⟩
 induction fuel with
 |zero=>
  intro listed af _ hr hy H
  refine⟨λ h=>(by rw[h]at hr;cases hr),λ j hj=> ?_⟩
  by_cases hji:j=i
  .subst hji;exact one hy H
  .have:=ready_mono hj hji
   rw[H.1]at this
   cases this
 |succ fuel ih=>
  intro listed af hfree hr hy H
  refine⟨λ h=>(by rw[h]at hr;cases hr),λ j hj=> ?_⟩
  by_cases hji:j=i
  .subst hji;exact one hy H
  .have h1:=H.2 j (ready_mono hj hji)
   obtain⟨hjun,oj,hoj,hall⟩:=mem_ready.1 hj
   have hnot: ∀e∈oj.after,Region.binds .any e=true->e.on≠i:=λ e he hb heq=>by
    have h1:=hall e he hb
    have h0:=(mem_ready.1 hr).1
    rw[heq]at h1
    rcases Nat.lt_or_ge i listed.size with h'|h'
    .simp[h']at h0 h1;rw[h0]at h1;cases h1
    .simp[Array.getElem?_eq_none h']at h1
   have h2:=stepS_put hoj (hfree j oj hoj hji hjun hnot) hy h1
   have hfree': ∀k ok,ops[k]?=some ok->k≠i->(listed.setIfInBounds j true).getD k true=false->
     (∀e∈ok.after,Region.binds .any e=true->e.on≠i)->oi.apart ops ok=true:=λ k ok hk hki hun hno=>by
    refine hfree k ok hk hki ?_ hno
    by_cases hjk:j=k
    .subst hjk;exact hjun
    .rw[getD_set_ne true hjk]at hun;exact hun
   refine stepS_mono (λ af' h3=>ih (listed.setIfInBounds j true) af' hfree' (ready_mono hr (Ne.symm hji)) h3.1 ?_) h2
   rw[Array.setIfInBounds_comm _ _ hji]
   exact h3.2
theorem anyA_of_anyS {K:AF->Items->Prop}: ∀(fuel:Nat) (listed:Array Bool) (af:AF),anyS P ops σ (λ af=>K af σ) fuel listed af->anyA P ops K fuel listed af σ
 |0,_,_,h=>h
 |fuel+1,listed,af,h=>by
  refine⟨h.1,λ i hi=> ?_⟩
  have h1:=h.2 i hi
  unfold stepS at h1
  unfold stepA
  split
  .rename_i h0;simp only[h0]at h1;exact anyA_of_anyS fuel _ _ h1
  .rename_i o h0
   simp only[h0]at h1
   obtain⟨av,hy,hk⟩:=h1
   have hk':=anyA_of_anyS fuel _ _ hk
   rcases hy with⟨g1,rfl⟩|⟨g1,g2⟩
   .exact .inl ⟨g1,hk'⟩
   .exact .inr ⟨g1,_,loud_of_reads g2,λ a s ⟨e1,e2⟩=>by subst e1 e2;exact hk'⟩
def stp (m:Mode) (P:Program) (o:Oper) (af:AF) (σ:Items) (K:AF->Items->Prop):Prop:=
 (m.q o=true/\opA P o af (λ af'=>K af' σ))∨(m.r o=true/\ ∃av,Reads P o af σ av/\K (af.put o.dst av) σ)∨(m.l o=true/\opB P o af σ K)
def Mode.isFree:Mode->Bool
 | .free=>true
 |_=>false
def SubU (af:AF) (σ:Items) (af':AF) (σ':Items):Prop:= ∀E n,Sub E n af σ af' σ'
def Pre (m:Mode) (af:AF) (σ:Items) (af':AF) (σ':Items):Prop:=(af'=af/\σ'=σ)∨(m.isFree=true/\SubU af σ af' σ')
def wpG (m:Mode) (P:Program) (ops:Array Oper) (K:AF->Items->Prop):List Oper->AF->Items->Prop
 |[],af,σ=>K af σ
 |o::rest,af,σ=> ∃af' σ',Pre m af σ af' σ'/\((Sat ops o af' false/\wpG m P ops K rest (af'.put o.dst undefA) σ')∨(Sat ops o af' true/\stp m P o af' σ' (wpG m P ops K rest)))
theorem Pre.same {m:Mode}:Pre m af σ af σ:= .inl ⟨rfl,rfl⟩
theorem G_sub {m:Mode} {af':AF} {σ':Items} {K:AF->Items->Prop} {o:Oper} {rest:List Oper} (hm:m.isFree=true) (h:SubU af σ af' σ') (h':wpG m P ops K (o::rest) af' σ'):wpG m P ops K (o::rest) af σ:=by
 obtain⟨a,s,hp,hr⟩:=h'
 refine⟨a,s, .inr ⟨hm,λ E n=> ?_⟩,hr⟩
 rcases hp with⟨rfl,rfl⟩|⟨_,hq⟩
 .exact h E n
 .exact λ x w hh=>hq E n x w (h E n x w hh)
theorem opB_of_stp {m:Mode} {o:Oper} {K:AF->Items->Prop} (h:stp m P o af σ K):opB P o af σ K:=by
 rcases h with⟨_,av,hq,hk⟩|⟨_,av,hr,hk⟩|⟨_,h⟩
 .exact⟨_,loud_of_quiet σ hq,λ a s ⟨e1,e2⟩=>by subst e1 e2;exact hk⟩
 .exact⟨_,loud_of_reads hr,λ a s ⟨e1,e2⟩=>by subst e1 e2;exact hk⟩
 .exact h
theorem stepA_of_G {m:Mode} {K:AF->Items->Prop} {k:Nat} {o:Oper} {rest:List Oper} (h0:ops[k]?=some o) (h:(Sat ops o af false/\wpG m P ops K rest (af.put o.dst undefA) σ)∨(Sat ops o af true/\stp m P o af σ (wpG m P ops K rest))):stepA P ops k (wpG m P ops K rest) af σ:=by
 unfold stepA;simp only[h0]
 exact h.imp id (λ⟨h1,h2⟩=>⟨h1,opB_of_stp h2⟩)
theorem Pre.holds {m:Mode} {af':AF} {σ':Items} {a:Act} {w:World} (h:Pre m af σ af' σ') (hh:Holds E n af σ a w):Holds E n af' σ' a w:=by
 rcases h with⟨rfl,rfl⟩|⟨_,h⟩
 .exact hh
 .exact h E n a w hh
theorem Pre.eqs {m:Mode} {af':AF} {σ':Items} (hm:m.isFree=false) (h:Pre m af σ af' σ'):af=af'/\σ=σ':=by
 rcases h with h|⟨h,_⟩
 .exact⟨h.1.symm,h.2.symm⟩
 .rw[hm]at h;cases h
theorem wpOps_of_G {m:Mode} (hd:dstB ops n=true): ∀(l:List Oper) (k:Nat) (af:AF) (σ:Items) (a:Act) (w:World),(∀j,l[j]?=ops[k+j]?)->
  wpG m P ops (QA .normal) l af σ->Holds E n af σ a w->wpOps P ops (PostA E n QA) (List.range' k l.length) a w
 |[],_,af,σ,_,_,_,h,hh=>⟨af,σ,hh,h⟩
 |o::l,k,af,σ,a,w,hl,h,hh=>by
  have h0:ops[k]?=some o:=by simpa using(hl 0).symm
  rw[List.length_cons,List.range'_succ,wpOps_cons]
  obtain⟨b,s,hp,h⟩:=h
  exact wpOp_mono (λ a' w' ⟨af',σ',hh',h'⟩=>wpOps_of_G hd l (k+1) af' σ' a' w' (λ j=>by have:=hl (j+1);simpa[Nat.add_assoc,Nat.add_comm 1 j]using this) h' hh') (wpOp_of_stepA hd (stepA_of_G h0 h) (hp.holds hh))
theorem wpM_of_G {louds:List FuncId} {K:AF->Items->Prop}: ∀(l:List Oper) (af:AF) (σ:Items),wpG (.mixed louds) P ops K l af σ->wpM P ops louds K l af σ
 |[],_,_,h=>h
 |o::l,af,σ,h=>by
  obtain⟨b,s,hp,h⟩:=h
  obtain⟨rfl,rfl⟩:=hp.eqs rfl
  rcases h with⟨h1,h2⟩|⟨h1,h2⟩
  .have h2':=wpM_of_G l _ _ h2
   cases hq:quietKind louds o with
   |true=>exact .inl ⟨hq,undefA, .inl ⟨h1,rfl⟩,h2'⟩
   |false=>exact .inr ⟨hq, .inl ⟨h1,h2'⟩⟩
  .rcases h2 with⟨hq,av,hqq,hk⟩|⟨hr,_⟩|⟨hl,post,hp,hk⟩
   .exact .inl ⟨hq,av, .inr ⟨h1,hqq⟩,wpM_of_G l _ _ hk⟩
   .exact absurd hr (by simp[Mode.r])
   .have hq:quietKind louds o=false:=by simpa[Mode.l]using hl
    exact .inr ⟨hq, .inr ⟨h1,post,hp,λ av σ' hpp=>wpM_of_G l _ _ (hk av σ' hpp)⟩⟩
theorem anyS_of_G {K:AF->Items->Prop}: ∀(l:List Oper) (k:Nat) (listed:Array Bool) (af:AF),(∀j,l[j]?=ops[k+j]?)->
  Region.lexFrom .any ops l.length k listed=true->wpG .still P ops K l af σ->anyS P ops σ (λ af=>K af σ) l.length listed af
 |[],_,_,_,_,hB,h=>⟨by simpa[Region.lexFrom]using hB,h⟩
 |o::l,k,listed,af,hl,hB,h=>by
  have h0:ops[k]?=some o:=by simpa using(hl 0).symm
  simp only[List.length_cons,Region.lexFrom,Bool.and_eq_true]at hB
  obtain⟨⟨hr,hf⟩,hB'⟩:=hB
  obtain⟨b,s,hp,h⟩:=h
  obtain⟨rfl,rfl⟩:=hp.eqs rfl
  have hy: ∃av,YieldsS P ops σ o av af/\wpG .still P ops K l (af.put o.dst av) σ:=by
   rcases h with⟨h1,h2⟩|⟨h1,h2⟩
   .exact⟨undefA, .inl ⟨h1,rfl⟩,h2⟩
   .rcases h2 with⟨_,av,hqq,hk⟩|⟨_,av,hqq,hk⟩|⟨hl,_⟩
    .exact⟨av, .inr ⟨h1,hqq.reads σ⟩,hk⟩
    .exact⟨av, .inr ⟨h1,hqq⟩,hk⟩
    .exact absurd hl (by simp[Mode.l])
  obtain⟨av,hy,hK⟩:=hy
  exact anyS_first h0 l.length listed af (Region.free_spec h0 hf) (by simpa using hr) hy
   (anyS_of_G l (k+1) _ _ (λ j=>by have:=hl (j+1);simpa[Nat.add_assoc,Nat.add_comm 1 j]using this) hB' hK)
def regB (m:Mode) (l:List Oper) (n:Nat) (draw:Bool):Bool:=
 dstB l.toArray n && (!draw ||match m with
  | .free=>false
  | .still=>Region.lexFrom .any l.toArray l.length 0 (Array.replicate l.length false)
  | .mixed louds=>lexMB l.toArray louds l 0 (Array.replicate l.length false))
variable {ks:List KFr}
theorem k_reg (m:Mode) {id:Nat} {l:List Oper} {draw:Bool} (hm:P.follows .mixedOrders=true) (hB:regB m l n draw=true)
  (h:wpG m P l.toArray (den P E n ks .normal) l af σ):awp P E n (.region id l.toArray draw) (den P E n ks) af σ:=by
 simp only[regB,Bool.and_eq_true]at hB
 intro a w hh
 cases draw with
 |false=>
  refine wp_region ?_
  have h1:=wpOps_of_G hB.1 l 0 af σ a w (by simp) h hh
  simpa[List.range_eq_range']using h1
 |true=>
  refine wp_region_any hm ?_
  cases m with
  |free=>simp at hB
  |still=>
   have h1:=anyA_of_anyS _ _ _ (anyS_of_G (K:=den P E n ks .normal) l 0 (Array.replicate l.length false) af (by simp) (by simpa using hB.2) h)
   simpa using wpAny_of_anyA hB.1 _ _ af σ a _ h1 hh.drew
  |mixed louds=>
   have h1:=anyA_of_lexM l 0 (Array.replicate l.length false) af σ (by simp) (by simpa using hB.2) (wpM_of_G _ _ _ h)
   simpa using wpAny_of_anyA hB.1 _ _ af σ a _ h1 hh.drew
variable {m:Mode} {K:AF->Items->Prop} {rest:List Oper} {dst:Option Tmp} {op:Op} {ty0:TypeId} {pos0:String} {after0:Array Edge} {gd:Option (Nat×Bool)}
def opR (P:Program) (o:Oper) (af:AF) (σ:Items) (K:AF->Prop):Prop:= ∃av,Reads P o af σ av/\K (af.put o.dst av)
theorem zbc (h:K af σ):wpG m P ops K [] af σ:=h
theorem G_q (hq:m.q ⟨dst,op,ty0,pos0,after0,none⟩=true) (h:opA P ⟨dst,op,ty0,pos0,after0,none⟩ af (λ af'=>wpG m P ops K rest af' σ)):wpG m P ops K (⟨dst,op,ty0,pos0,after0,none⟩::rest) af σ:=
 ⟨_,_,Pre.same, .inr ⟨.inl ⟨rfl,rfl⟩, .inl ⟨hq,h⟩⟩⟩
theorem G_r (hq:m.r ⟨dst,op,ty0,pos0,after0,none⟩=true) (h:opR P ⟨dst,op,ty0,pos0,after0,none⟩ af σ (λ af'=>wpG m P ops K rest af' σ)):wpG m P ops K (⟨dst,op,ty0,pos0,after0,none⟩::rest) af σ:=
 ⟨_,_,Pre.same, .inr ⟨.inl ⟨rfl,rfl⟩, .inr (.inl ⟨hq,h⟩)⟩⟩
theorem G_l (hq:m.l ⟨dst,op,ty0,pos0,after0,none⟩=true) (h:opB P ⟨dst,op,ty0,pos0,after0,none⟩ af σ (wpG m P ops K rest)):wpG m P ops K (⟨dst,op,ty0,pos0,after0,none⟩::rest) af σ:=
 ⟨_,_,Pre.same, .inr ⟨.inl ⟨rfl,rfl⟩, .inr (.inr ⟨hq,h⟩)⟩⟩
variable {j:Nat} {want:Bool} {dg:Tmp} {c:Bool} {p:Prop} [Decidable p]
theorem Sat.mk (hj:(ops[j]?).bind (·.dst)=some dg) (hv:af dg= .exact (.bool c)):Sat ops ⟨dst,op,ty0,pos0,after0,some (j,want)⟩ af (some c ==some want):= .inr ⟨j,want,dg, .bool c,rfl,hj,hv,rfl⟩
theorem Gy_q (hj:(ops[j]?).bind (·.dst)=some dg) (hv:af dg= .exact (.bool want)) (hq:m.q ⟨dst,op,ty0,pos0,after0,some (j,want)⟩=true) (h:opA P ⟨dst,op,ty0,pos0,after0,some (j,want)⟩ af (λ af'=>wpG m P ops K rest af' σ)):wpG m P ops K (⟨dst,op,ty0,pos0,after0,some (j,want)⟩::rest) af σ:=
 ⟨_,_,Pre.same, .inr ⟨by simpa using Sat.mk (want:=want) hj hv, .inl ⟨hq,h⟩⟩⟩
theorem Gy_r (hj:(ops[j]?).bind (·.dst)=some dg) (hv:af dg= .exact (.bool want)) (hq:m.r ⟨dst,op,ty0,pos0,after0,some (j,want)⟩=true) (h:opR P ⟨dst,op,ty0,pos0,after0,some (j,want)⟩ af σ (λ af'=>wpG m P ops K rest af' σ)):wpG m P ops K (⟨dst,op,ty0,pos0,after0,some (j,want)⟩::rest) af σ:=
 ⟨_,_,Pre.same, .inr ⟨by simpa using Sat.mk (want:=want) hj hv, .inr (.inl ⟨hq,h⟩)⟩⟩
theorem Gy_l (hj:(ops[j]?).bind (·.dst)=some dg) (hv:af dg= .exact (.bool want)) (hq:m.l ⟨dst,op,ty0,pos0,after0,some (j,want)⟩=true) (h:opB P ⟨dst,op,ty0,pos0,after0,some (j,want)⟩ af σ (wpG m P ops K rest)):wpG m P ops K (⟨dst,op,ty0,pos0,after0,some (j,want)⟩::rest) af σ:=
 ⟨_,_,Pre.same, .inr ⟨by simpa using Sat.mk (want:=want) hj hv, .inr (.inr ⟨hq,h⟩)⟩⟩
theorem G_n (hj:(ops[j]?).bind (·.dst)=some dg) (hv:af dg= .exact (.bool (!want))) (h:wpG m P ops K rest (af.put dst undefA) σ):wpG m P ops K (⟨dst,op,ty0,pos0,after0,some (j,want)⟩::rest) af σ:=
 ⟨_,_,Pre.same, .inl ⟨by simpa using Sat.mk (want:=want) hj hv,h⟩⟩
theorem G_u (hj:(ops[j]?).bind (·.dst)=some dg) (hv:af dg=undefA) (h:wpG m P ops K rest (af.put dst undefA) σ):wpG m P ops K (⟨dst,op,ty0,pos0,after0,some (j,want)⟩::rest) af σ:=
 ⟨_,_,Pre.same, .inl ⟨.inr ⟨j,want,dg,undef,rfl,hj,hv,rfl⟩,h⟩⟩
theorem put_b {b:Bool} (hv:af dg= .exact (.bool c)) (hb:c=b):af.put (some dg) (.exact (.bool b))=af:=by
 funext t
 by_cases ht:t=dg
 .subst ht;rw[AF.put_same,hv,hb]
 .rw[AF.put_other _ _ ht]
theorem zcc {l:List Oper} (dg:Tmp) (hv:af dg= .exact (.bool (decide p))) (h1:p->wpG m P ops K l (af.put (some dg) (.exact (.bool true))) σ) (h2: ¬p->wpG m P ops K l (af.put (some dg) (.exact (.bool false))) σ):wpG m P ops K l af σ:=by
 by_cases hp:p
 .have:=h1 hp;rwa [put_b hv (by simp[hp])]at this
 .have:=h2 hp;rwa [put_b hv (by simp[hp])]at this
theorem zfl {l:List Oper} (dg:Tmp) (hv:af dg= .exact (.bool c)) (h1:c=true->wpG m P ops K l (af.put (some dg) (.exact (.bool true))) σ) (h2: ¬c=true->wpG m P ops K l (af.put (some dg) (.exact (.bool false))) σ):wpG m P ops K l af σ:=by
 by_cases hp:c=true
 .have:=h1 hp;rwa [put_b hv hp]at this
 .have:=h2 hp;rwa [put_b hv (by simpa using hp)]at this
theorem k_cond_b {x:Operand} {y z:Code} {c:Bool} (hc:af.ev x= .exact (.bool c)) (ht:c=true->awp P E n y (den P E n ks) af σ) (hf: ¬c=true->awp P E n z (den P E n ks) af σ):awp P E n (.cond x y z) (den P E n ks) af σ:=awp_cond c hc ht (λ h=>hf (by simp[h]))
theorem endNn {fn:Func} {post:AV->Items->Prop} {af':AF} {σ':Items} (rs:List ResultVar) (hr:fn.results.toList=rs) (h:Sub E n af σ af' σ') (hp:post (resA rs af') σ'):EndA fn E n post .normal af σ:=⟨af',σ',h,by rw[hr];exact hp⟩
theorem endN {fn:Func} {post:AV->Items->Prop} {af':AF} {σ':Items} (rs:List ResultVar) (hr:fn.results.toList=rs) (h:Sub E n af σ af' σ') (hp:post (resA rs af') σ'):EndA fn E n post .ret af σ:=⟨af',σ',h,by rw[hr];exact hp⟩
end
section
variable {P:Program} {E:Env} {n:Nat} {af:AF} {σ:Items} {ks:List KFr} {x y:Code} {ρ:Type} {r:ρ}
theorem zbw {k:(Unit->Option ρ)} {m:(Unit->Option ρ)->Option ρ} (h:jn k m=some r) (I:AF) (S:Items)
  (h1: ∀k':(Unit->Option ρ),m k'=some r->awp P E n x (den P E n (kI (λ af' σ'=>k' ()=some r/\Sub E n af' σ' (I) (S))::ks)) af σ)
  (h2:k ()=some r->awp P E n y (den P E n ks) (I) (S)):awp P E n (.seq x y) (den P E n ks) af σ:=by
 refine zan (λ a w hh=>wp_mono (h1 k h a w hh) ?_)
 rintro e a' w' ⟨af',σ',hh',h'⟩
 cases e with
 |normal=>
  obtain⟨h3,h4⟩:=h'
  exact⟨_,_,h4 _ _ hh',h2 h3⟩
 |_=>exact⟨af',σ',hh',h'⟩
theorem zgs (L:Nat->(Unit->Option ρ)) (B:(Unit->Option ρ)->(Unit->Option ρ)) (hz: ∀u:Unit,L 0 u=none) (hs: ∀(m:Nat) (u:Unit),L (m+1) u=B (L m) u) {m0:Nat} (h:L m0 ()=some r)
  (I:AF) (S:Items) (start:Sub E n af σ (I) (S))
  (round: ∀rec:(Unit->Option ρ),B rec ()=some r->awp P E n x (den P E n (kI (λ af' σ'=>rec ()=some r/\Sub E n af' σ' (I) (S))::ks)) (I) (S)):awp P E n (.loop x) (den P E n ks) af σ:=by
 refine awp_loop (α:=Nat×Unit) (λ v=>I) (λ v=>S) (λ v=>L v.1 ()=some r) (λ v=>v.1) (m0,()) h start (λ v hv=> ?_)
 obtain⟨m,u0⟩:=v
 dsimp only at hv⊢
 cases m with
 |zero=>rw[hz]at hv;cases hv
 |succ m=>
  rw[hs]at hv
  refine awp_mono (round (L m) hv) ?_
  intro e af' σ' h'
  cases e with
  |normal=>
   obtain⟨h3,h4⟩:=h'
   exact⟨(m,()),h3,Nat.lt_succ_self m,h4⟩
  |_=>exact h'
theorem zax {α0:Type} {k:(α0->Option ρ)} {m:(α0->Option ρ)->Option ρ} (h:jn k m=some r) (I:α0->AF) (S:α0->Items)
  (h1: ∀k':(α0->Option ρ),m k'=some r->awp P E n x (den P E n (kI (λ af' σ'=> ∃a0,k' a0=some r/\Sub E n af' σ' (I a0) (S a0))::ks)) af σ)
  (h2: ∀a0,k a0=some r->awp P E n y (den P E n ks) (I a0) (S a0)):awp P E n (.seq x y) (den P E n ks) af σ:=by
 refine zan (λ a w hh=>wp_mono (h1 k h a w hh) ?_)
 rintro e a' w' ⟨af',σ',hh',h'⟩
 cases e with
 |normal=>
  obtain⟨a0,h3,h4⟩:=h'
  exact⟨_,_,h4 _ _ hh',h2 a0 h3⟩
 |_=>exact⟨af',σ',hh',h'⟩
theorem zcr {α0:Type} (L:Nat->(α0->Option ρ)) (B:(α0->Option ρ)->(α0->Option ρ)) (hz: ∀a0,L 0 a0=none) (hs: ∀m, ∀a0,L (m+1) a0=B (L m) a0) {m0:Nat} {b0:α0} (h:L m0 b0=some r)
  (I:α0->AF) (S:α0->Items) (start:Sub E n af σ (I b0) (S b0))
  (round: ∀rec:(α0->Option ρ), ∀a0,B rec a0=some r->awp P E n x (den P E n (kI (λ af' σ'=> ∃a0,rec a0=some r/\Sub E n af' σ' (I a0) (S a0))::ks)) (I a0) (S a0)):awp P E n (.loop x) (den P E n ks) af σ:=by
 refine awp_loop (α:=Nat×α0) (λ v=>I v.2) (λ v=>S v.2) (λ v=>L v.1 v.2=some r) (λ v=>v.1) (m0,b0) h start (λ v hv=> ?_)
 obtain⟨m,a0⟩:=v
 dsimp only at hv⊢
 cases m with
 |zero=>rw[hz]at hv;cases hv
 |succ m=>
  rw[hs]at hv
  refine awp_mono (round (L m) a0 hv) ?_
  intro e af' σ' h'
  cases e with
  |normal=>
   obtain⟨a0,h3,h4⟩:=h'
   exact⟨(m,a0),h3,Nat.lt_succ_self m,h4⟩
  |_=>exact h'
theorem zcb {α0 γ0:Type} {k:(α0->Option ρ)} {m:(α0->Option ρ)->Option ρ} (h:jn k m=some r) (I:α0->γ0->AF) (S:α0->γ0->Items)
  (h1: ∀k':(α0->Option ρ),m k'=some r->awp P E n x (den P E n (kI (λ af' σ'=> ∃a0 g0,k' a0=some r/\Sub E n af' σ' (I a0 g0) (S a0 g0))::ks)) af σ)
  (h2: ∀a0 g0,k a0=some r->awp P E n y (den P E n ks) (I a0 g0) (S a0 g0)):awp P E n (.seq x y) (den P E n ks) af σ:=by
 refine zan (λ a w hh=>wp_mono (h1 k h a w hh) ?_)
 rintro e a' w' ⟨af',σ',hh',h'⟩
 cases e with
 |normal=>
  obtain⟨a0,g0,h3,h4⟩:=h'
  exact⟨_,_,h4 _ _ hh',h2 a0 g0 h3⟩
 |_=>exact⟨af',σ',hh',h'⟩
theorem k_join2_0 {α0 α1:Type} {k:(α0->α1->Option ρ)} {m:(α0->α1->Option ρ)->Option ρ} (h:jn k m=some r) (I:α0->α1->AF) (S:α0->α1->Items)
  (h1: ∀k':(α0->α1->Option ρ),m k'=some r->awp P E n x (den P E n (kI (λ af' σ'=> ∃a0 a1,k' a0 a1=some r/\Sub E n af' σ' (I a0 a1) (S a0 a1))::ks)) af σ)
  (h2: ∀a0 a1,k a0 a1=some r->awp P E n y (den P E n ks) (I a0 a1) (S a0 a1)):awp P E n (.seq x y) (den P E n ks) af σ:=by
 refine zan (λ a w hh=>wp_mono (h1 k h a w hh) ?_)
 rintro e a' w' ⟨af',σ',hh',h'⟩
 cases e with
 |normal=>
  obtain⟨a0,a1,h3,h4⟩:=h'
  exact⟨_,_,h4 _ _ hh',h2 a0 a1 h3⟩
 |_=>exact⟨af',σ',hh',h'⟩
theorem zey {α0 α1:Type} (L:Nat->(α0->α1->Option ρ)) (B:(α0->α1->Option ρ)->(α0->α1->Option ρ)) (hz: ∀a0 a1,L 0 a0 a1=none) (hs: ∀m, ∀a0 a1,L (m+1) a0 a1=B (L m) a0 a1) {m0:Nat} {b0:α0} {b1:α1} (h:L m0 b0 b1=some r)
  (I:α0->α1->AF) (S:α0->α1->Items) (start:Sub E n af σ (I b0 b1) (S b0 b1))
  (round: ∀rec:(α0->α1->Option ρ), ∀a0 a1,B rec a0 a1=some r->awp P E n x (den P E n (kI (λ af' σ'=> ∃a0 a1,rec a0 a1=some r/\Sub E n af' σ' (I a0 a1) (S a0 a1))::ks)) (I a0 a1) (S a0 a1)):awp P E n (.loop x) (den P E n ks) af σ:=by
 refine awp_loop (α:=Nat×α0×α1) (λ v=>I v.2.1 v.2.2) (λ v=>S v.2.1 v.2.2) (λ v=>L v.1 v.2.1 v.2.2=some r) (λ v=>v.1) (m0,b0,b1) h start (λ v hv=> ?_)
 obtain⟨m,a0,a1⟩:=v
 dsimp only at hv⊢
 cases m with
 |zero=>rw[hz]at hv;cases hv
 |succ m=>
  rw[hs]at hv
  refine awp_mono (round (L m) a0 a1 hv) ?_
  intro e af' σ' h'
  cases e with
  |normal=>
   obtain⟨a0,a1,h3,h4⟩:=h'
   exact⟨(m,a0,a1),h3,Nat.lt_succ_self m,h4⟩
  |_=>exact h'
theorem k_join2_1 {α0 α1 γ0:Type} {k:(α0->α1->Option ρ)} {m:(α0->α1->Option ρ)->Option ρ} (h:jn k m=some r) (I:α0->α1->γ0->AF) (S:α0->α1->γ0->Items)
  (h1: ∀k':(α0->α1->Option ρ),m k'=some r->awp P E n x (den P E n (kI (λ af' σ'=> ∃a0 a1 g0,k' a0 a1=some r/\Sub E n af' σ' (I a0 a1 g0) (S a0 a1 g0))::ks)) af σ)
  (h2: ∀a0 a1 g0,k a0 a1=some r->awp P E n y (den P E n ks) (I a0 a1 g0) (S a0 a1 g0)):awp P E n (.seq x y) (den P E n ks) af σ:=by
 refine zan (λ a w hh=>wp_mono (h1 k h a w hh) ?_)
 rintro e a' w' ⟨af',σ',hh',h'⟩
 cases e with
 |normal=>
  obtain⟨a0,a1,g0,h3,h4⟩:=h'
  exact⟨_,_,h4 _ _ hh',h2 a0 a1 g0 h3⟩
 |_=>exact⟨af',σ',hh',h'⟩
theorem zcz {α0 α1 γ0:Type} (L:Nat->(α0->α1->Option ρ)) (B:(α0->α1->Option ρ)->(α0->α1->Option ρ)) (hz: ∀a0 a1,L 0 a0 a1=none) (hs: ∀m, ∀a0 a1,L (m+1) a0 a1=B (L m) a0 a1) {m0:Nat} {b0:α0} {b1:α1} (h:L m0 b0 b1=some r)
  (I:α0->α1->γ0->AF) (S:α0->α1->γ0->Items) (c0:γ0) (start:Sub E n af σ (I b0 b1 c0) (S b0 b1 c0))
  (round: ∀rec:(α0->α1->Option ρ), ∀a0 a1 g0,B rec a0 a1=some r->awp P E n x (den P E n (kI (λ af' σ'=> ∃a0 a1 g0,rec a0 a1=some r/\Sub E n af' σ' (I a0 a1 g0) (S a0 a1 g0))::ks)) (I a0 a1 g0) (S a0 a1 g0)):awp P E n (.loop x) (den P E n ks) af σ:=by
 refine awp_loop (α:=Nat×α0×α1×γ0) (λ v=>I v.2.1 v.2.2.1 v.2.2.2) (λ v=>S v.2.1 v.2.2.1 v.2.2.2) (λ v=>L v.1 v.2.1 v.2.2.1=some r) (λ v=>v.1) (m0,b0,b1,c0) h start (λ v hv=> ?_)
 obtain⟨m,a0,a1,g0⟩:=v
 dsimp only at hv⊢
 cases m with
 |zero=>rw[hz]at hv;cases hv
 |succ m=>
  rw[hs]at hv
  refine awp_mono (round (L m) a0 a1 g0 hv) ?_
  intro e af' σ' h'
  cases e with
  |normal=>
   obtain⟨a0,a1,g0,h3,h4⟩:=h'
   exact⟨(m,a0,a1,g0),h3,Nat.lt_succ_self m,h4⟩
  |_=>exact h'
theorem k_join2_2 {α0 α1 γ0 γ1:Type} {k:(α0->α1->Option ρ)} {m:(α0->α1->Option ρ)->Option ρ} (h:jn k m=some r) (I:α0->α1->γ0->γ1->AF) (S:α0->α1->γ0->γ1->Items)
  (h1: ∀k':(α0->α1->Option ρ),m k'=some r->awp P E n x (den P E n (kI (λ af' σ'=> ∃a0 a1 g0 g1,k' a0 a1=some r/\Sub E n af' σ' (I a0 a1 g0 g1) (S a0 a1 g0 g1))::ks)) af σ)
  (h2: ∀a0 a1 g0 g1,k a0 a1=some r->awp P E n y (den P E n ks) (I a0 a1 g0 g1) (S a0 a1 g0 g1)):awp P E n (.seq x y) (den P E n ks) af σ:=by
 refine zan (λ a w hh=>wp_mono (h1 k h a w hh) ?_)
 rintro e a' w' ⟨af',σ',hh',h'⟩
 cases e with
 |normal=>
  obtain⟨a0,a1,g0,g1,h3,h4⟩:=h'
  exact⟨_,_,h4 _ _ hh',h2 a0 a1 g0 g1 h3⟩
 |_=>exact⟨af',σ',hh',h'⟩
theorem k_join3_0 {α0 α1 α2:Type} {k:(α0->α1->α2->Option ρ)} {m:(α0->α1->α2->Option ρ)->Option ρ} (h:jn k m=some r) (I:α0->α1->α2->AF) (S:α0->α1->α2->Items)
  (h1: ∀k':(α0->α1->α2->Option ρ),m k'=some r->awp P E n x (den P E n (kI (λ af' σ'=> ∃a0 a1 a2,k' a0 a1 a2=some r/\Sub E n af' σ' (I a0 a1 a2) (S a0 a1 a2))::ks)) af σ)
  (h2: ∀a0 a1 a2,k a0 a1 a2=some r->awp P E n y (den P E n ks) (I a0 a1 a2) (S a0 a1 a2)):awp P E n (.seq x y) (den P E n ks) af σ:=by
 refine zan (λ a w hh=>wp_mono (h1 k h a w hh) ?_)
 rintro e a' w' ⟨af',σ',hh',h'⟩
 cases e with
 |normal=>
  obtain⟨a0,a1,a2,h3,h4⟩:=h'
  exact⟨_,_,h4 _ _ hh',h2 a0 a1 a2 h3⟩
 |_=>exact⟨af',σ',hh',h'⟩
theorem k_loop3_0 {α0 α1 α2:Type} (L:Nat->(α0->α1->α2->Option ρ)) (B:(α0->α1->α2->Option ρ)->(α0->α1->α2->Option ρ)) (hz: ∀a0 a1 a2,L 0 a0 a1 a2=none) (hs: ∀m, ∀a0 a1 a2,L (m+1) a0 a1 a2=B (L m) a0 a1 a2) {m0:Nat} {b0:α0} {b1:α1} {b2:α2} (h:L m0 b0 b1 b2=some r)
  (I:α0->α1->α2->AF) (S:α0->α1->α2->Items) (start:Sub E n af σ (I b0 b1 b2) (S b0 b1 b2))
  (round: ∀rec:(α0->α1->α2->Option ρ), ∀a0 a1 a2,B rec a0 a1 a2=some r->awp P E n x (den P E n (kI (λ af' σ'=> ∃a0 a1 a2,rec a0 a1 a2=some r/\Sub E n af' σ' (I a0 a1 a2) (S a0 a1 a2))::ks)) (I a0 a1 a2) (S a0 a1 a2)):awp P E n (.loop x) (den P E n ks) af σ:=by
 refine awp_loop (α:=Nat×α0×α1×α2) (λ v=>I v.2.1 v.2.2.1 v.2.2.2) (λ v=>S v.2.1 v.2.2.1 v.2.2.2) (λ v=>L v.1 v.2.1 v.2.2.1 v.2.2.2=some r) (λ v=>v.1) (m0,b0,b1,b2) h start (λ v hv=> ?_)
 obtain⟨m,a0,a1,a2⟩:=v
 dsimp only at hv⊢
 cases m with
 |zero=>rw[hz]at hv;cases hv
 |succ m=>
  rw[hs]at hv
  refine awp_mono (round (L m) a0 a1 a2 hv) ?_
  intro e af' σ' h'
  cases e with
  |normal=>
   obtain⟨a0,a1,a2,h3,h4⟩:=h'
   exact⟨(m,a0,a1,a2),h3,Nat.lt_succ_self m,h4⟩
  |_=>exact h'
theorem k_join3_1 {α0 α1 α2 γ0:Type} {k:(α0->α1->α2->Option ρ)} {m:(α0->α1->α2->Option ρ)->Option ρ} (h:jn k m=some r) (I:α0->α1->α2->γ0->AF) (S:α0->α1->α2->γ0->Items)
  (h1: ∀k':(α0->α1->α2->Option ρ),m k'=some r->awp P E n x (den P E n (kI (λ af' σ'=> ∃a0 a1 a2 g0,k' a0 a1 a2=some r/\Sub E n af' σ' (I a0 a1 a2 g0) (S a0 a1 a2 g0))::ks)) af σ)
  (h2: ∀a0 a1 a2 g0,k a0 a1 a2=some r->awp P E n y (den P E n ks) (I a0 a1 a2 g0) (S a0 a1 a2 g0)):awp P E n (.seq x y) (den P E n ks) af σ:=by
 refine zan (λ a w hh=>wp_mono (h1 k h a w hh) ?_)
 rintro e a' w' ⟨af',σ',hh',h'⟩
 cases e with
 |normal=>
  obtain⟨a0,a1,a2,g0,h3,h4⟩:=h'
  exact⟨_,_,h4 _ _ hh',h2 a0 a1 a2 g0 h3⟩
 |_=>exact⟨af',σ',hh',h'⟩
theorem k_loop3_1 {α0 α1 α2 γ0:Type} (L:Nat->(α0->α1->α2->Option ρ)) (B:(α0->α1->α2->Option ρ)->(α0->α1->α2->Option ρ)) (hz: ∀a0 a1 a2,L 0 a0 a1 a2=none) (hs: ∀m, ∀a0 a1 a2,L (m+1) a0 a1 a2=B (L m) a0 a1 a2) {m0:Nat} {b0:α0} {b1:α1} {b2:α2} (h:L m0 b0 b1 b2=some r)
  (I:α0->α1->α2->γ0->AF) (S:α0->α1->α2->γ0->Items) (c0:γ0) (start:Sub E n af σ (I b0 b1 b2 c0) (S b0 b1 b2 c0))
  (round: ∀rec:(α0->α1->α2->Option ρ), ∀a0 a1 a2 g0,B rec a0 a1 a2=some r->awp P E n x (den P E n (kI (λ af' σ'=> ∃a0 a1 a2 g0,rec a0 a1 a2=some r/\Sub E n af' σ' (I a0 a1 a2 g0) (S a0 a1 a2 g0))::ks)) (I a0 a1 a2 g0) (S a0 a1 a2 g0)):awp P E n (.loop x) (den P E n ks) af σ:=by
 refine awp_loop (α:=Nat×α0×α1×α2×γ0) (λ v=>I v.2.1 v.2.2.1 v.2.2.2.1 v.2.2.2.2) (λ v=>S v.2.1 v.2.2.1 v.2.2.2.1 v.2.2.2.2) (λ v=>L v.1 v.2.1 v.2.2.1 v.2.2.2.1=some r) (λ v=>v.1) (m0,b0,b1,b2,c0) h start (λ v hv=> ?_)
 obtain⟨m,a0,a1,a2,g0⟩:=v
 dsimp only at hv⊢
 cases m with
 |zero=>rw[hz]at hv;cases hv
 |succ m=>
  rw[hs]at hv
  refine awp_mono (round (L m) a0 a1 a2 g0 hv) ?_
  intro e af' σ' h'
  cases e with
  |normal=>
   obtain⟨a0,a1,a2,g0,h3,h4⟩:=h'
   exact⟨(m,a0,a1,a2,g0),h3,Nat.lt_succ_self m,h4⟩
  |_=>exact h'
theorem k_join3_2 {α0 α1 α2 γ0 γ1:Type} {k:(α0->α1->α2->Option ρ)} {m:(α0->α1->α2->Option ρ)->Option ρ} (h:jn k m=some r) (I:α0->α1->α2->γ0->γ1->AF) (S:α0->α1->α2->γ0->γ1->Items)
  (h1: ∀k':(α0->α1->α2->Option ρ),m k'=some r->awp P E n x (den P E n (kI (λ af' σ'=> ∃a0 a1 a2 g0 g1,k' a0 a1 a2=some r/\Sub E n af' σ' (I a0 a1 a2 g0 g1) (S a0 a1 a2 g0 g1))::ks)) af σ)
  (h2: ∀a0 a1 a2 g0 g1,k a0 a1 a2=some r->awp P E n y (den P E n ks) (I a0 a1 a2 g0 g1) (S a0 a1 a2 g0 g1)):awp P E n (.seq x y) (den P E n ks) af σ:=by
 refine zan (λ a w hh=>wp_mono (h1 k h a w hh) ?_)
 rintro e a' w' ⟨af',σ',hh',h'⟩
 cases e with
 |normal=>
  obtain⟨a0,a1,a2,g0,g1,h3,h4⟩:=h'
  exact⟨_,_,h4 _ _ hh',h2 a0 a1 a2 g0 g1 h3⟩
 |_=>exact⟨af',σ',hh',h'⟩
theorem k_loop3_2 {α0 α1 α2 γ0 γ1:Type} (L:Nat->(α0->α1->α2->Option ρ)) (B:(α0->α1->α2->Option ρ)->(α0->α1->α2->Option ρ)) (hz: ∀a0 a1 a2,L 0 a0 a1 a2=none) (hs: ∀m, ∀a0 a1 a2,L (m+1) a0 a1 a2=B (L m) a0 a1 a2) {m0:Nat} {b0:α0} {b1:α1} {b2:α2} (h:L m0 b0 b1 b2=some r)
  (I:α0->α1->α2->γ0->γ1->AF) (S:α0->α1->α2->γ0->γ1->Items) (c0:γ0) (c1:γ1) (start:Sub E n af σ (I b0 b1 b2 c0 c1) (S b0 b1 b2 c0 c1))
  (round: ∀rec:(α0->α1->α2->Option ρ), ∀a0 a1 a2 g0 g1,B rec a0 a1 a2=some r->awp P E n x (den P E n (kI (λ af' σ'=> ∃a0 a1 a2 g0 g1,rec a0 a1 a2=some r/\Sub E n af' σ' (I a0 a1 a2 g0 g1) (S a0 a1 a2 g0 g1))::ks)) (I a0 a1 a2 g0 g1) (S a0 a1 a2 g0 g1)):awp P E n (.loop x) (den P E n ks) af σ:=by
 refine awp_loop (α:=Nat×α0×α1×α2×γ0×γ1) (λ v=>I v.2.1 v.2.2.1 v.2.2.2.1 v.2.2.2.2.1 v.2.2.2.2.2) (λ v=>S v.2.1 v.2.2.1 v.2.2.2.1 v.2.2.2.2.1 v.2.2.2.2.2) (λ v=>L v.1 v.2.1 v.2.2.1 v.2.2.2.1=some r) (λ v=>v.1) (m0,b0,b1,b2,c0,c1) h start (λ v hv=> ?_)
 obtain⟨m,a0,a1,a2,g0,g1⟩:=v
 dsimp only at hv⊢
 cases m with
 |zero=>rw[hz]at hv;cases hv
 |succ m=>
  rw[hs]at hv
  refine awp_mono (round (L m) a0 a1 a2 g0 g1 hv) ?_
  intro e af' σ' h'
  cases e with
  |normal=>
   obtain⟨a0,a1,a2,g0,g1,h3,h4⟩:=h'
   exact⟨(m,a0,a1,a2,g0,g1),h3,Nat.lt_succ_self m,h4⟩
  |_=>exact h'
theorem k_loop4_0 {α0 α1 α2 α3:Type} (L:Nat->(α0->α1->α2->α3->Option ρ)) (B:(α0->α1->α2->α3->Option ρ)->(α0->α1->α2->α3->Option ρ)) (hz: ∀a0 a1 a2 a3,L 0 a0 a1 a2 a3=none) (hs: ∀m, ∀a0 a1 a2 a3,L (m+1) a0 a1 a2 a3=B (L m) a0 a1 a2 a3) {m0:Nat} {b0:α0} {b1:α1} {b2:α2} {b3:α3} (h:L m0 b0 b1 b2 b3=some r)
  (I:α0->α1->α2->α3->AF) (S:α0->α1->α2->α3->Items) (start:Sub E n af σ (I b0 b1 b2 b3) (S b0 b1 b2 b3))
  (round: ∀rec:(α0->α1->α2->α3->Option ρ), ∀a0 a1 a2 a3,B rec a0 a1 a2 a3=some r->awp P E n x (den P E n (kI (λ af' σ'=> ∃a0 a1 a2 a3,rec a0 a1 a2 a3=some r/\Sub E n af' σ' (I a0 a1 a2 a3) (S a0 a1 a2 a3))::ks)) (I a0 a1 a2 a3) (S a0 a1 a2 a3)):awp P E n (.loop x) (den P E n ks) af σ:=by
 refine awp_loop (α:=Nat×α0×α1×α2×α3) (λ v=>I v.2.1 v.2.2.1 v.2.2.2.1 v.2.2.2.2) (λ v=>S v.2.1 v.2.2.1 v.2.2.2.1 v.2.2.2.2) (λ v=>L v.1 v.2.1 v.2.2.1 v.2.2.2.1 v.2.2.2.2=some r) (λ v=>v.1) (m0,b0,b1,b2,b3) h start (λ v hv=> ?_)
 obtain⟨m,a0,a1,a2,a3⟩:=v
 dsimp only at hv⊢
 cases m with
 |zero=>rw[hz]at hv;cases hv
 |succ m=>
  rw[hs]at hv
  refine awp_mono (round (L m) a0 a1 a2 a3 hv) ?_
  intro e af' σ' h'
  cases e with
  |normal=>
   obtain⟨a0,a1,a2,a3,h3,h4⟩:=h'
   exact⟨(m,a0,a1,a2,a3),h3,Nat.lt_succ_self m,h4⟩
  |_=>exact h'
theorem k_loop4_1 {α0 α1 α2 α3 γ0:Type} (L:Nat->(α0->α1->α2->α3->Option ρ)) (B:(α0->α1->α2->α3->Option ρ)->(α0->α1->α2->α3->Option ρ)) (hz: ∀a0 a1 a2 a3,L 0 a0 a1 a2 a3=none) (hs: ∀m, ∀a0 a1 a2 a3,L (m+1) a0 a1 a2 a3=B (L m) a0 a1 a2 a3) {m0:Nat} {b0:α0} {b1:α1} {b2:α2} {b3:α3} (h:L m0 b0 b1 b2 b3=some r)
  (I:α0->α1->α2->α3->γ0->AF) (S:α0->α1->α2->α3->γ0->Items) (c0:γ0) (start:Sub E n af σ (I b0 b1 b2 b3 c0) (S b0 b1 b2 b3 c0))
  (round: ∀rec:(α0->α1->α2->α3->Option ρ), ∀a0 a1 a2 a3 g0,B rec a0 a1 a2 a3=some r->awp P E n x (den P E n (kI (λ af' σ'=> ∃a0 a1 a2 a3 g0,rec a0 a1 a2 a3=some r/\Sub E n af' σ' (I a0 a1 a2 a3 g0) (S a0 a1 a2 a3 g0))::ks)) (I a0 a1 a2 a3 g0) (S a0 a1 a2 a3 g0)):awp P E n (.loop x) (den P E n ks) af σ:=by
 refine awp_loop (α:=Nat×α0×α1×α2×α3×γ0) (λ v=>I v.2.1 v.2.2.1 v.2.2.2.1 v.2.2.2.2.1 v.2.2.2.2.2) (λ v=>S v.2.1 v.2.2.1 v.2.2.2.1 v.2.2.2.2.1 v.2.2.2.2.2) (λ v=>L v.1 v.2.1 v.2.2.1 v.2.2.2.1 v.2.2.2.2.1=some r) (λ v=>v.1) (m0,b0,b1,b2,b3,c0) h start (λ v hv=> ?_)
 obtain⟨m,a0,a1,a2,a3,g0⟩:=v
 dsimp only at hv⊢
 cases m with
 |zero=>rw[hz]at hv;cases hv
 |succ m=>
  rw[hs]at hv
  refine awp_mono (round (L m) a0 a1 a2 a3 g0 hv) ?_
  intro e af' σ' h'
  cases e with
  |normal=>
   obtain⟨a0,a1,a2,a3,g0,h3,h4⟩:=h'
   exact⟨(m,a0,a1,a2,a3,g0),h3,Nat.lt_succ_self m,h4⟩
  |_=>exact h'
theorem k_join4_2 {α0 α1 α2 α3 γ0 γ1:Type} {k:(α0->α1->α2->α3->Option ρ)} {m:(α0->α1->α2->α3->Option ρ)->Option ρ} (h:jn k m=some r) (I:α0->α1->α2->α3->γ0->γ1->AF) (S:α0->α1->α2->α3->γ0->γ1->Items)
  (h1: ∀k':(α0->α1->α2->α3->Option ρ),m k'=some r->awp P E n x (den P E n (kI (λ af' σ'=> ∃a0 a1 a2 a3 g0 g1,k' a0 a1 a2 a3=some r/\Sub E n af' σ' (I a0 a1 a2 a3 g0 g1) (S a0 a1 a2 a3 g0 g1))::ks)) af σ)
  (h2: ∀a0 a1 a2 a3 g0 g1,k a0 a1 a2 a3=some r->awp P E n y (den P E n ks) (I a0 a1 a2 a3 g0 g1) (S a0 a1 a2 a3 g0 g1)):awp P E n (.seq x y) (den P E n ks) af σ:=by
 refine zan (λ a w hh=>wp_mono (h1 k h a w hh) ?_)
 rintro e a' w' ⟨af',σ',hh',h'⟩
 cases e with
 |normal=>
  obtain⟨a0,a1,a2,a3,g0,g1,h3,h4⟩:=h'
  exact⟨_,_,h4 _ _ hh',h2 a0 a1 a2 a3 g0 g1 h3⟩
 |_=>exact⟨af',σ',hh',h'⟩
theorem k_loop4_2 {α0 α1 α2 α3 γ0 γ1:Type} (L:Nat->(α0->α1->α2->α3->Option ρ)) (B:(α0->α1->α2->α3->Option ρ)->(α0->α1->α2->α3->Option ρ)) (hz: ∀a0 a1 a2 a3,L 0 a0 a1 a2 a3=none) (hs: ∀m, ∀a0 a1 a2 a3,L (m+1) a0 a1 a2 a3=B (L m) a0 a1 a2 a3) {m0:Nat} {b0:α0} {b1:α1} {b2:α2} {b3:α3} (h:L m0 b0 b1 b2 b3=some r)
  (I:α0->α1->α2->α3->γ0->γ1->AF) (S:α0->α1->α2->α3->γ0->γ1->Items) (c0:γ0) (c1:γ1) (start:Sub E n af σ (I b0 b1 b2 b3 c0 c1) (S b0 b1 b2 b3 c0 c1))
  (round: ∀rec:(α0->α1->α2->α3->Option ρ), ∀a0 a1 a2 a3 g0 g1,B rec a0 a1 a2 a3=some r->awp P E n x (den P E n (kI (λ af' σ'=> ∃a0 a1 a2 a3 g0 g1,rec a0 a1 a2 a3=some r/\Sub E n af' σ' (I a0 a1 a2 a3 g0 g1) (S a0 a1 a2 a3 g0 g1))::ks)) (I a0 a1 a2 a3 g0 g1) (S a0 a1 a2 a3 g0 g1)):awp P E n (.loop x) (den P E n ks) af σ:=by
 refine awp_loop (α:=Nat×α0×α1×α2×α3×γ0×γ1) (λ v=>I v.2.1 v.2.2.1 v.2.2.2.1 v.2.2.2.2.1 v.2.2.2.2.2.1 v.2.2.2.2.2.2) (λ v=>S v.2.1 v.2.2.1 v.2.2.2.1 v.2.2.2.2.1 v.2.2.2.2.2.1 v.2.2.2.2.2.2) (λ v=>L v.1 v.2.1 v.2.2.1 v.2.2.2.1 v.2.2.2.2.1=some r) (λ v=>v.1) (m0,b0,b1,b2,b3,c0,c1) h start (λ v hv=> ?_)
 obtain⟨m,a0,a1,a2,a3,g0,g1⟩:=v
 dsimp only at hv⊢
 cases m with
 |zero=>rw[hz]at hv;cases hv
 |succ m=>
  rw[hs]at hv
  refine awp_mono (round (L m) a0 a1 a2 a3 g0 g1 hv) ?_
  intro e af' σ' h'
  cases e with
  |normal=>
   obtain⟨a0,a1,a2,a3,g0,g1,h3,h4⟩:=h'
   exact⟨(m,a0,a1,a2,a3,g0,g1),h3,Nat.lt_succ_self m,h4⟩
  |_=>exact h'
theorem k_loop5_2 {α0 α1 α2 α3 α4 γ0 γ1:Type} (L:Nat->(α0->α1->α2->α3->α4->Option ρ)) (B:(α0->α1->α2->α3->α4->Option ρ)->(α0->α1->α2->α3->α4->Option ρ)) (hz: ∀a0 a1 a2 a3 a4,L 0 a0 a1 a2 a3 a4=none) (hs: ∀m, ∀a0 a1 a2 a3 a4,L (m+1) a0 a1 a2 a3 a4=B (L m) a0 a1 a2 a3 a4) {m0:Nat} {b0:α0} {b1:α1} {b2:α2} {b3:α3} {b4:α4} (h:L m0 b0 b1 b2 b3 b4=some r)
  (I:α0->α1->α2->α3->α4->γ0->γ1->AF) (S:α0->α1->α2->α3->α4->γ0->γ1->Items) (c0:γ0) (c1:γ1) (start:Sub E n af σ (I b0 b1 b2 b3 b4 c0 c1) (S b0 b1 b2 b3 b4 c0 c1))
  (round: ∀rec:(α0->α1->α2->α3->α4->Option ρ), ∀a0 a1 a2 a3 a4 g0 g1,B rec a0 a1 a2 a3 a4=some r->awp P E n x (den P E n (kI (λ af' σ'=> ∃a0 a1 a2 a3 a4 g0 g1,rec a0 a1 a2 a3 a4=some r/\Sub E n af' σ' (I a0 a1 a2 a3 a4 g0 g1) (S a0 a1 a2 a3 a4 g0 g1))::ks)) (I a0 a1 a2 a3 a4 g0 g1) (S a0 a1 a2 a3 a4 g0 g1)):awp P E n (.loop x) (den P E n ks) af σ:=by
 refine awp_loop (α:=Nat×α0×α1×α2×α3×α4×γ0×γ1) (λ v=>I v.2.1 v.2.2.1 v.2.2.2.1 v.2.2.2.2.1 v.2.2.2.2.2.1 v.2.2.2.2.2.2.1 v.2.2.2.2.2.2.2) (λ v=>S v.2.1 v.2.2.1 v.2.2.2.1 v.2.2.2.2.1 v.2.2.2.2.2.1 v.2.2.2.2.2.2.1 v.2.2.2.2.2.2.2) (λ v=>L v.1 v.2.1 v.2.2.1 v.2.2.2.1 v.2.2.2.2.1 v.2.2.2.2.2.1=some r) (λ v=>v.1) (m0,b0,b1,b2,b3,b4,c0,c1) h start (λ v hv=> ?_)
 obtain⟨m,a0,a1,a2,a3,a4,g0,g1⟩:=v
 dsimp only at hv⊢
 cases m with
 |zero=>rw[hz]at hv;cases hv
 |succ m=>
  rw[hs]at hv
  refine awp_mono (round (L m) a0 a1 a2 a3 a4 g0 g1 hv) ?_
  intro e af' σ' h'
  cases e with
  |normal=>
   obtain⟨a0,a1,a2,a3,a4,g0,g1,h3,h4⟩:=h'
   exact⟨(m,a0,a1,a2,a3,a4,g0,g1),h3,Nat.lt_succ_self m,h4⟩
  |_=>exact h'
end
end
noncomputable section
open Go.RowKit
section
variable {P:Program} {ops:Array Oper} {E:Env} {N:Nat} {af:AF} {σ σ' ρ:Items} {F:BSet} {w w':World}
theorem own_perm (h:σ.Perm σ') (k:Nat):Items.own σ k↔Items.own σ' k:=(h.flatMap_right Item.own).mem_iff
theorem both_perm (h:σ.Perm σ') (k:Nat):both F (Items.own σ) k↔both F (Items.own σ') k:=or_congr Iff.rfl (own_perm h k)
theorem Good.perm (h:σ.Perm σ') (hg:Good F σ w):Good F σ' w:=
 ⟨hg.fr,λ k hk=>hg.own k ((own_perm h k).2 hk),((h.flatMap_right Item.own).nodup_iff).1 hg.nodup,λ it hi=>it.keep (Keeps.refl _ _) (λ k _ hk=>(both_perm h k).2 hk) (hg.items it (h.mem_iff.2 hi))⟩
theorem SubU.perm (h:σ.Perm σ'):SubU af σ af σ':=λ E n a w hh=>
 ⟨hh.tmps,hh.defers,hh.kept,λ k hk hlt=>hh.old k ((own_perm h k).2 hk) hlt,hh.good.perm h,λ t=>(af t).keep (Keeps.refl _ _) (λ k _ hk=>(both_perm h k).2 hk) (hh.fits t)⟩
theorem Loud.perm {o:Oper} {post:AV->Items->Prop} (h:σ.Perm σ') (hl:Loud P o af σ' post):Loud P o af σ post:=by
 intro F w ev hg hx
 have h1:=hl F w ev (hg.perm h) (λ x hx'=>(af.ev x).keep (Keeps.refl _ _) (λ k _ hk=>(both_perm h k).2 hk) (hx x hx'))
 have out: ∀{v w'},Out F σ' w post v w'->Out F σ w post v w':=λ⟨av,s,a1,a2,a3,a4,a5⟩=>⟨av,s,a1,a2,a3.mono (λ k _ hk=>(own_perm h k).2 hk),λ k hk hlt=>(own_perm h k).2 (a4 k hk hlt),a5⟩
 generalize(execOp ev o).run P w=r at h1
 cases r with
 |ok n w'=>
  cases n <;>simp only[Upon]at h1⊢ <;>try exact h1.elim
  case value v=>exact out h1
  case skip=>exact out h1
  case enter f args=>exact h1.mono λ e w'' ⟨v,he,ho⟩=>⟨v,he,out ho⟩
  case row r args=>exact h1.mono λ v w'' ho=>out ho
 |halt x w'=>exact h1.elim
theorem Reads.perm {o:Oper} {av:AV} (h:σ.Perm σ') (hl:Reads P o af σ' av):Reads P o af σ av:=by
 intro F w ev hg hx
 have h1:=hl F w ev (hg.perm h) (λ x hx'=>(af.ev x).keep (Keeps.refl _ _) (λ k _ hk=>(both_perm h k).2 hk) (hx x hx'))
 have out: ∀{v w'},av.p (both F (Items.own σ')) w' v->av.p (both F (Items.own σ)) w' v:=λ hp=>av.keep (Keeps.refl _ _) (λ k _ hk=>(both_perm h k).1 hk) hp
 generalize(execOp ev o).run P w=r at h1
 cases r with
 |ok n w'=>
  cases n <;>simp only[UponQ]at h1⊢ <;>try exact h1.elim
  case value v=>exact⟨h1.1,out h1.2⟩
  case skip=>exact⟨h1.1,out h1.2⟩
  case enter f args=>exact h1.mono λ e w'' ⟨v,he,hk,ho⟩=>⟨v,he,hk,out ho⟩
  case row r args=>exact h1.mono λ v w'' ⟨hk,ho⟩=>⟨hk,out ho⟩
 |halt x w'=>exact h1.elim
theorem opB_perm {o:Oper} {K:AF->Items->Prop} (h:σ.Perm σ') (hb:opB P o af σ' K):opB P o af σ K:=by
 obtain⟨post,h1,h2⟩:=hb
 exact⟨post,h1.perm h,h2⟩
theorem opR_perm {o:Oper} {K:AF->Prop} (h:σ.Perm σ') (hb:opR P o af σ' K):opR P o af σ K:=by
 obtain⟨av,h1,h2⟩:=hb
 exact⟨av,h1.perm h,h2⟩
theorem fr1 (a0 a1:Item) (ρ:Items):(a0::a1::ρ).Perm (a1::a0::ρ):=by
 exact List.Perm.swap _ _ _
theorem opB_f1 {a0 a1:Item} {o:Oper} {K:AF->Items->Prop} (h:opB P o af (a1::a0::ρ) K):opB P o af (a0::a1::ρ) K:=opB_perm (fr1 ..) h
theorem opR_f1 {a0 a1:Item} {o:Oper} {K:AF->Prop} (h:opR P o af (a1::a0::ρ) K):opR P o af (a0::a1::ρ) K:=opR_perm (fr1 ..) h
theorem SubU.f1 {a0 a1:Item}:SubU af (a0::a1::ρ) af (a1::a0::ρ):=SubU.perm (fr1 ..)
theorem fr2 (a0 a1 a2:Item) (ρ:Items):(a0::a1::a2::ρ).Perm (a2::a0::a1::ρ):=by
 exact((fr1 a1 a2 ρ).cons a0).trans (List.Perm.swap _ _ _)
theorem opB_f2 {a0 a1 a2:Item} {o:Oper} {K:AF->Items->Prop} (h:opB P o af (a2::a0::a1::ρ) K):opB P o af (a0::a1::a2::ρ) K:=opB_perm (fr2 ..) h
theorem opR_f2 {a0 a1 a2:Item} {o:Oper} {K:AF->Prop} (h:opR P o af (a2::a0::a1::ρ) K):opR P o af (a0::a1::a2::ρ) K:=opR_perm (fr2 ..) h
theorem SubU.f2 {a0 a1 a2:Item}:SubU af (a0::a1::a2::ρ) af (a2::a0::a1::ρ):=SubU.perm (fr2 ..)
theorem fr3 (a0 a1 a2 a3:Item) (ρ:Items):(a0::a1::a2::a3::ρ).Perm (a3::a0::a1::a2::ρ):=by
 exact((fr2 a1 a2 a3 ρ).cons a0).trans (List.Perm.swap _ _ _)
theorem opB_f3 {a0 a1 a2 a3:Item} {o:Oper} {K:AF->Items->Prop} (h:opB P o af (a3::a0::a1::a2::ρ) K):opB P o af (a0::a1::a2::a3::ρ) K:=opB_perm (fr3 ..) h
theorem opR_f3 {a0 a1 a2 a3:Item} {o:Oper} {K:AF->Prop} (h:opR P o af (a3::a0::a1::a2::ρ) K):opR P o af (a0::a1::a2::a3::ρ) K:=opR_perm (fr3 ..) h
theorem SubU.f3 {a0 a1 a2 a3:Item}:SubU af (a0::a1::a2::a3::ρ) af (a3::a0::a1::a2::ρ):=SubU.perm (fr3 ..)
theorem fr4 (a0 a1 a2 a3 a4:Item) (ρ:Items):(a0::a1::a2::a3::a4::ρ).Perm (a4::a0::a1::a2::a3::ρ):=by
 exact((fr3 a1 a2 a3 a4 ρ).cons a0).trans (List.Perm.swap _ _ _)
theorem opB_f4 {a0 a1 a2 a3 a4:Item} {o:Oper} {K:AF->Items->Prop} (h:opB P o af (a4::a0::a1::a2::a3::ρ) K):opB P o af (a0::a1::a2::a3::a4::ρ) K:=opB_perm (fr4 ..) h
theorem opR_f4 {a0 a1 a2 a3 a4:Item} {o:Oper} {K:AF->Prop} (h:opR P o af (a4::a0::a1::a2::a3::ρ) K):opR P o af (a0::a1::a2::a3::a4::ρ) K:=opR_perm (fr4 ..) h
theorem SubU.f4 {a0 a1 a2 a3 a4:Item}:SubU af (a0::a1::a2::a3::a4::ρ) af (a4::a0::a1::a2::a3::ρ):=SubU.perm (fr4 ..)
theorem fr5 (a0 a1 a2 a3 a4 a5:Item) (ρ:Items):(a0::a1::a2::a3::a4::a5::ρ).Perm (a5::a0::a1::a2::a3::a4::ρ):=by
 exact((fr4 a1 a2 a3 a4 a5 ρ).cons a0).trans (List.Perm.swap _ _ _)
theorem opB_f5 {a0 a1 a2 a3 a4 a5:Item} {o:Oper} {K:AF->Items->Prop} (h:opB P o af (a5::a0::a1::a2::a3::a4::ρ) K):opB P o af (a0::a1::a2::a3::a4::a5::ρ) K:=opB_perm (fr5 ..) h
theorem opR_f5 {a0 a1 a2 a3 a4 a5:Item} {o:Oper} {K:AF->Prop} (h:opR P o af (a5::a0::a1::a2::a3::a4::ρ) K):opR P o af (a0::a1::a2::a3::a4::a5::ρ) K:=opR_perm (fr5 ..) h
theorem SubU.f5 {a0 a1 a2 a3 a4 a5:Item}:SubU af (a0::a1::a2::a3::a4::a5::ρ) af (a5::a0::a1::a2::a3::a4::ρ):=SubU.perm (fr5 ..)
theorem fr6 (a0 a1 a2 a3 a4 a5 a6:Item) (ρ:Items):(a0::a1::a2::a3::a4::a5::a6::ρ).Perm (a6::a0::a1::a2::a3::a4::a5::ρ):=by
 exact((fr5 a1 a2 a3 a4 a5 a6 ρ).cons a0).trans (List.Perm.swap _ _ _)
theorem opB_f6 {a0 a1 a2 a3 a4 a5 a6:Item} {o:Oper} {K:AF->Items->Prop} (h:opB P o af (a6::a0::a1::a2::a3::a4::a5::ρ) K):opB P o af (a0::a1::a2::a3::a4::a5::a6::ρ) K:=opB_perm (fr6 ..) h
theorem opR_f6 {a0 a1 a2 a3 a4 a5 a6:Item} {o:Oper} {K:AF->Prop} (h:opR P o af (a6::a0::a1::a2::a3::a4::a5::ρ) K):opR P o af (a0::a1::a2::a3::a4::a5::a6::ρ) K:=opR_perm (fr6 ..) h
theorem SubU.f6 {a0 a1 a2 a3 a4 a5 a6:Item}:SubU af (a0::a1::a2::a3::a4::a5::a6::ρ) af (a6::a0::a1::a2::a3::a4::a5::ρ):=SubU.perm (fr6 ..)
theorem fr7 (a0 a1 a2 a3 a4 a5 a6 a7:Item) (ρ:Items):(a0::a1::a2::a3::a4::a5::a6::a7::ρ).Perm (a7::a0::a1::a2::a3::a4::a5::a6::ρ):=by
 exact((fr6 a1 a2 a3 a4 a5 a6 a7 ρ).cons a0).trans (List.Perm.swap _ _ _)
theorem opB_f7 {a0 a1 a2 a3 a4 a5 a6 a7:Item} {o:Oper} {K:AF->Items->Prop} (h:opB P o af (a7::a0::a1::a2::a3::a4::a5::a6::ρ) K):opB P o af (a0::a1::a2::a3::a4::a5::a6::a7::ρ) K:=opB_perm (fr7 ..) h
theorem opR_f7 {a0 a1 a2 a3 a4 a5 a6 a7:Item} {o:Oper} {K:AF->Prop} (h:opR P o af (a7::a0::a1::a2::a3::a4::a5::a6::ρ) K):opR P o af (a0::a1::a2::a3::a4::a5::a6::a7::ρ) K:=opR_perm (fr7 ..) h
theorem SubU.f7 {a0 a1 a2 a3 a4 a5 a6 a7:Item}:SubU af (a0::a1::a2::a3::a4::a5::a6::a7::ρ) af (a7::a0::a1::a2::a3::a4::a5::a6::ρ):=SubU.perm (fr7 ..)
theorem fr8 (a0 a1 a2 a3 a4 a5 a6 a7 a8:Item) (ρ:Items):(a0::a1::a2::a3::a4::a5::a6::a7::a8::ρ).Perm (a8::a0::a1::a2::a3::a4::a5::a6::a7::ρ):=by
 exact((fr7 a1 a2 a3 a4 a5 a6 a7 a8 ρ).cons a0).trans (List.Perm.swap _ _ _)
theorem opR_f8 {a0 a1 a2 a3 a4 a5 a6 a7 a8:Item} {o:Oper} {K:AF->Prop} (h:opR P o af (a8::a0::a1::a2::a3::a4::a5::a6::a7::ρ) K):opR P o af (a0::a1::a2::a3::a4::a5::a6::a7::a8::ρ) K:=opR_perm (fr8 ..) h
theorem SubU.f8 {a0 a1 a2 a3 a4 a5 a6 a7 a8:Item}:SubU af (a0::a1::a2::a3::a4::a5::a6::a7::a8::ρ) af (a8::a0::a1::a2::a3::a4::a5::a6::a7::ρ):=SubU.perm (fr8 ..)
theorem fr9 (a0 a1 a2 a3 a4 a5 a6 a7 a8 a9:Item) (ρ:Items):(a0::a1::a2::a3::a4::a5::a6::a7::a8::a9::ρ).Perm (a9::a0::a1::a2::a3::a4::a5::a6::a7::a8::ρ):=by
 exact((fr8 a1 a2 a3 a4 a5 a6 a7 a8 a9 ρ).cons a0).trans (List.Perm.swap _ _ _)
theorem fr10 (a0 a1 a2 a3 a4 a5 a6 a7 a8 a9 a10:Item) (ρ:Items):(a0::a1::a2::a3::a4::a5::a6::a7::a8::a9::a10::ρ).Perm (a10::a0::a1::a2::a3::a4::a5::a6::a7::a8::a9::ρ):=by
 exact((fr9 a1 a2 a3 a4 a5 a6 a7 a8 a9 a10 ρ).cons a0).trans (List.Perm.swap _ _ _)
theorem SubU.f10 {a0 a1 a2 a3 a4 a5 a6 a7 a8 a9 a10:Item}:SubU af (a0::a1::a2::a3::a4::a5::a6::a7::a8::a9::a10::ρ) af (a10::a0::a1::a2::a3::a4::a5::a6::a7::a8::a9::ρ):=SubU.perm (fr10 ..)
theorem fr11 (a0 a1 a2 a3 a4 a5 a6 a7 a8 a9 a10 a11:Item) (ρ:Items):(a0::a1::a2::a3::a4::a5::a6::a7::a8::a9::a10::a11::ρ).Perm (a11::a0::a1::a2::a3::a4::a5::a6::a7::a8::a9::a10::ρ):=by
 exact((fr10 a1 a2 a3 a4 a5 a6 a7 a8 a9 a10 a11 ρ).cons a0).trans (List.Perm.swap _ _ _)
theorem SubU.f11 {a0 a1 a2 a3 a4 a5 a6 a7 a8 a9 a10 a11:Item}:SubU af (a0::a1::a2::a3::a4::a5::a6::a7::a8::a9::a10::a11::ρ) af (a11::a0::a1::a2::a3::a4::a5::a6::a7::a8::a9::a10::ρ):=SubU.perm (fr11 ..)
theorem fr12 (a0 a1 a2 a3 a4 a5 a6 a7 a8 a9 a10 a11 a12:Item) (ρ:Items):(a0::a1::a2::a3::a4::a5::a6::a7::a8::a9::a10::a11::a12::ρ).Perm (a12::a0::a1::a2::a3::a4::a5::a6::a7::a8::a9::a10::a11::ρ):=by
 exact((fr11 a1 a2 a3 a4 a5 a6 a7 a8 a9 a10 a11 a12 ρ).cons a0).trans (List.Perm.swap _ _ _)
theorem SubU.f12 {a0 a1 a2 a3 a4 a5 a6 a7 a8 a9 a10 a11 a12:Item}:SubU af (a0::a1::a2::a3::a4::a5::a6::a7::a8::a9::a10::a11::a12::ρ) af (a12::a0::a1::a2::a3::a4::a5::a6::a7::a8::a9::a10::a11::ρ):=SubU.perm (fr12 ..)
theorem SubU.to {af':AF} {n:Nat} (h:SubU af σ af' σ'):Sub E n af σ af' σ':=h E n
theorem SubU.of_le {af':AF} (h:AF.le af af'):SubU af σ af' σ:=λ _ _=>Sub.of_le h
theorem SubU.trans {a b c:AF} {s1 s2 s3:Items} (h:SubU a s1 b s2) (h':SubU b s2 c s3):SubU a s1 c s3:=λ E n x w hh=>h' E n x w (h E n x w hh)
theorem SubU.refl:SubU af σ af σ:=λ _ _ _ _ hh=>hh
theorem SubU.drop {it:Item}:SubU af (it::σ) af σ:=by
 intro E n a w hh
 have hM: ∀k,k<w.heap.size->both E.F (Items.own σ) k->both E.F (Items.own (it::σ)) k:=λ k _ h=>h.imp id (λ h=>zch.2 (.inr h))
 have hnd:=hh.good.nodup
 rw[List.flatMap_cons,List.nodup_append]at hnd
 exact⟨hh.tmps,hh.defers,hh.kept,λ k h hlt=>hh.old k (zch.2 (.inr h)) hlt,⟨hh.good.fr,λ k h=>hh.good.own k (zch.2 (.inr h)),hnd.2.1,λ x hi=>x.keep (Keeps.refl _ _) hM (hh.good.items x (List.mem_cons_of_mem _ hi))⟩,λ t=>(af t).keep (Keeps.refl _ _) hM (hh.fits t)⟩
def boxI (t:TypeId) (b:Nat) (c:List AV):Item where
 own:=[b]
 p:=λ M w=> ∃vs:List Value,w.heap[b]?=some (.cells vs.toArray t (0,0))/\Fit M w c vs
 keep:=λ {M M' w w'} hk hm ⟨vs,h1,h2⟩=>by
  refine⟨vs, ?_,h2.keep (hk.mono (λ k _ h=>h.1)) hm⟩
  rw[hk.block b (Array.getElem?_eq_some_iff.1 h1).1 (λ h=>h.2 (by simp))]
  exact h1
abbrev pA (b o:Nat):AV:= .exact (.pointer (some ⟨b,o,none⟩))
theorem Fit.drop {M:BSet}: ∀{l:List AV} {vs:List Value} (i:Nat),Fit M w l vs->Fit M w (l.drop i) (vs.drop i)
 |[],[],_,_=>by simp;trivial
 |_::_,_::_,0,h=>h
 |_::l,_::vs,i+1,h=>by simpa using Fit.drop i h.2
theorem Fit.take {M:BSet}: ∀{l:List AV} {vs:List Value} (i:Nat),Fit M w l vs->Fit M w (l.take i) (vs.take i)
 |[],[],_,_=>by simp;trivial
 |_::_,_::_,0,_=>trivial
 |_::l,_::vs,i+1,h=>⟨h.1,Fit.take i h.2⟩
variable {d:Option Tmp} {ty:TypeId} {pos:String} {after:Array Edge} {g:Option (Nat×Bool)} {t e:TypeId} {x y:Operand}
theorem fit_exact {M:BSet}: ∀(vs:List Value),Fit M w (vs.map AV.exact) vs
 |[]=>trivial
 |_::vs=>⟨rfl,fit_exact vs⟩
theorem good_new {it:Item} {o:Obj} (hg:Good F σ w) (ho:it.own=[w.heap.size]) (hp:it.p (both F (Items.own (it::σ))) (w.alloc o)):Good F (it::σ) (w.alloc o)/\Keeps noB w (w.alloc o):=by
 have hk0:Keeps noB w (w.alloc o):=⟨rfl,rfl,rfl,Nat.le_refl _,by simp,λ k hlt _=>heap_alloc_old w _ hlt⟩
 refine⟨⟨λ k h=>Nat.lt_of_lt_of_le (hg.fr k h) hk0.size,λ k h=> ?_, ?_,λ x hx=> ?_⟩,hk0⟩
 .rcases zch.1 h with h|h
  .rw[ho]at h
   obtain rfl:k=w.heap.size:=by simpa using h
   exact⟨by simp,λ hF=>Nat.lt_irrefl _ (hg.fr _ hF)⟩
  .exact⟨Nat.lt_of_lt_of_le (hg.own k h).1 hk0.size,(hg.own k h).2⟩
 .rw[List.flatMap_cons,List.nodup_append]
  refine⟨by rw[ho];simp,hg.nodup,λ a ha b hb hab=> ?_⟩
  subst hab
  rw[ho]at ha
  obtain rfl:a=w.heap.size:=by simpa using ha
  exact Nat.lt_irrefl _ (hg.own _ hb).1
 .rcases List.mem_cons.1 hx with rfl|hx
  .exact hp
  .refine x.keep (hk0.mono (λ k _ h=>h.elim)) (λ k hlt hk=> ?_) (hg.items x hx)
   refine hk.imp id (λ hk=> ?_)
   rcases zch.1 hk with hk|hk
   .rw[ho]at hk
    obtain rfl:k=w.heap.size:=by simpa using hk
    exact absurd hlt (Nat.lt_irrefl _)
   .exact hk
theorem out_new {it:Item} {o:Obj} {post:AV->Items->Prop} {v:Value} {av:AV} (hg:Good F σ w) (ho:it.own=[w.heap.size]) (hp: ∀M,(∀k,k<w.heap.size->M k->both F (Items.own σ) k)->it.p M (w.alloc o)) (hav: ∀M,av.p M (w.alloc o) v) (hpost:post av (it::σ)):Out F σ w post v (w.alloc o):=by
 obtain⟨h1,h2⟩:=good_new (o:=o) hg ho (hp _ (λ k hlt hk=>by
  refine hk.imp id (λ hk=> ?_)
  rcases zch.1 hk with hk|hk
  .rw[ho]at hk
   obtain rfl:k=w.heap.size:=by simpa using hk
   exact absurd hlt (Nat.lt_irrefl _)
  .exact hk))
 refine⟨av,it::σ,hpost,h1,h2.mono (λ k _ h=>h.elim),λ k hk hlt=> ?_,hav _⟩
 rcases zch.1 hk with hk|hk
 .rw[ho]at hk
  obtain rfl:k=w.heap.size:=by simpa using hk
  exact absurd hlt (Nat.lt_irrefl _)
 .exact hk
theorem loud_alloc {z:Value} {c:List AV} (hz:(P.info? t).bind (·.zero)=some z) (hc:LEs (z.cells.toList.map AV.exact) c):
  Loud P ⟨d, .alloc t,ty,pos,after,g⟩ af σ (λ a s=> ∃b,a=pA b 0/\s=boxI t b c::σ):=by
 intro F w ev hg h
 have hrun:(execOp ev ⟨d, .alloc t,ty,pos,after,g⟩).run P w= .ok (.value (.pointer (some ⟨w.heap.size,0,none⟩))) (w.alloc (.cells z.cells t)):=by
  unfold execOp Instr.alloc
  simp only[Sem.run_bind,run_zero hz,Result.andThen_ok]
  simp[newVar,newRow,go_sem]
 rw[hrun]
 have hb:(w.alloc (.cells z.cells t)).heap[w.heap.size]?=some (.cells z.cells t (0,0)):=heap_alloc_new w _
 exact out_new (it:=boxI t w.heap.size c) hg rfl (λ M hM=>⟨z.cells.toList,by simpa using hb,LE_fit hc (fit_exact _)⟩) (λ M=>rfl) ⟨_,rfl,rfl⟩
theorem zel {z:Value} {K:AF->Items->Prop} {c:List AV} (hz:(P.info? t).bind (·.zero)=some z) (hc:LEs (z.cells.toList.map AV.exact) c) (hk: ∀b,K (af.put d (pA b 0)) (boxI t b c::σ)):opB P ⟨d, .alloc t,ty,pos,after,g⟩ af σ K:=
 ⟨_,loud_alloc hz hc,λ av s ⟨b,e1,e2⟩=>by subst e1 e2;exact hk b⟩
theorem loud_box {a:AV} {c c':List AV} (hx:af.ev x=a) (hc:CellsOf a c') (hl:LEs c' c):Loud P ⟨d, .box t x,ty,pos,after,g⟩ af σ (λ a s=> ∃b,a=pA b 0/\s=boxI t b c::σ):=by
 intro F w ev hg h
 obtain⟨vs,h1,h2⟩:=hc _ w _ (zgw h (x:=x) (by simp[Op.operands]) hx)
 have hrun:(execOp ev ⟨d, .box t x,ty,pos,after,g⟩).run P w= .ok (.value (.pointer (some ⟨w.heap.size,0,none⟩))) (w.alloc (.cells (ev x).cells t)):=by
  simp[execOp,Instr.box,newVar,newRow,go_sem]
 rw[hrun,h1]
 have hb:(w.alloc (.cells vs.toArray t)).heap[w.heap.size]?=some (.cells vs.toArray t (0,0)):=heap_alloc_new w _
 refine out_new (it:=boxI t w.heap.size c) hg rfl (λ M hM=>⟨vs,hb,LE_fit hl (h2.keep (w:=w) ?_ hM)⟩) (λ M=>rfl) ⟨_,rfl,rfl⟩
 exact⟨rfl,rfl,rfl,Nat.le_refl _,by simp,λ k hlt _=>heap_alloc_old w _ hlt⟩
theorem op_boxI {a:AV} {c c':List AV} {K:AF->Items->Prop} (hx:af.ev x=a) (hc:CellsOf a c') (hl:LEs c' c) (hk: ∀b,K (af.put d (pA b 0)) (boxI t b c::σ)):opB P ⟨d, .box t x,ty,pos,after,g⟩ af σ K:=
 ⟨_,loud_box hx hc hl,λ av s ⟨b,e1,e2⟩=>by subst e1 e2;exact hk b⟩
theorem addr_at (b off j:Nat):(⟨b,off,none⟩:Addr).add j=⟨b,off+j,none⟩:=addr_add' b off j
theorem zes {b o:Nat} {K:AF->Prop} (hx:af.ev x=pA b o) (hk:K (af.put d (pA b o))):opA P ⟨d, .nilCheck x,ty,pos,after,g⟩ af K:=by
 refine⟨_,λ M w ev _ h=> ?_,hk⟩
 have e1:=opnd h (x:=x) (by simp[Op.operands]) hx
 simp[execOp,e1,go_sem,UponQ]
 exact⟨Keeps.refl _ _,rfl⟩
def fieldB (P:Program) (t:TypeId) (f o:Nat):Bool:=match P.underlying t with
 |some (.struct fs)=>match fs[f]? with
  |some fd=>fd.offset ==o && (match P.info? fd.type with|some i=>i.size !=0|none=>false)
  |none=>false
 |_=>false
theorem fieldB_spec {f o:Nat} (h:fieldB P t f o=true): ∃fs fd n,P.underlying t=some (.struct fs)/\fs[f]?=some fd/\fd.offset=o/\(P.info? fd.type).map (·.size)=some n/\n≠0:=by
 unfold fieldB at h
 split at h
 .rename_i fs hu
  split at h
  .rename_i fd hf
   simp only[Bool.and_eq_true,beq_iff_eq]at h
   obtain⟨h1,h2⟩:=h
   split at h2
   .rename_i i hi;exact⟨fs,fd,i.size,hu,hf,h1,by simp[hi],by simpa using h2⟩
   .cases h2
  .cases h
 .cases h
theorem run_fieldAt {f o b o0:Nat} {w:World} (hB:fieldB P t f o=true):(Instr.fieldAt t (.pointer (some ⟨b,o0,none⟩)) f).run P w= .ok (.pointer (some ⟨b,o0+o,none⟩)) w:=by
 obtain⟨fs,fd,n,hu,hf,ho,hs,hn⟩:=fieldB_spec hB
 unfold Instr.fieldAt
 simp only[Sem.run_bind,zdq hu,Result.andThen_ok,hf,Instr.sureAddr,Sem.run_pure,fieldPlace,run_size hs,if_neg hn,addr_at,ho]
theorem zba {f o b o0:Nat} {K:AF->Prop} (hB:fieldB P t f o=true) (hx:af.ev x=pA b o0) (hk:K (af.put d (pA b (o0+o)))):opA P ⟨d, .fieldAddr t x f,ty,pos,after,g⟩ af K:=by
 refine⟨_,λ M w ev _ h=> ?_,hk⟩
 have e1:=opnd h (x:=x) (by simp[Op.operands]) hx
 have hr:(execOp ev ⟨d, .fieldAddr t x f,ty,pos,after,g⟩).run P w= .ok (.value (.pointer (some ⟨b,o0+o,none⟩))) w:=by
  unfold execOp
  simp only[e1,Sem.run_bind,run_fieldAt hB,Result.andThen_ok,Sem.run_pure]
 rw[hr]
 exact⟨Keeps.refl _ _,rfl⟩
theorem zaj {f o:Nat} {c c':List AV} {K:AF->Prop} (hB:fieldB P t f o=true) (hx:af.ev x= .ptr c) (hc:c.drop o=c') (hk:K (af.put d (.ptr c'))):opA P ⟨d, .fieldAddr t x f,ty,pos,after,g⟩ af K:=by
 subst hc
 refine⟨_,λ M w ev _ h=> ?_,hk⟩
 obtain⟨b,o0,e1,hb,hn,hc⟩:=zgw h (x:=x) (by simp[Op.operands]) hx
 have hr:(execOp ev ⟨d, .fieldAddr t x f,ty,pos,after,g⟩).run P w= .ok (.value (.pointer (some ⟨b,o0+o,none⟩))) w:=by
  unfold execOp
  simp only[e1,Sem.run_bind,run_fieldAt hB,Result.andThen_ok,Sem.run_pure]
 rw[hr]
 exact⟨Keeps.refl _ _,b,o0+o,rfl,hb,hn,hc.sub (λ j a hj=>by rwa [List.getElem?_drop]at hj)⟩
def arrIdxB (P:Program) (t:TypeId) (m n:Nat):Bool:=match P.underlying t with
 |some (.array k e)=>k ==m && sizeB P e n
 |_=>false
theorem run_indexArr {m n b o0:Nat} {k:IntKind} {i:Int} {w:World} (hB:arrIdxB P t m n=true) (h0:0≤i) (h1:i<m):(Instr.indexAt t (.pointer (some ⟨b,o0,none⟩)) (.int k i)).run P w= .ok (.pointer (some ⟨b,o0+i.toNat*n,none⟩)) w:=by
 unfold arrIdxB at hB
 split at hB
 .rename_i kk e hu
  simp only[Bool.and_eq_true,beq_iff_eq]at hB
  obtain⟨rfl,hs⟩:=hB
  simp[Instr.indexAt,asIntOf,zdq hu,Instr.sureAddr,h0,h1,run_size (sizeB_spec hs),addr_at,go_sem]
 .cases hB
theorem op_indexArr {m n b o0:Nat} {k:IntKind} {i:Int} {K:AF->Prop} (hB:arrIdxB P t m n=true) (hx:af.ev x=pA b o0) (hy:af.ev y= .exact (.int k i)) (h0:0≤i) (h1:i<m) (hk:K (af.put d (pA b (o0+i.toNat*n)))):opA P ⟨d, .indexAddr t x y,ty,pos,after,g⟩ af K:=by
 refine⟨_,λ M w ev _ h=> ?_,hk⟩
 have e1:=opnd h (x:=x) (by simp[Op.operands]) hx
 have e2:=opnd h (x:=y) (by simp[Op.operands]) hy
 have hr:(execOp ev ⟨d, .indexAddr t x y,ty,pos,after,g⟩).run P w= .ok (.value (.pointer (some ⟨b,o0+i.toNat*n,none⟩))) w:=by
  unfold execOp
  simp only[e1,e2,Sem.run_bind,run_indexArr hB h0 h1,Result.andThen_ok,Sem.run_pure]
 rw[hr]
 exact⟨Keeps.refl _ _,rfl⟩
theorem run_load1 {w:World} {b o:Nat} {u:Value} (hB:loadB P t false 1=true) (h:w.cell? ⟨b,o,none⟩=some u):(Instr.loadAt t (.pointer (some ⟨b,o,none⟩))).run P w= .ok u w:=by
 obtain⟨⟨D,hu,ha⟩,hs⟩:=loadB_spec hB
 simp[Instr.loadAt,Instr.sureAddr,loadVar,run_agg hu,ha,h,go_sem]
theorem run_loadN {w:World} {b o m:Nat} {vs:List Value} (hB:loadB P t true m=true) (hl:vs.length=m) (h: ∀j,j<m-> ∃u,vs[j]?=some u/\w.cell? ⟨b,o+j,none⟩=some u):(Instr.loadAt t (.pointer (some ⟨b,o,none⟩))).run P w= .ok (.agg vs.toArray) w:=by
 obtain⟨⟨D,hu,ha⟩,hs⟩:=loadB_spec hB
 have h3:=run_cells (P:=P) (w:=w) (b:=b) m o 0 vs #[] (λ j hj=>by simpa using h j hj) hl
 simp[Instr.loadAt,Instr.sureAddr,loadVar,run_agg hu,ha,run_size hs,loadCells,h3,go_sem]
theorem zak {a:AV} {c:List AV} {K:AF->Prop} (hB:loadB P t false 1=true) (hx:af.ev x= .ptr c) (hc:c[0]?=some a) (hk:K (af.put d a)):opA P ⟨d, .load t x,ty,pos,after,g⟩ af K:=by
 refine⟨_,λ M w ev _ h=> ?_,hk⟩
 obtain⟨b,off,e1,_,_,e4⟩:=zgw h (x:=x) (by simp[Op.operands]) hx
 obtain⟨u,h1,h2⟩:=e4 0 a hc
 have hr:(execOp ev ⟨d, .load t x,ty,pos,after,g⟩).run P w= .ok (.value u) w:=by
  unfold execOp
  simp only[e1,Sem.run_bind,run_load1 hB (by simpa using h1),Result.andThen_ok,Sem.run_pure]
 rw[hr]
 exact⟨Keeps.refl _ _,h2⟩
theorem zbx {c c':List AV} {m:Nat} {K:AF->Prop} (hB:loadB P t true m=true) (hx:af.ev x= .ptr c) (hc:c.take m=c') (hl:c'.length=m) (hk:K (af.put d (.agg c'))):opA P ⟨d, .load t x,ty,pos,after,g⟩ af K:=by
 refine⟨_,λ M w ev _ h=> ?_,hk⟩
 obtain⟨b,off,e1,_,_,e4⟩:=zgw h (x:=x) (by simp[Op.operands]) hx
 have e5:CellsAt M w b off c':=λ j a hj=>e4 j a (by
  rw[←hc,List.getElem?_take]at hj
  split at hj
  .exact hj
  .cases hj)
 obtain⟨vs,h1,h2⟩:=fit_cells e5
 have hr:(execOp ev ⟨d, .load t x,ty,pos,after,g⟩).run P w= .ok (.value (.agg vs.toArray)) w:=by
  unfold execOp
  simp only[e1,Sem.run_bind,run_loadN hB (h1.length.symm.trans hl) (λ j hj=>h2 j (by omega)),Result.andThen_ok,Sem.run_pure]
 rw[hr]
 exact⟨Keeps.refl _ _,vs,rfl,h1⟩
theorem box_at {M:BSet} {b:Nat} {c:List AV} (h:(boxI t b c).p M w): ∃vs:List Value,w.heap[b]?=some (.cells vs.toArray t (0,0))/\Fit M w c vs/\ ∀j:Nat,w.cell? ⟨b,j,none⟩=vs[j]?:=by
 obtain⟨vs,h1,h2⟩:=h
 exact⟨vs,h1,h2,λ j=>by rw[cell_of_row _ b j _ t (0,0) h1];simp⟩
theorem zaz {bt:TypeId} {b o:Nat} {c:List AV} {a:AV} {K:AF->Prop} (hB:loadB P t false 1=true) (hx:af.ev x=pA b o) (hc:c[o]?=some a) (hk:K (af.put d a)):opR P ⟨d, .load t x,ty,pos,after,g⟩ af (boxI bt b c::ρ) K:=by
 refine⟨_,λ F w ev hg h=> ?_,hk⟩
 have e1:=opnd h (x:=x) (by simp[Op.operands]) hx
 obtain⟨vs,_,hf,hcell⟩:=box_at (hg.items _ List.mem_cons_self)
 obtain⟨u,hu,hp⟩:=hf.at hc
 have hr:(execOp ev ⟨d, .load t x,ty,pos,after,g⟩).run P w= .ok (.value u) w:=by
  unfold execOp
  simp only[e1,Sem.run_bind,run_load1 hB ((hcell o).trans hu),Result.andThen_ok,Sem.run_pure]
 rw[hr]
 exact⟨Keeps.refl _ _,hp⟩
theorem zei {bt:TypeId} {b o m:Nat} {c c':List AV} {K:AF->Prop} (hB:loadB P t true m=true) (hx:af.ev x=pA b o) (hc:(c.drop o).take m=c') (hl:c'.length=m) (hk:K (af.put d (.agg c'))):opR P ⟨d, .load t x,ty,pos,after,g⟩ af (boxI bt b c::ρ) K:=by
 refine⟨_,λ F w ev hg h=> ?_,hk⟩
 have e1:=opnd h (x:=x) (by simp[Op.operands]) hx
 obtain⟨vs,_,hf,hcell⟩:=box_at (hg.items _ List.mem_cons_self)
 have hf':=(hf.drop o).take m
 rw[hc]at hf'
 have hr:(execOp ev ⟨d, .load t x,ty,pos,after,g⟩).run P w= .ok (.value (.agg ((vs.drop o).take m).toArray)) w:=by
  unfold execOp
  simp only[e1,Sem.run_bind,run_loadN hB (hf'.length.symm.trans hl) (λ j hj=>by
   have hjl:j<((vs.drop o).take m).length:=by rw[←hf'.length];omega
   exact⟨_,List.getElem?_eq_getElem hjl,by
    rw[hcell, ←List.getElem?_eq_getElem hjl,List.getElem?_take_of_lt hj,List.getElem?_drop]⟩),Result.andThen_ok,Sem.run_pure]
 rw[hr]
 exact⟨Keeps.refl _ _,_,rfl,hf'⟩
def splc {α:Type} (c:List α) (o:Nat) (c':List α):List α:=c.take o++c'++c.drop (o+c'.length)
theorem Fit.spl {M:BSet} {c c':List AV} {vs us:List Value} (o:Nat) (h:Fit M w c vs) (h':Fit M w c' us):Fit M w (splc c o c') (splc vs o us):=by
 unfold splc;rw[h'.length];exact((h.take o).app h').app (h.drop _)
theorem run_storeAt {w:World} {b o:Nat} {u:Value} {cur us:List Value} {bt:TypeId} (hs:sizeB P t us.length=true) (hb:w.heap[b]?=some (.cells cur.toArray bt (0,0))) (hu:u.cells=us.toArray) (hl:o+us.length≤cur.length) (h1: ∀v∈us,v.oneCell'=true):
  (Instr.storeAt t (.pointer (some ⟨b,o,none⟩)) u).run P w= .ok () (w.setRow b (splc cur o us).toArray):=by
 have h3:=run_storeCells_at (P:=P) b o bt us 0 cur.toArray w hb (by simpa using hl) h1
 simp only[Nat.add_zero]at h3
 unfold Instr.storeAt storeVar
 simp only[Instr.sureAddr,Sem.run_bind,Sem.run_pure,Result.andThen_ok,run_size (sizeB_spec hs),hu]
 simp only[splc]
 simp at h3⊢
 exact h3
theorem loud_store_box {bt:TypeId} {b o:Nat} {c c' c2:List AV} {a:AV} (hx:af.ev x=pA b o) (hy:af.ev y=a) (hc:CellsOf a c2) (hl:LEs c2 c') (h1:OneC c2) (hs:sizeB P t c'.length=true) (ho:o+c'.length≤c.length):
  Loud P ⟨d, .store t x y,ty,pos,after,g⟩ af (boxI bt b c::ρ) (λ a s=>a=undefA/\s=boxI bt b (splc c o c')::ρ):=by
 intro F w ev hg h
 have e1:=opnd h (x:=x) (by simp[Op.operands]) hx
 obtain⟨us,e2,hf2⟩:=hc _ w _ (zgw h (x:=y) (by simp[Op.operands]) hy)
 obtain⟨vs,hb,hf,hcell⟩:=box_at (hg.items _ List.mem_cons_self)
 have hf3:=LE_fit hl hf2
 have hlen:us.length=c'.length:=hf3.length.symm
 have hr:(execOp ev ⟨d, .store t x y,ty,pos,after,g⟩).run P w= .ok .skip (w.setRow b (splc vs o us).toArray):=by
  unfold execOp
  simp only[e1,Sem.run_bind,run_storeAt (by rw[hlen];exact hs) hb e2 (by rw[hlen, ←hf.length];exact ho) (h1.fit hf2),Result.andThen_ok,Sem.run_pure]
 rw[hr]
 have hblt:=(Array.getElem?_eq_some_iff.1 hb).1
 have hk:Keeps (λ k=>k∈(boxI bt b c).own) w (w.setRow b (splc vs o us).toArray):=⟨rfl,rfl,rfl,Nat.le_refl _,by simp,λ k hlt hn=>by
  have hne:k≠b:=λ e=>hn (by simp[boxI,e])
  simp[World.setRow,Array.getElem?_modify,Ne.symm hne]⟩
 obtain⟨g1,g2,g3⟩:=good_head (it':=boxI bt b (splc c o c')) hg hk (λ k hk'=>⟨by simp[boxI]at hk';subst hk';simpa using hblt,λ _=>hk'⟩) (by simp[boxI])
  (λ hkk hMM=>⟨splc vs o us,setRow_heap w b vs.toArray _ bt _ hb,Fit.spl o (hf.keep hkk hMM) (hf3.keep hkk hMM)⟩)
 exact⟨_,_,⟨rfl,rfl⟩,g1,g2,g3,rfl⟩
theorem zbz {bt:TypeId} {b o:Nat} {c c' c2 c3:List AV} {a:AV} {K:AF->Items->Prop} (hx:af.ev x=pA b o) (hy:af.ev y=a) (hc:CellsOf a c2) (hl:LEs c2 c') (h1:OneC c2) (hs:sizeB P t c'.length=true) (ho:o+c'.length≤c.length) (h3:splc c o c'=c3) (hk:K (af.put d undefA) (boxI bt b c3::ρ)):
  opB P ⟨d, .store t x y,ty,pos,after,g⟩ af (boxI bt b c::ρ) K:=
 ⟨_,loud_store_box hx hy hc hl h1 hs ho,λ av s ⟨e1,e2⟩=>by subst e1 e2 h3;exact hk⟩
theorem SubU.freezeBox {bt:TypeId} {b:Nat} {c:List AV} {s:Tmp} (hs:af s=pA b 0):SubU af (boxI bt b c::σ) (af.put (some s) (.ptr c)) σ:=by
 intro E n a w hh
 have hM: ∀k,k<w.heap.size->both E.F (Items.own σ) k->both E.F (Items.own (boxI bt b c::σ)) k:=λ k _ h=>h.imp id (λ h=>zch.2 (.inr h))
 have hd:=(SubU.drop (it:=boxI bt b c) (af:=af) (σ:=σ)) E n a w hh
 have hnd:=hh.good.nodup
 rw[List.flatMap_cons,List.nodup_append]at hnd
 refine⟨hd.tmps,hd.defers,hd.kept,hd.old,hd.good,λ u=> ?_⟩
 by_cases hu:u=s
 .subst hu
  rw[AF.put_same]
  have hv:=hh.fits u
  rw[hs]at hv
  obtain⟨vs,hb,hf,hcell⟩:=box_at (hh.good.items _ List.mem_cons_self)
  refine⟨b,0,hv,(Array.getElem?_eq_some_iff.1 hb).1, ?_,zgn (hf.keep (Keeps.refl _ _) hM) (λ j u hu=>by rw[hcell,Nat.zero_add];exact hu)⟩
  rintro (hF|hO)
  .exact(hh.good.own b (zch.2 (.inl (by simp[boxI])))).2 hF
  .exact hnd.2.2 b (by simp[boxI]) b hO rfl
 .rw[AF.put_other _ _ hu]
  exact hd.fits u
end
end
noncomputable section
open Go.RowKit
section
variable {P:Program} {ops:Array Oper} {E:Env} {N:Nat} {af:AF} {σ σ' ρ:Items} {F:BSet} {w w':World}
variable {d:Option Tmp} {ty:TypeId} {pos:String} {after:Array Edge} {g:Option (Nat×Bool)} {t e:TypeId} {x y:Operand}
theorem Loud.conv {o:Oper} {post:AV->Items->Prop} (h: ∀k,Items.own σ k↔Items.own σ' k) (hG: ∀F w,Good F σ w->Good F σ' w) (hl:Loud P o af σ' post):Loud P o af σ post:=by
 intro F w ev hg hx
 have hb: ∀k,both F (Items.own σ) k↔both F (Items.own σ') k:=λ k=>or_congr Iff.rfl (h k)
 have h1:=hl F w ev (hG F w hg) (λ x hx'=>(af.ev x).keep (Keeps.refl _ _) (λ k _ hk=>(hb k).2 hk) (hx x hx'))
 have out: ∀{v w'},Out F σ' w post v w'->Out F σ w post v w':=λ⟨av,s,a1,a2,a3,a4,a5⟩=>⟨av,s,a1,a2,a3.mono (λ k _ hk=>(h k).2 hk),λ k hk hlt=>(h k).2 (a4 k hk hlt),a5⟩
 generalize(execOp ev o).run P w=r at h1
 cases r with
 |ok n w'=>
  cases n <;>simp only[Upon]at h1⊢ <;>try exact h1.elim
  case value v=>exact out h1
  case skip=>exact out h1
  case enter f args=>exact h1.mono λ e w'' ⟨v,he,ho⟩=>⟨v,he,out ho⟩
  case row r args=>exact h1.mono λ v w'' ho=>out ho
 |halt x w'=>exact h1.elim
theorem own_nilvec {n:Nat} (k:Nat):Items.own (vecI P t (.slice none 0 0) n 0 []::σ) k↔Items.own σ k:=by rw[zch];simp[vecI,Value.ownBlock]
theorem good_nilvec {n:Nat} (hg:Good F σ w):Good F (vecI P t (.slice none 0 0) n 0 []::σ) w:=by
 have hM: ∀k,k<w.heap.size->both F (Items.own (vecI P t (.slice none 0 0) n 0 []::σ)) k->both F (Items.own σ) k:=λ k _ h=>h.imp id (own_nilvec k).1
 refine⟨hg.fr,λ k h=>hg.own k ((own_nilvec k).1 h), ?_,λ it hi=> ?_⟩
 .rw[List.flatMap_cons];simpa[vecI,Value.ownBlock]using hg.nodup
 .rcases List.mem_cons.1 hi with rfl|hi
  .exact⟨[],World.ownsRow_nil _ _ _ _,trivial⟩
  .exact it.keep (Keeps.refl _ _) hM (hg.items it hi)
theorem Loud.unnil {o:Oper} {post:AV->Items->Prop} {n:Nat} (hl:Loud P o af (vecI P t (.slice none 0 0) n 0 []::σ) post):Loud P o af σ post:=
 hl.conv (λ k=>(own_nilvec k).symm) (λ _ _ hg=>good_nilvec hg)
section rows
variable {α:Type} {n:Nat} {enc:α->List AV} {xs ys:List α} {v:Value} {K:AF->Items->Prop}
def vecT (P:Program) (t:TypeId) (n:Nat) (enc:α->List AV) (v:Value) (xs:List α):Item:=vecI P t v n xs.length (xs.flatMap enc)
theorem OneC.flatT (h: ∀x,OneC (enc x)):OneC (xs.flatMap enc):=OneC.flat h
abbrev LIM:Nat:=137438953472
theorem zcu {s z:Operand} (hB:elB P t n=true) (hs:af.ev s= .exact v) (hx:af.ev z= .row n enc ys) (ho: ∀x,OneC (enc x)) (hl:xs.length+ys.length≤LIM) (hk: ∀v',K (af.put d (.exact v')) (vecT P t n enc v' (xs++ys)::ρ)):
  opB P ⟨d, .call { callee:= .builtin .append,args:= #[s,z],argTypes:= #[t,t] },ty,pos,after,g⟩ af (vecT P t n enc v xs::ρ) K:=
 ⟨_,loud_append hB hs hx (OneC.flatT ho) hl,λ av σ' ⟨v',e1,e2⟩=>by
  subst e1 e2
  have:=hk v'
  unfold vecT at this
  rwa [List.length_append,List.flatMap_append]at this⟩
theorem op_appN {s z:Operand} (hB:elB P t n=true) (hs:af.ev s= .exact (.slice none 0 0)) (hx:af.ev z= .row n enc ys) (ho: ∀x,OneC (enc x)) (hl:ys.length≤LIM) (hk: ∀v',K (af.put d (.exact v')) (vecT P t n enc v' ys::σ)):
  opB P ⟨d, .call { callee:= .builtin .append,args:= #[s,z],argTypes:= #[t,t] },ty,pos,after,g⟩ af σ K:=
 ⟨_,(loud_append (m:=0) (c:=[]) hB hs hx (OneC.flatT ho) (by have:ys.length≤137438953472:=hl;omega)).unnil,λ av σ' ⟨v',e1,e2⟩=>by
  subst e1 e2
  have:=hk v'
  unfold vecT at this
  rwa [List.nil_append,Nat.zero_add]⟩
theorem Quiet.le {o:Oper} {a b:AV} (h:Quiet P o af a) (hl:AV.le a b):Quiet P o af b:=by
 intro M w ev hM hx
 have h1:=h M w ev hM hx
 generalize(execOp ev o).run P w=r at h1
 cases r with
 |ok n w'=>
  cases n <;>simp only[UponQ]at h1⊢ <;>try exact h1.elim
  case value v=>exact⟨h1.1,hl _ _ _ h1.2⟩
  case skip=>exact⟨h1.1,hl _ _ _ h1.2⟩
  case enter f args=>exact h1.mono λ e w'' ⟨v,he,hk,ho⟩=>⟨v,he,hk,hl _ _ _ ho⟩
  case row r args=>exact h1.mono λ v w'' ⟨hk,ho⟩=>⟨hk,hl _ _ _ ho⟩
 |halt x w'=>exact h1.elim
def LEss:List (List AV)->List (List AV)->Prop
 |[],[]=>True
 |c::cs,d::ds=>LEs c d/\LEss cs ds
 |_,_=>False
theorem LEss.nil:LEss [] []:=trivial
theorem LEss.cons {c c':List AV} {cs ds:List (List AV)} (h:LEs c c') (h':LEss cs ds):LEss (c::cs) (c'::ds):=⟨h,h'⟩
theorem LEs.length: ∀{xs ys:List AV},LEs xs ys->xs.length=ys.length
 |[],[],_=>rfl
 |_::_,_::_,h=>by simp[LEs.length h.2]
theorem LEss.get: ∀{cs ds:List (List AV)},LEss cs ds->cs.length=ds.length/\ ∀(i:Nat) (c d:List AV),cs[i]?=some c->ds[i]?=some d->LEs c d
 |[],[],_=>⟨rfl,λ i c d h=>by simp at h⟩
 |c::cs,d::ds,h=>⟨by simp[(LEss.get h.2).1],λ i a b ha hb=>by
  cases i with
  |zero=>simp at ha hb;subst ha hb;exact h.1
  |succ i=>exact(LEss.get h.2).2 i a b (by simpa using ha) (by simpa using hb)⟩
theorem LEss.flat {M:BSet}: ∀{cs ds:List (List AV)} {vs:List Value},LEss cs ds->Fit M w cs.flatten vs->Fit M w ds.flatten vs
 |[],[],vs,_,h=>h
 |c::cs,d::ds,vs,h,hf=>by
  rw[List.flatten_cons]at hf⊢
  have h1:=hf.take c.length
  have h2:=hf.drop c.length
  rw[List.take_left]at h1
  rw[List.drop_left]at h2
  have:=(LE_fit h.1 h1).app (LEss.flat h.2 h2)
  rwa [List.take_append_drop]at this
theorem LEs.at: ∀{xs ys:List AV} {j:Nat} {a:AV},LEs xs ys->ys[j]?=some a-> ∃b,xs[j]?=some b/\AV.le b a
 |[],[],_,_,_,hj=>by simp at hj
 |x::xs,y::ys,0,a,h,hj=>by simp at hj;subst hj;exact⟨x,rfl,h.1⟩
 |x::xs,y::ys,j+1,a,h,hj=>by
  obtain⟨b,h1,h2⟩:=LEs.at (xs:=xs) (ys:=ys) (j:=j) h.2 (by simpa using hj)
  exact⟨b,by simpa using h1,h2⟩
theorem row_les {cs:List (List AV)} (h:LEss cs (xs.map enc)):AV.le (.row n id cs) (.row n enc xs):=λ M w v ⟨A,q,h1,h2,h3,h4⟩=>by
 obtain⟨hl,hg⟩:=h.get
 rw[List.length_map]at hl
 refine⟨A,q,by rw[h1,hl],by omega,h3,λ hx=> ?_⟩
 obtain⟨b,off,g1,g2,g3,g4⟩:=h4 (by rintro rfl;exact hx (List.length_eq_zero_iff.1 hl.symm))
 refine⟨b,off,g1,g2,g3,λ i x hi=> ?_⟩
 have hlt:i<cs.length:=by rw[hl];exact(List.getElem?_eq_some_iff.1 hi).1
 obtain⟨k1,k2⟩:=g4 i _ (List.getElem?_eq_getElem hlt)
 have hle:=hg i _ (enc x) (List.getElem?_eq_getElem hlt) (by simp[hi])
 refine⟨by rw[←hle.length];exact k1,λ j a hj=> ?_⟩
 obtain⟨b',hb,hba⟩:=hle.at hj
 obtain⟨u,hu,hp⟩:=k2 j b' hb
 exact⟨u,hu,hba _ _ _ hp⟩
theorem zcd {len:Nat} {ps:List (Nat×Operand)} {cs:List (List AV)} {K:AF->Prop} (xs:List α) (hc:CellsAll af ps cs) (hB3:cs.map (·.length)=List.replicate len n) (hB:litB P t n len (ps.map (·.1))=true) (hle:LEss cs (xs.map enc)) (hk:K (af.put d (.row n enc xs))):
  opA P ⟨d, .buildSlice t len ps.toArray,ty,pos,after,g⟩ af K:=⟨_,(quiet_lit hc hB3 hB).le (row_les hle),hk⟩
theorem flat_map {cs:List (List AV)}:(xs.map enc).flatten=xs.flatMap enc:=by rw[List.flatMap_def]
theorem replicate_len {cs:List (List AV)} {len:Nat} (h:cs.map (·.length)=List.replicate len n):cs.flatten.length=len*n:=by
 rw[List.length_flatten,h];simp
theorem op_litI {len:Nat} {ps:List (Nat×Operand)} {cs:List (List AV)} (xs:List α) (hE:elB P t n=true) (hc:CellsAll af ps cs) (hB3:cs.map (·.length)=List.replicate len n) (hB:litB P t n len (ps.map (·.1))=true) (hle:LEss cs (xs.map enc)) (hk: ∀v',K (af.put d (.exact v')) (vecT P t n enc v' xs::σ)):
  opB P ⟨d, .buildSlice t len ps.toArray,ty,pos,after,g⟩ af σ K:=by
 refine⟨λ a s=> ∃v',a= .exact v'/\s=vecT P t n enc v' xs::σ,λ F w ev hg h=> ?_,λ av s ⟨v',e1,e2⟩=>by subst e1 e2;exact hk v'⟩
 obtain⟨e,vs,hu,hn0,hl0,hbig,hcl,hce,hf,hrun⟩:=lit_run (d:=d) (ty:=ty) (pos:=pos) (after:=after) (g:=g) hc hB3 hB h
 obtain⟨hu',_⟩:=elB_spec hE
 have he:elemOfT P t=e:=by rw[hu]at hu';injection hu' with h1;injection h1 with h1;exact h1.symm
 have hlen:xs.length=len:=by rw[←hcl,hle.get.1,List.length_map]
 have hf':=hle.flat hf
 rw[flat_map (cs:=cs)]at hf'
 have hvl:vs.length=len*n:=by rw[←hf.length];exact replicate_len hB3
 rw[hrun]
 have hb:(w.alloc (.cells vs.toArray e)).heap[w.heap.size]?=some (.cells vs.toArray e (0,0)):=heap_alloc_new w _
 refine out_new (it:=vecT P t n enc (.slice (some ⟨w.heap.size,0,none⟩) len len) xs) hg (by simp[vecT,vecI,Value.ownBlock]) (λ M hM=>⟨vs,⟨by rw[hlen];exact hvl, .inr ⟨w.heap.size,len,vs.toArray,by rw[hlen],Nat.zero_le _,by rw[he];exact hb,by omega, ?_,by simpa using hvl, ?_⟩⟩, ?_⟩) (λ M=>rfl) ⟨_,rfl,rfl⟩
 .have:len≤len*n:=Nat.le_mul_of_pos_right _ hn0
  unfold maxLen;omega
 .rw[hlen, ←hvl];simp
 .exact hf'.keep (w:=w) (w':=w.alloc (.cells vs.toArray e)) ⟨rfl,rfl,rfl,Nat.le_refl _,by simp,λ k hlt _=>heap_alloc_old w _ hlt⟩ hM
def lit0B (P:Program) (t:TypeId):Bool:=match P.underlying t with|some (.slice e)=>(P.info? e).isSome|_=>false
theorem run_lit0 {ev:Operand->Value} (h:lit0B P t=true): ∃e,P.underlying t=some (.slice e)/\(execOp ev ⟨d, .buildSlice t 0 #[],ty,pos,after,g⟩).run P w= .ok (.value (.slice (some ⟨w.heap.size,0,none⟩) 0 0)) (w.alloc (.cells #[] e)):=by
 unfold lit0B at h
 split at h
 .rename_i e hu
  obtain⟨I,hI⟩:=Option.isSome_iff_exists.1 h
  refine⟨e,hu, ?_⟩
  unfold execOp
  simp only[Instr.buildSlice,Sem.run_bind,zdq hu,Result.andThen_ok,run_size (n:=I.size) (by simp[hI]:(P.info? e).map (·.size)=some I.size)]
  simp[Instr.fill,newRow,go_sem]
 .cases h
theorem op_lit0I (hE:elB P t n=true) (hk: ∀v',K (af.put d (.exact v')) (vecT P t n enc v' ([]:List α)::σ)):opB P ⟨d, .buildSlice t 0 #[],ty,pos,after,g⟩ af σ K:=by
 refine⟨λ a s=> ∃v',a= .exact v'/\s=vecT P t n enc v' ([]:List α)::σ,λ F w ev hg h=> ?_,λ av s ⟨v',e1,e2⟩=>by subst e1 e2;exact hk v'⟩
 obtain⟨hu',_,i,z,hi,_⟩:=elB_spec hE
 obtain⟨e,hu,hr⟩:=run_lit0 (w:=w) (ev:=ev) (d:=d) (ty:=ty) (pos:=pos) (after:=after) (g:=g) (by unfold lit0B;rw[hu'];simp[hi]:lit0B P t=true)
 have he:elemOfT P t=e:=by rw[hu]at hu';injection hu' with h1;injection h1 with h1;exact h1.symm
 rw[hr]
 have hb:(w.alloc (.cells #[] e)).heap[w.heap.size]?=some (.cells #[] e (0,0)):=heap_alloc_new w _
 exact out_new (it:=vecT P t n enc (.slice (some ⟨w.heap.size,0,none⟩) 0 0) ([]:List α)) hg (by simp[vecT,vecI,Value.ownBlock]) (λ M hM=>⟨[],⟨by simp, .inr ⟨w.heap.size,0, #[],rfl,Nat.zero_le _,by rw[he];exact hb,by simp,by unfold maxLen;omega,by simp,by simp⟩⟩,trivial⟩) (λ M=>rfl) ⟨_,rfl,rfl⟩
theorem SubU.freezeT {s:Tmp} (hs:af s= .exact v) (he: ∀x,(enc x).length=n):SubU af (vecT P t n enc v xs::σ) (af.put (some s) (.row n enc xs)) σ:=λ _ _=>sub_freeze hs rfl rfl (λ x _=>he x)
theorem SubU.nilT:SubU af σ af (vecT P t n enc (.slice none 0 0) ([]:List α)::σ):=λ _ _=>sub_nil
theorem vec_row {M:BSet} (hM: ∀k,v.ownBlock=some k-> ¬M k) (he: ∀x,(enc x).length=n) {M':BSet} (h:(vecT P t n enc v xs).p M' w) (hMM: ∀k,k<w.heap.size->M k->M' k):(AV.row n enc xs).p M w v:=by
 obtain⟨vs,hown,hfit⟩:=h
 rcases hown.2 with⟨rfl,h0⟩|⟨g,cap,cur,rfl,_,hg,hnc,hcm,_,htake⟩
 .obtain rfl:xs=[]:=List.length_eq_zero_iff.1 h0
  exact⟨none,0,rfl,by simp,by omega,λ h=>absurd rfl h⟩
 .refine⟨some ⟨g,0,none⟩,cap,rfl,hnc,by simp only[maxLen]at hcm;omega,λ _=>⟨g,0,rfl,(Array.getElem?_eq_some_iff.1 hg).1,hM g rfl,λ i x hx=>⟨he x, ?_⟩⟩⟩
  have hcells:=zgn (b:=g) (off:=0) (hfit.keep (Keeps.refl _ _) hMM) (λ j u hu=>by
   have:=hown.cells (g:=g) rfl j u hu
   rwa [addr_add']at this)
  exact hcells.sub (λ j a hj=>flat_get (λ x _=>he x) hx j a hj)
def Bor (σ:Items) (x y:AV):Prop:= ∀F w v,Good F σ w->x.p (both F (Items.own σ)) w v->y.p F w v
theorem Bor.le {x y:AV} (h:AV.le x y):Bor σ x y:=λ _ _ _ _ hx=>y.keep (Keeps.refl _ _) (λ _ _ hk=> .inl hk) (h _ _ _ hx)
theorem Bor.vec (hm:vecT P t n enc v xs∈σ) (he: ∀x,(enc x).length=n):Bor σ (.exact v) (.row n enc xs):=λ F w u hg hx=>by
 obtain rfl:u=v:=hx
 refine vec_row (λ k hk hF=> ?_) he (hg.items _ hm) (λ k _ hF=> .inl hF)
 exact(hg.own k (List.mem_flatMap.2 ⟨_,hm,by simp[vecT,vecI,hk]⟩)).2 hF
def Bors (σ:Items):List AV->List AV->Prop
 |[],[]=>True
 |x::xs,y::ys=>Bor σ x y/\Bors σ xs ys
 |_,_=>False
theorem Bors.nil:Bors σ [] []:=trivial
theorem Bors.cons {x y:AV} {xs ys:List AV} (h:Bor σ x y) (h':Bors σ xs ys):Bors σ (x::xs) (y::ys):=⟨h,h'⟩
theorem Bors.fit (hg:Good F σ w): ∀{xs ys:List AV} {vs:List Value},Bors σ xs ys->Fit (both F (Items.own σ)) w xs vs->Fit F w ys vs
 |[],[],[],_,_=>trivial
 |_::_,_::_,_::_,h,hf=>⟨h.1 _ _ _ hg hf.1,Bors.fit hg h.2 hf.2⟩
def MI (r:AV):Prop:= ∀M M' w v,r.p M w v->r.p M' w v
theorem MI.exact {v:Value}:MI (.exact v):=λ _ _ _ _ h=>h
theorem MI.fit {M M':BSet}: ∀{l:List AV} {vs:List Value},(∀a∈l,MI a)->Fit M w l vs->Fit M' w l vs
 |[],[],_,_=>trivial
 |a::l,v::vs,h,hf=>⟨h a (by simp) _ _ _ _ hf.1,MI.fit (λ b hb=>h b (by simp[hb])) hf.2⟩
theorem MI.tup {l:List AV} (h: ∀a∈l,MI a):MI (.tup l):=λ _ _ _ _ ⟨vs,h1,h2⟩=>⟨vs,h1,MI.fit h h2⟩
theorem MI.agg {l:List AV} (h: ∀a∈l,MI a):MI (.agg l):=λ _ _ _ _ ⟨vs,h1,h2⟩=>⟨vs,h1,MI.fit h h2⟩
theorem zcl {K:AF->Prop} (hB:isSliceB P t=true) (hx:af.ev x= .exact v) (hk:K (af.put d (.exact (.int .i64 (xs.length:Int))))):
  opR P ⟨d, .call { callee:= .builtin .len,args:= #[x],argTypes:= #[t] },ty,pos,after,g⟩ af (vecT P e n enc v xs::ρ) K:=by
 refine⟨_,λ F w ev hg h=> ?_,hk⟩
 have e1:=opnd h (x:=x) (by simp[Op.operands,Call.operands]) hx
 obtain⟨e,hu⟩:=isSliceB_spec hB
 obtain⟨vs,hown,_⟩:=hg.items _ List.mem_cons_self
 have hv: ∃A c,v= .slice A xs.length c:=by
  rcases hown.2 with⟨rfl,h0⟩|⟨g,cap,cur,rfl,_⟩
  .exact⟨none,0,by rw[h0]⟩
  .exact⟨_,_,rfl⟩
 obtain⟨A,c,rfl⟩:=hv
 simp[execOp,resolve,invoke,builtin,Builtin.len_,e1,zdq hu,goInt,go_sem,UponQ]
 exact⟨Keeps.refl _ _,rfl⟩
def AV.eptr (v:Value) (o:Nat):AV:=⟨λ _ _ u=> ∃b l c,v= .slice (some ⟨b,0,none⟩) l c/\u= .pointer (some ⟨b,o,none⟩),λ _ _ h=>h⟩
theorem vec_cells {M:BSet} (h:(vecT P t n enc v xs).p M w) (hne:xs≠[]): ∃b c cur vs,v= .slice (some ⟨b,0,none⟩) xs.length c/\w.heap[b]?=some (.cells cur (elemOfT P t) (0,0))/\xs.length≤c/\c≤maxLen/\cur.size=c*n/\cur.toList.take (xs.length*n)=vs/\Fit M w (xs.flatMap enc) vs:=by
 obtain⟨vs,hown,hfit⟩:=h
 rcases hown.2 with⟨rfl,h0⟩|⟨g,cap,cur,rfl,_,hg,hnc,hcm,hcs,htake⟩
 .exact absurd (List.length_eq_zero_iff.1 h0) hne
 .exact⟨g,cap,cur,vs,rfl,hg,hnc,hcm,hcs,htake,hfit⟩
theorem zbl {k:IntKind} {i:Int} {K:AF->Prop} (hB:sliceB P t n=true) (hx:af.ev x= .exact v) (hy:af.ev y= .exact (.int k i)) (h0:0≤i) (h1:i<xs.length) (hk:K (af.put d (.eptr v (i.toNat*n)))):
  opR P ⟨d, .indexAddr t x y,ty,pos,after,g⟩ af (vecT P e n enc v xs::ρ) K:=by
 refine⟨_,λ F w ev hg h=> ?_,hk⟩
 have e1:=opnd h (x:=x) (by simp[Op.operands]) hx
 have e2:=opnd h (x:=y) (by simp[Op.operands]) hy
 obtain⟨b,c,cur,vs,hv,_⟩:=vec_cells (hg.items _ List.mem_cons_self) (by rintro rfl;simp at h1;omega)
 obtain⟨e,hu,hs⟩:=sliceB_spec hB
 subst hv
 have hadd:Addr.add ⟨b,0,none⟩ (i.toNat*n)=⟨b,i.toNat*n,none⟩:=by rw[addr_at];simp
 simp[execOp,Instr.indexAt,e1,e2,zdq hu,asIntOf,h0,h1,run_size hs,hadd,go_sem,UponQ]
 exact⟨Keeps.refl _ _,b,_,_,rfl,rfl⟩
theorem flat_split {i:Nat} {a:α} (he: ∀x,(enc x).length=n) (hi:xs[i]?=some a):xs.flatMap enc=(xs.take i).flatMap enc++enc a++(xs.drop (i+1)).flatMap enc/\((xs.take i).flatMap enc).length=i*n:=by
 obtain⟨hlt,rfl⟩:=List.getElem?_eq_some_iff.1 hi
 constructor
 .conv=>lhs;rw[←List.take_append_drop i xs,List.drop_eq_getElem_cons hlt,List.flatMap_append,List.flatMap_cons, ←List.append_assoc]
 .rw[flat_len (λ x _=>he x),List.length_take,Nat.min_eq_left (by omega)]
theorem vec_elem {M:BSet} [Inhabited α] {i:Int} (he: ∀x,(enc x).length=n) (h:(vecT P t n enc v xs).p M w) (h0:0≤i) (h1:i<xs.length):
  ∃b l c us,v= .slice (some ⟨b,0,none⟩) l c/\Fit M w (enc (gi xs i)) us/\ ∀(j:Nat) (u:Value),us[j]?=some u->w.cell? ⟨b,i.toNat*n+j,none⟩=some u:=by
 obtain⟨b,c,cur,vs,rfl,hb,hnc,hcm,hcs,htk,hfit⟩:=vec_cells h (by rintro rfl;simp at h1;omega)
 obtain⟨hs,hl⟩:=flat_split (enc:=enc) he (gi_get h0 h1)
 have hd:=(hfit.drop (i.toNat*n)).take n
 have e1:((xs.flatMap enc).drop (i.toNat*n)).take n=enc (gi xs i):=by
  rw[hs,List.append_assoc, ←hl,List.drop_left, ←he (gi xs i),List.take_left]
 rw[e1]at hd
 refine⟨b,_,c,_,rfl,hd,λ j u hj=> ?_⟩
 rw[List.getElem?_take]at hj
 split at hj
 .rw[List.getElem?_drop, ←htk,List.getElem?_take]at hj
  split at hj
  .rw[cell_of_row _ b _ _ _ (0,0) hb];simpa using hj
  .cases hj
 .cases hj
theorem zcs [Inhabited α] {i:Int} {o:Nat} {a:AV} {K:AF->Prop} (hB:loadB P t false 1=true) (he: ∀x,(enc x).length=n) (hx:af.ev x= .eptr v (i.toNat*n+o)) (h0:0≤i) (h1:i<xs.length) (hc:(enc (gi xs i))[o]?=some a) (hk:K (af.put d a)):
  opR P ⟨d, .load t x,ty,pos,after,g⟩ af (vecT P e n enc v xs::ρ) K:=by
 refine⟨_,λ F w ev hg h=> ?_,hk⟩
 obtain⟨b',l',c',hv',e1⟩:=zgw h (x:=x) (by simp[Op.operands]) hx
 obtain⟨b,l,c,us,hv,hf,hcell⟩:=vec_elem he (hg.items _ List.mem_cons_self) h0 h1
 rw[hv]at hv'
 injection hv' with g1 _ _
 injection g1 with g1
 injection g1 with g1 _ _
 subst g1
 obtain⟨u,hu,hp⟩:=hf.at hc
 have hr:(execOp ev ⟨d, .load t x,ty,pos,after,g⟩).run P w= .ok (.value u) w:=by
  unfold execOp
  simp only[e1,Sem.run_bind,run_load1 hB (hcell o u hu),Result.andThen_ok,Sem.run_pure]
 rw[hr]
 exact⟨Keeps.refl _ _,hp⟩
theorem zet [Inhabited α] {i:Int} {o m:Nat} {c':List AV} {K:AF->Prop} (hB:loadB P t true m=true) (he: ∀x,(enc x).length=n) (hx:af.ev x= .eptr v (i.toNat*n+o)) (h0:0≤i) (h1:i<xs.length) (hc:((enc (gi xs i)).drop o).take m=c') (hl:c'.length=m) (hk:K (af.put d (.agg c'))):
  opR P ⟨d, .load t x,ty,pos,after,g⟩ af (vecT P e n enc v xs::ρ) K:=by
 refine⟨_,λ F w ev hg h=> ?_,hk⟩
 obtain⟨b',l',cc,hv',e1⟩:=zgw h (x:=x) (by simp[Op.operands]) hx
 obtain⟨b,l,c,us,hv,hf,hcell⟩:=vec_elem he (hg.items _ List.mem_cons_self) h0 h1
 rw[hv]at hv'
 injection hv' with g1 _ _
 injection g1 with g1
 injection g1 with g1 _ _
 subst g1
 have hf':=(hf.drop o).take m
 rw[hc]at hf'
 have hr:(execOp ev ⟨d, .load t x,ty,pos,after,g⟩).run P w= .ok (.value (.agg ((us.drop o).take m).toArray)) w:=by
  unfold execOp
  simp only[e1,Sem.run_bind,run_loadN hB (hf'.length.symm.trans hl) (λ j hj=>by
   have hjl:j<((us.drop o).take m).length:=by rw[←hf'.length];omega
   refine⟨_,List.getElem?_eq_getElem hjl, ?_⟩
   rw[Nat.add_assoc]
   refine hcell (o+j) _ ?_
   rw[←List.getElem?_eq_getElem hjl,List.getElem?_take_of_lt hj,List.getElem?_drop]),Result.andThen_ok,Sem.run_pure]
 rw[hr]
 exact⟨Keeps.refl _ _,_,rfl,hf'⟩
theorem zem {f o o0:Nat} {K:AF->Prop} (hB:fieldB P t f o=true) (hx:af.ev x= .eptr v o0) (hk:K (af.put d (.eptr v (o0+o)))):opA P ⟨d, .fieldAddr t x f,ty,pos,after,g⟩ af K:=by
 refine⟨_,λ M w ev _ h=> ?_,hk⟩
 obtain⟨b,l,c,hv,e1⟩:=zgw h (x:=x) (by simp[Op.operands]) hx
 have hr:(execOp ev ⟨d, .fieldAddr t x f,ty,pos,after,g⟩).run P w= .ok (.value (.pointer (some ⟨b,o0+o,none⟩))) w:=by
  unfold execOp
  simp only[e1,Sem.run_bind,run_fieldAt hB,Result.andThen_ok,Sem.run_pure]
 rw[hr]
 exact⟨Keeps.refl _ _,b,l,c,hv,rfl⟩
theorem set_flat [Inhabited α] {i:Int} {z:α} {o:Nat} {c':List AV} (he: ∀x,(enc x).length=n) (h0:0≤i) (h1:i<xs.length) (hz:splc (enc (gi xs i)) o c'=enc z) (ho:o+c'.length≤n):splc (xs.flatMap enc) (i.toNat*n+o) c'=(xs.set i.toNat z).flatMap enc:=by
 obtain⟨hs,hl⟩:=flat_split (enc:=enc) he (gi_get h0 h1)
 have hlt:i.toNat<xs.length:=by omega
 have hset:xs.set i.toNat z=xs.take i.toNat++z::xs.drop (i.toNat+1):=by rw[List.set_eq_take_append_cons_drop,if_pos hlt]
 rw[hset,List.flatMap_append,List.flatMap_cons, ←hz]
 unfold splc
 rw[hs]
 generalize hA:(xs.take i.toNat).flatMap enc=A at hl
 generalize hC:(xs.drop (i.toNat+1)).flatMap enc=C
 generalize hM:enc (gi xs i)=B
 have hBl:B.length=n:=by rw[←hM];exact he _
 rw[←hl]
 rw[List.append_assoc A B C,show A.length+o+c'.length=A.length+(o+c'.length)by omega,List.take_length_add_append,List.drop_length_add_append,
  List.take_append_of_le_length (by omega),List.drop_append_of_le_length (by omega)]
 simp[List.append_assoc]
theorem zcm [Inhabited α] {i:Int} {o:Nat} {a:AV} {c2 c':List AV} {z:α} (hE:elB P e n=true) (he: ∀x,(enc x).length=n) (hx:af.ev x= .eptr v (i.toNat*n+o)) (h0:0≤i) (h1:i<xs.length) (hy:af.ev y=a) (hc:CellsOf a c2) (hle:LEs c2 c') (ho1:OneC c2) (hs:sizeB P t c'.length=true) (ho:o+c'.length≤n)
  (hz:splc (enc (gi xs i)) o c'=enc z) (hk:K (af.put d undefA) (vecT P e n enc v (xs.set i.toNat z)::ρ)):opB P ⟨d, .store t x y,ty,pos,after,g⟩ af (vecT P e n enc v xs::ρ) K:=by
 refine⟨λ a s=>a=undefA/\s=vecT P e n enc v (xs.set i.toNat z)::ρ,λ F w ev hg h=> ?_,λ av s ⟨e1,e2⟩=>by subst e1 e2;exact hk⟩
 obtain⟨b',l',cc,hv',e1⟩:=zgw h (x:=x) (by simp[Op.operands]) hx
 obtain⟨us,e2,hf2⟩:=hc _ w _ (zgw h (x:=y) (by simp[Op.operands]) hy)
 obtain⟨b,c,cur,vs,hv,hb,hnc,hcm,hcs,htk,hfit⟩:=vec_cells (hg.items _ List.mem_cons_self) (by rintro rfl;simp at h1;omega)
 rw[hv]at hv'
 injection hv' with g1 _ _
 injection g1 with g1
 injection g1 with g1 _ _
 subst g1
 have hf3:=LE_fit hle hf2
 have hlen:us.length=c'.length:=hf3.length.symm
 have hbd:i.toNat*n+o+us.length≤xs.length*n:=by
  have:(i.toNat+1)*n≤xs.length*n:=Nat.mul_le_mul_right _ (by omega)
  rw[Nat.add_mul]at this
  omega
 have hcn:xs.length*n≤cur.size:=by rw[hcs];exact Nat.mul_le_mul_right _ hnc
 have hr:(execOp ev ⟨d, .store t x y,ty,pos,after,g⟩).run P w= .ok .skip (w.setRow b (splc cur.toList (i.toNat*n+o) us).toArray):=by
  unfold execOp
  have hst:=run_storeAt (P:=P) (t:=t) (w:=w) (b:=b) (o:=i.toNat*n+o) (u:=ev y) (cur:=cur.toList) (us:=us) (bt:=elemOfT P e) (by rw[hlen];exact hs) (by simpa using hb) e2 (by simp;omega) (ho1.fit hf2)
  simp only[e1,Sem.run_bind,hst,Result.andThen_ok,Sem.run_pure]
 rw[hr]
 have hblt:=(Array.getElem?_eq_some_iff.1 hb).1
 have hob:v.ownBlock=some b:=by rw[hv];rfl
 have hk:Keeps (λ k=>k∈(vecT P e n enc v xs).own) w (w.setRow b (splc cur.toList (i.toNat*n+o) us).toArray):=⟨rfl,rfl,rfl,Nat.le_refl _,by simp,λ k hlt hn=>by
  have hne:k≠b:=λ e=>hn (by simp[vecT,vecI,hob,e])
  simp[World.setRow,Array.getElem?_modify,Ne.symm hne]⟩
 have hsp:splc cur.toList (i.toNat*n+o) us=splc (cur.toList.take (xs.length*n)) (i.toNat*n+o) us++cur.toList.drop (xs.length*n):=by
  unfold splc
  rw[List.take_take,Nat.min_eq_left (by omega),List.append_assoc _ _ (cur.toList.drop (xs.length*n))]
  congr 1
  rw[List.drop_take]
  have h9:i.toNat*n+o+us.length+(xs.length*n - (i.toNat*n+o+us.length))=xs.length*n:=by omega
  conv=>rhs;rhs;rw[←h9, ←List.drop_drop]
  rw[List.take_append_drop]
 have hfs:=Fit.spl (i.toNat*n+o) hfit hf3
 rw[set_flat he h0 h1 hz ho]at hfs
 have hsl:(splc vs (i.toNat*n+o) us).length=xs.length*n:=by
  rw[←hfs.length,flat_len (λ x _=>he x),List.length_set]
 have hown:(w.setRow b (splc cur.toList (i.toNat*n+o) us).toArray).ownsRow 0 (elemOfT P e) n v (xs.set i.toNat z).length (splc vs (i.toNat*n+o) us):=by
  refine⟨by rw[hsl,List.length_set], .inr ⟨b,c,(splc cur.toList (i.toNat*n+o) us).toArray,by rw[List.length_set];exact hv,Nat.zero_le _,setRow_heap w b cur _ (elemOfT P e) _ hb,by rw[List.length_set];exact hnc,hcm, ?_, ?_⟩⟩
  .unfold splc;simp;omega
  .rw[List.length_set,hsp,htk]
   simp[←hsl]
 obtain⟨g1,g2,g3⟩:=good_head (it':=vecT P e n enc v (xs.set i.toNat z)) hg hk (λ k hk'=>⟨by simp[vecT,vecI,hob]at hk';subst hk';simpa using hblt,λ _=>hk'⟩) (by simp[vecT,vecI,hob])
  (λ hkk hMM=>⟨splc vs (i.toNat*n+o) us,hown,hfs.keep hkk hMM⟩)
 exact⟨_,_,⟨rfl,rfl⟩,g1,g2,g3,rfl⟩
end rows
theorem op_funX {f:FuncId} {fn:Func} {args:List AV} {post:AV->Items->Prop} {xs:List Operand} {ats:Array TypeId} {σ0:Items} {K:AF->Items->Prop} (hp:Fun P f args σ0 post) (hf:P.funcs[f]?=some fn) (hb:(fn.body.isNone ||fn.name == "runtime.NumGoroutine")=false)
  (hx:LEs (xs.map af.ev) args) (hk: ∀av s',post av s'->K (af.put d av) (s'++ρ)):opB P ⟨d, .call { callee:= .value (.func f),args:=xs.toArray,argTypes:=ats },ty,pos,after,g⟩ af (σ0++ρ) K:=
 op_fun (hp.frame ρ) hf hb hx (λ av σ' ⟨s',h1,h2⟩=>by subst h2;exact hk av s' h1)
theorem op_fun_0_1_1 {f:FuncId} {fn:Func} {args:List AV} {X0:Type} {A:X0->AV} {s0:X0->Item} {xs:List Operand} {ats:Array TypeId} {K:AF->Items->Prop} (hp:Fun P f args [] (λ a s=> ∃v0,a=A v0/\s=[s0 v0])) (hf:P.funcs[f]?=some fn) (hb:(fn.body.isNone ||fn.name == "runtime.NumGoroutine")=false)
  (hx:LEs (xs.map af.ev) args) (hk: ∀v0,K (af.put d (A v0)) (s0 v0::ρ)):opB P ⟨d, .call { callee:= .value (.func f),args:=xs.toArray,argTypes:=ats },ty,pos,after,g⟩ af (ρ) K:=
 op_funX (σ0:=[]) hp hf hb hx (λ av s' h=>by
  obtain⟨v0,rfl,rfl⟩:=h
  exact hk v0)
theorem op_fun_0_2_2 {f:FuncId} {fn:Func} {args:List AV} {X0 X1:Type} {A:X0->X1->AV} {s0 s1:X0->X1->Item} {xs:List Operand} {ats:Array TypeId} {K:AF->Items->Prop} (hp:Fun P f args [] (λ a s=> ∃v0 v1,a=A v0 v1/\s=[s0 v0 v1,s1 v0 v1])) (hf:P.funcs[f]?=some fn) (hb:(fn.body.isNone ||fn.name == "runtime.NumGoroutine")=false)
  (hx:LEs (xs.map af.ev) args) (hk: ∀v0 v1,K (af.put d (A v0 v1)) (s0 v0 v1::s1 v0 v1::ρ)):opB P ⟨d, .call { callee:= .value (.func f),args:=xs.toArray,argTypes:=ats },ty,pos,after,g⟩ af (ρ) K:=
 op_funX (σ0:=[]) hp hf hb hx (λ av s' h=>by
  obtain⟨v0,v1,rfl,rfl⟩:=h
  exact hk v0 v1)
theorem op_fun_1_0_0 {f:FuncId} {fn:Func} {args:List AV} {x0:Item} {A:AV} {xs:List Operand} {ats:Array TypeId} {K:AF->Items->Prop} (hp:Fun P f args [x0] (λ a s=>a=A/\s=[])) (hf:P.funcs[f]?=some fn) (hb:(fn.body.isNone ||fn.name == "runtime.NumGoroutine")=false)
  (hx:LEs (xs.map af.ev) args) (hk:K (af.put d (A)) (ρ)):opB P ⟨d, .call { callee:= .value (.func f),args:=xs.toArray,argTypes:=ats },ty,pos,after,g⟩ af (x0::ρ) K:=
 op_funX (σ0:=[x0]) hp hf hb hx (λ av s' h=>by
  obtain⟨rfl,rfl⟩:=h
  exact hk)
theorem zdg {f:FuncId} {fn:Func} {args:List AV} {x0:Item} {A:AV} {s0:Item} {xs:List Operand} {ats:Array TypeId} {K:AF->Items->Prop} (hp:Fun P f args [x0] (λ a s=>a=A/\s=[s0])) (hf:P.funcs[f]?=some fn) (hb:(fn.body.isNone ||fn.name == "runtime.NumGoroutine")=false)
  (hx:LEs (xs.map af.ev) args) (hk:K (af.put d (A)) (s0::ρ)):opB P ⟨d, .call { callee:= .value (.func f),args:=xs.toArray,argTypes:=ats },ty,pos,after,g⟩ af (x0::ρ) K:=
 op_funX (σ0:=[x0]) hp hf hb hx (λ av s' h=>by
  obtain⟨rfl,rfl⟩:=h
  exact hk)
theorem op_fun_2_0_1 {f:FuncId} {fn:Func} {args:List AV} {x0 x1:Item} {A:AV} {s0:Item} {xs:List Operand} {ats:Array TypeId} {K:AF->Items->Prop} (hp:Fun P f args [x0,x1] (λ a s=>a=A/\s=[s0])) (hf:P.funcs[f]?=some fn) (hb:(fn.body.isNone ||fn.name == "runtime.NumGoroutine")=false)
  (hx:LEs (xs.map af.ev) args) (hk:K (af.put d (A)) (s0::ρ)):opB P ⟨d, .call { callee:= .value (.func f),args:=xs.toArray,argTypes:=ats },ty,pos,after,g⟩ af (x0::x1::ρ) K:=
 op_funX (σ0:=[x0,x1]) hp hf hb hx (λ av s' h=>by
  obtain⟨rfl,rfl⟩:=h
  exact hk)
theorem op_fun_3_1_3 {f:FuncId} {fn:Func} {args:List AV} {x0 x1 x2:Item} {X0:Type} {A:X0->AV} {s0 s1 s2:X0->Item} {xs:List Operand} {ats:Array TypeId} {K:AF->Items->Prop} (hp:Fun P f args [x0,x1,x2] (λ a s=> ∃v0,a=A v0/\s=[s0 v0,s1 v0,s2 v0])) (hf:P.funcs[f]?=some fn) (hb:(fn.body.isNone ||fn.name == "runtime.NumGoroutine")=false)
  (hx:LEs (xs.map af.ev) args) (hk: ∀v0,K (af.put d (A v0)) (s0 v0::s1 v0::s2 v0::ρ)):opB P ⟨d, .call { callee:= .value (.func f),args:=xs.toArray,argTypes:=ats },ty,pos,after,g⟩ af (x0::x1::x2::ρ) K:=
 op_funX (σ0:=[x0,x1,x2]) hp hf hb hx (λ av s' h=>by
  obtain⟨v0,rfl,rfl⟩:=h
  exact hk v0)
theorem Pure.ofOwn {f:FuncId} {args:List AV} {α:Type} {n:Nat} {enc:α->List AV} {xs:List α} (he: ∀x,(enc x).length=n) (h:Fun P f args [] (λ a s=> ∃v,a= .exact v/\s=[vecT P t n enc v xs])):Pure P f args (.row n enc xs):=by
 intro M w vs hM hfit
 have hown: ∀k, ¬Items.own [] k:=λ k hk=>by simp[Items.own]at hk
 refine(h M w vs ⟨hM,λ k hk=>(hown k hk).elim,List.nodup_nil,λ it hi=>by cases hi⟩ (hfit.keep (Keeps.refl _ _) (λ k _ hk=>hk.elim id (λ h=>(hown k h).elim)))).mono ?_
 rintro e w' ⟨v,hev,av,σ',⟨v',rfl,rfl⟩,hg,hk,hn,hp⟩
 obtain rfl:v=v':=hp
 refine⟨v,hev,hk.mono (λ k _ ho=>(hown k ho).elim), ?_⟩
 refine vec_row (λ k hkb hMk=> ?_) he (hg.items _ List.mem_cons_self) (λ k _ hk=> .inl hk)
 exact(hg.own k (List.mem_flatMap.2 ⟨_,List.mem_cons_self,by simp[vecT,vecI,hkb]⟩)).2 hMk
end
end
noncomputable section
open Go.RowKit
abbrev AF0:AF:=λ _=> .top
theorem hmixP:(Tryz.prog).follows .mixedOrders=true:=by kernel_rfl
abbrev bs (l:List UInt8):ByteArray:=⟨l.toArray⟩
theorem OneC.nilc:OneC [.exact (.slice none 0 0)]:=OneC.cons (λ M w u h=>by rw[show u=_ from h];rfl) OneC.nil
section
variable {P:Program} {E:Env} {N:Nat} {af:AF} {σ ρ:Items} {w:World}
variable {d:Option Tmp} {ty:TypeId} {pos:String} {after:Array Edge} {g:Option (Nat×Bool)} {t t' e:TypeId} {x y z:Operand} {K:AF->Prop}
theorem SubU.freezeT2 {α:Type} {n:Nat} {enc:α->List AV} {xs:List α} {v:Value} {s1 s2:Tmp} (h1:af s1= .exact v) (h2:af s2= .exact v) (he: ∀x,(enc x).length=n):
  SubU af (vecT P t n enc v xs::σ) ((af.put (some s1) (.row n enc xs)).put (some s2) (.row n enc xs)) σ:=λ E n a w hh=>by
 have a1:=SubU.freezeT (P:=P) (t:=t) (xs:=xs) (σ:=σ) h1 he E n a w hh
 have a2:=SubU.freezeT (P:=P) (t:=t) (xs:=xs) (σ:=σ) h2 he E n a w hh
 refine⟨a1.tmps,a1.defers,a1.kept,a1.old,a1.good,λ u=> ?_⟩
 by_cases hu:u=s2
 .subst hu;have:=a2.fits u;rw[AF.put_same]at this ⊢;exact this
 .rw[AF.put_other _ _ hu];exact a1.fits u
theorem SubU.freezeT3 {α:Type} {n:Nat} {enc:α->List AV} {xs:List α} {v:Value} {s1 s2 s3:Tmp} (h1:af s1= .exact v) (h2:af s2= .exact v) (h3:af s3= .exact v) (he: ∀x,(enc x).length=n):
  SubU af (vecT P t n enc v xs::σ) (((af.put (some s1) (.row n enc xs)).put (some s2) (.row n enc xs)).put (some s3) (.row n enc xs)) σ:=λ E n a w hh=>by
 have a1:=SubU.freezeT2 (P:=P) (t:=t) (xs:=xs) (σ:=σ) h1 h2 he E n a w hh
 have a2:=SubU.freezeT (P:=P) (t:=t) (xs:=xs) (σ:=σ) h3 he E n a w hh
 refine⟨a1.tmps,a1.defers,a1.kept,a1.old,a1.good,λ u=> ?_⟩
 by_cases hu:u=s3
 .subst hu;have:=a2.fits u;rw[AF.put_same]at this ⊢;exact this
 .rw[AF.put_other _ _ hu];exact a1.fits u
section
variable {a b:UInt8} {p:Prop} [Decidable p]
abbrev uA (a:UInt8):AV:= .exact (.int .u8 (UInt8.toNat a:Int))
theorem dU (p q:Prop) [Decidable p] [Decidable q] (h:p↔q):AV.exact (.bool (decide p))=AV.exact (.bool (decide q)):=by rw[decide_eq_decide.2 h]
theorem u8_eq (a b:UInt8):(a.toNat:Int)=(b.toNat:Int)↔a=b:=by rw[←UInt8.toNat_inj];omega
theorem zgr (hx:af.ev x=uA a) (hy:af.ev y=uA b) (hk:K (af.put d (.exact (.bool (decide (a=b)))))):opA P ⟨d, .binOp .eql t x y t',ty,pos,after,g⟩ af K:=
 zbf hx hy (by rw[dU _ (a=b) (u8_eq a b)];exact hk)
end
theorem op_min {k:IntKind} {a b:Int} {ts:Array TypeId} (hx:af.ev x= .exact (.int k a)) (hy:af.ev y= .exact (.int k b)) (hk:K (af.put d (.exact (.int k (min a b))))):opA P ⟨d, .call { callee:= .builtin .min,args:= #[x,y],argTypes:=ts },ty,pos,after,g⟩ af K:=by
 refine⟨_,λ M w ev _ h=> ?_,hk⟩
 have e1:=opnd h (x:=x) (by simp[Op.operands,Call.operands]) hx
 have e2:=opnd h (x:=y) (by simp[Op.operands,Call.operands]) hy
 simp[execOp,resolve,invoke,builtin,Builtin.min_,Builtin.min2,e1,e2,go_sem,UponQ]
 refine⟨Keeps.refl _ _, ?_⟩
 show _=_
 congr 1
 split <;>omega
theorem op_max {k:IntKind} {a b:Int} {ts:Array TypeId} (hx:af.ev x= .exact (.int k a)) (hy:af.ev y= .exact (.int k b)) (hk:K (af.put d (.exact (.int k (max a b))))):opA P ⟨d, .call { callee:= .builtin .max,args:= #[x,y],argTypes:=ts },ty,pos,after,g⟩ af K:=by
 refine⟨_,λ M w ev _ h=> ?_,hk⟩
 have e1:=opnd h (x:=x) (by simp[Op.operands,Call.operands]) hx
 have e2:=opnd h (x:=y) (by simp[Op.operands,Call.operands]) hy
 simp[execOp,resolve,invoke,builtin,Builtin.max_,Builtin.max2,e1,e2,go_sem,UponQ]
 refine⟨Keeps.refl _ _, ?_⟩
 show _=_
 congr 1
 split <;>omega
section
variable {a b:List UInt8}
theorem bs_inj:bs a=bs b↔a=b:=⟨λ h=>by injection h with h;simpa using congrArg Array.toList h,λ h=>by rw[h]⟩
theorem bs_toList:(bs a).toList=a:=by rw[ByteArray.toList_eq]
theorem bs_size:(bs a).size=a.length:=rfl
theorem op_eqlS (hx:af.ev x= .exact (.string (bs a))) (hy:af.ev y= .exact (.string (bs b))) (hk:K (af.put d (.exact (.bool (decide (a=b)))))):opA P ⟨d, .binOp .eql t x y t',ty,pos,after,g⟩ af K:=
 op_eql_str hx hy (by rw[dU (bs a=bs b) (a=b) bs_inj];exact hk)
theorem op_neqS (hx:af.ev x= .exact (.string (bs a))) (hy:af.ev y= .exact (.string (bs b))) (hk:K (af.put d (.exact (.bool (decide (¬a=b)))))):opA P ⟨d, .binOp .neq t x y t',ty,pos,after,g⟩ af K:=
 op_neq_str hx hy (by rw[dU (¬bs a=bs b) (¬a=b) (not_congr bs_inj)];exact hk)
theorem op_addS (hl:a.length+b.length≤9223372036854775807) (hx:af.ev x= .exact (.string (bs a))) (hy:af.ev y= .exact (.string (bs b))) (hk:K (af.put d (.exact (.string (bs (a++b)))))):opA P ⟨d, .binOp .add t x y t',ty,pos,after,g⟩ af K:=by
 refine⟨_,λ M w ev _ h=> ?_,hk⟩
 have e1:=opnd h (x:=x) (by simp[Op.operands]) hx
 have e2:=opnd h (x:=y) (by simp[Op.operands]) hy
 have e3:bs a++bs b=bs (a++b):=by
  apply ByteArray.ext
  rw[ByteArray.data_append]
  simp
 have hm:IntKind.i64.max=9223372036854775807:=by decide
 have hr:(execOp ev ⟨d, .binOp .add t x y t',ty,pos,after,g⟩).run P w= .ok (.value (.string (bs (a++b)))) w:=by
  unfold execOp
  simp only[eqGuard,e1,e2,binOp,Op.stringOp,hm,bs_size]
  rw[if_neg (show¬(((a.length+b.length:Nat):Int)>9223372036854775807)by omega),e3]
  simp[go_sem]
 rw[hr]
 exact⟨Keeps.refl _ _,rfl⟩
theorem op_lenS (hB:isStrB P t=true) (hx:af.ev x= .exact (.string (bs a))) (hk:K (af.put d (.exact (.int .i64 (a.length:Int))))):
  opA P ⟨d, .call { callee:= .builtin .len,args:= #[x],argTypes:= #[t] },ty,pos,after,g⟩ af K:=op_len_str hB hx hk
theorem zct {k:IntKind} {i:Int} (hB:isStrB P t=true) (hx:af.ev x= .exact (.string (bs a))) (hy:af.ev y= .exact (.int k i)) (h0:0≤i) (h1:i<a.length) (hk:K (af.put d (uA (gi a i)))):opA P ⟨d, .index t x y,ty,pos,after,g⟩ af K:=by
 refine⟨_,λ M w ev _ h=> ?_,hk⟩
 have e1:=opnd h (x:=x) (by simp[Op.operands]) hx
 have e2:=opnd h (x:=y) (by simp[Op.operands]) hy
 have hu:=isStrB_spec hB
 have e3:(bs a)[i.toNat]?=some (gi a i):=by
  have:=gi_get h0 h1
  have hlt:i.toNat<a.length:=by omega
  rw[getElem?_pos (bs a) i.toNat (by rw[bs_size];exact hlt)]
  rw[List.getElem?_eq_getElem hlt]at this
  injection this with this
  rw[←this]
  rfl
 have hr:(execOp ev ⟨d, .index t x y,ty,pos,after,g⟩).run P w= .ok (.value (.int .u8 (UInt8.toNat (gi a i):Int))) w:=by
  unfold execOp Instr.index
  simp only[asIntOf,e1,e2,Sem.run_bind,zdq hu,Result.andThen_ok,Sem.run_pure,if_pos h0,e3]
 rw[hr]
 exact⟨Keeps.refl _ _,rfl⟩
def bytesB (P:Program) (t t':TypeId):Bool:=(match P.underlying t with|some (.slice e)=>(match P.underlying e with|some (.int .u8)=>true|_=>false)|_=>false) && isStrB P t'
theorem bytesB_spec (h:bytesB P t t'=true): ∃e,P.underlying t=some (.slice e)/\P.underlying e=some (.int .u8)/\P.underlying t'=some .string:=by
 simp only[bytesB,Bool.and_eq_true]at h
 obtain⟨h1,h2⟩:=h
 split at h1
 .rename_i e hu
  split at h1
  .rename_i hu';exact⟨e,hu,hu',isStrB_spec h2⟩
  .cases h1
 .cases h1
theorem foldl_push: ∀(l:List UInt8) (r:ByteArray),(l.map λ c=>(c.toNat:Int)).foldl (λ r n=>r.push (UInt8.ofNat n.toNat)) r=⟨r.data++l.toArray⟩
 |[],r=>by simp
 |c::l,r=>by
  simp only[List.map_cons,List.foldl_cons]
  rw[foldl_push l]
  have:UInt8.ofNat ((c.toNat:Int)).toNat=c:=by simp
  rw[this]
  apply ByteArray.ext
  simp[ByteArray.push]
theorem run_bytes {b off cap:Nat} (hB:bytesB P t t'=true) (hc: ∀j u,a[j]?=some u->w.cell? ⟨b,off+j,none⟩=some (.int .u8 (UInt8.toNat u:Int))):(convert t t' (.slice (some ⟨b,off,none⟩) a.length cap)).run P w= .ok (.string (bs a)) w:=by
 obtain⟨e,hu,hu',hs⟩:=bytesB_spec hB
 have h3:=run_cells (P:=P) (w:=w) (b:=b) a.length off 0 (a.map λ c=>Value.int .u8 (c.toNat:Int)) #[] (λ j hj=>⟨.int .u8 (UInt8.toNat a[j]:Int),by simp[hj],by
  have:=hc j a[j] (List.getElem?_eq_getElem hj);simpa using this⟩) (by simp)
 have h4:=run_bytesToString (P:=P) w ⟨b,off,none⟩ a.length cap (a.map λ c=>(c.toNat:Int)) (by unfold loadCells;rw[h3];simp[Function.comp_def])
 rw[foldl_push]at h4
 unfold convert
 simp only[Sem.run_bind,zdq hu,zdq hs,Result.andThen_ok,zdq hu',h4]
 simp
theorem run_bytes0 {cap:Nat} (hB:bytesB P t t'=true):(convert t t' (.slice none 0 cap)).run P w= .ok (.string (bs [])) w:=by
 obtain⟨e,hu,hu',hs⟩:=bytesB_spec hB
 unfold convert
 simp only[Sem.run_bind,zdq hu,zdq hs,Result.andThen_ok,zdq hu',Conv.bytesToString,Sem.run_pure]
 rfl
abbrev cU8 (x:UInt8):List AV:=[uA x]
theorem run_bytes_any {A:Option Addr} {cap:Nat} (hB:bytesB P t t'=true) (hA:a≠[]-> ∃b off,A=some ⟨b,off,none⟩/\ ∀j u,a[j]?=some u->w.cell? ⟨b,off+j,none⟩=some (.int .u8 (UInt8.toNat u:Int))):
  (convert t t' (.slice A a.length cap)).run P w= .ok (.string (bs a)) w:=by
 by_cases hne:a=[]
 .subst hne
  obtain⟨e,hu,hu',hs⟩:=bytesB_spec hB
  cases A with
  |none=>exact run_bytes0 hB
  |some q=>
   have h4:=run_bytesToString (P:=P) w q 0 cap [] (by simp[loadCells,loadCellsFrom,go_sem])
   unfold convert
   simp only[Sem.run_bind,zdq hu,zdq hs,Result.andThen_ok,zdq hu',List.length_nil,h4]
   rfl
 .obtain⟨b,off,rfl,hc⟩:=hA hne
  exact run_bytes hB hc
theorem op_bytesS {enc:UInt8->List AV} (henc:enc=cU8) (hB:bytesB P t t'=true) (hx:af.ev x= .row 1 enc a) (hk:K (af.put d (.exact (.string (bs a))))):opA P ⟨d, .convert t t' x,ty,pos,after,g⟩ af K:=by
 subst henc
 refine⟨_,λ M w ev _ h=> ?_,hk⟩
 obtain⟨A,c,e1,_,_,e4⟩:=zgw h (x:=x) (by simp[Op.operands]) hx
 have hr:(execOp ev ⟨d, .convert t t' x,ty,pos,after,g⟩).run P w= .ok (.value (.string (bs a))) w:=by
  unfold execOp
  simp only[e1,Sem.run_bind,run_bytes_any (a:=a) (A:=A) (cap:=c) hB (λ hne=>by
   obtain⟨b,off,rfl,_,_,hc⟩:=e4 hne
   exact⟨b,off,rfl,λ j u hj=>by
    obtain⟨_,h2⟩:=hc j u hj
    obtain⟨v,h3,h4⟩:=h2 0 _ rfl
    obtain rfl:v= .int .u8 (UInt8.toNat u:Int):=h4
    simpa using h3⟩),Result.andThen_ok,Sem.run_pure]
 rw[hr]
 exact⟨Keeps.refl _ _,rfl⟩
end
end
end
noncomputable section
open Go.RowKit
section
variable {P:Program} {E:Env} {N:Nat} {af:AF} {σ ρ:Items} {w:World}
variable {d:Option Tmp} {ty:TypeId} {pos:String} {after:Array Edge} {g:Option (Nat×Bool)} {t t' e:TypeId} {x y z:Operand} {K:AF->Prop}
def fillA (place:Nat->Option (Nat×Nat)):List AV->List (Nat×List AV)->Option (List AV)
 |c,[]=>some c
 |c,(i,u)::rest=>match place i with
  |none=>none
  |some (off,size)=>if u.length !=size ||decide (off+u.length>c.length)then none else fillA place (splc c off u) rest
def builtA (P:Program) (t:TypeId) (parts:List (Nat×List AV)):Option (List AV):=
 match P.info? t,P.underlying t with
 |some it,some (.array _ e)=>
  match it.zero,P.info? e with
  |some z,some ie=>fillA (λ i=>some (i*ie.size,ie.size)) (z.cells.toList.map .exact) parts
  |_,_=>none
 |some it,some (.struct fields)=>
  match it.zero,fields.toList.mapM (λ f=>(P.info? f.type).map λ i=>(f.offset,i.size))with
  |some z,some places=>fillA (places.toArray[·]?) (z.cells.toList.map .exact) parts
  |_,_=>none
 |_,_=>none
theorem fill_fit {M:BSet} (place:Nat->Option (Nat×Nat)): ∀{ps:List (Nat×List AV)} {qs:List (Nat×Value)} {c c':List AV} {vs:List Value},Fit M w c vs->ps.length=qs.length->
  (∀(k:Nat) (p:Nat×List AV) (q:Nat×Value),ps[k]?=some p->qs[k]?=some q->p.1=q.1/\ ∃us:List Value,q.2.cells=us.toArray/\Fit M w p.2 us)->fillA place c ps=some c'->
  ∃us:List Value,Instr.fill place vs.toArray qs=some us.toArray/\Fit M w c' us
 |[],[],c,c',vs,hf,_,_,h=>by simp[fillA]at h;subst h;exact⟨vs,rfl,hf⟩
 |(i,u)::ps,(j,v)::qs,c,c',vs,hf,hl,hp,h=>by
  obtain⟨h1,us,h2,h3⟩:=hp 0 _ _ rfl rfl
  dsimp only at h1 h2 h3
  subst h1
  unfold fillA at h
  unfold Instr.fill
  cases hpl:place i with
  |none=>simp[hpl]at h
  |some os=>
   obtain⟨off,size⟩:=os
   simp only[hpl]at h⊢
   split at h
   .cases h
   .rename_i hc
    simp only[Bool.or_eq_true,bne_iff_ne,ne_eq,decide_eq_true_eq,not_or,Classical.not_not,Nat.not_lt]at hc
    have hul:=h3.length
    have hcl:=hf.length
    have hvs:v.cells.size=us.length:=by rw[h2];simp
    rw[if_neg (by simp[hvs];omega)]
    have hfold:(v.cells.zipIdx.foldl (λ cs (p:Value×Nat)=>cs.setIfInBounds (off+p.2) p.1) vs.toArray)=(splc vs off us).toArray:=by
     apply Array.ext'
     rw[←Array.foldl_toList,Array.toList_zipIdx,h2,foldl_set us 0 vs.toArray (by simp;omega)]
     simp[splc]
    rw[hfold]
    exact fill_fit place (Fit.spl off hf h3) (by simpa using hl) (λ k p q hk hq=>hp (k+1) p q (by simpa using hk) (by simpa using hq)) h
theorem cells_get {M:BSet} {ev:Operand->Value}: ∀{ps:List (Nat×Operand)} {cs:List (List AV)},CellsAll af ps cs->(∀p∈ps,(af.ev p.2).p M w (ev p.2))->
  cs.length=ps.length/\ ∀(k:Nat) (p:Nat×Operand) (c:List AV),ps[k]?=some p->cs[k]?=some c-> ∃us:List Value,(ev p.2).cells=us.toArray/\Fit M w c us
 |[],[],_,_=>⟨rfl,λ k p c h=>by simp at h⟩
 |p::ps,c::cs,h,hv=>by
  obtain⟨h1,h2⟩:=cells_get h.2 (λ q hq=>hv q (by simp[hq]))
  refine⟨by simp[h1],λ k q c' hk hc=> ?_⟩
  cases k with
  |zero=>simp at hk hc;subst hk hc;exact h.1 M w _ (hv p (by simp))
  |succ k=>exact h2 k q c' (by simpa using hk) (by simpa using hc)
theorem zft {ps:List (Nat×Operand)} {cs:List (List AV)} {c0 c':List AV} (hc:CellsAll af ps cs) (hB:builtA P t ((ps.map (·.1)).zip cs)=some c0) (hle:LEs c0 c') (hk:K (af.put d (.agg c'))):opA P ⟨d, .build t ps.toArray,ty,pos,after,g⟩ af K:=by
 refine⟨_,λ M w ev hM h=> ?_,hk⟩
 have hv: ∀p∈ps,(af.ev p.2).p M w (ev p.2):=λ p hp=>h p.2 (by simp[Op.operands];exact⟨p.1,hp⟩)
 obtain⟨hl,hg⟩:=cells_get hc hv
 have key: ∀(place:Nat->Option (Nat×Nat)) (z:Value),fillA place (z.cells.toList.map .exact) ((ps.map (·.1)).zip cs)=some c0-> ∃us:List Value,Instr.fill place z.cells (ps.map λ p=>(p.1,ev p.2))=some us.toArray/\Fit M w c0 us:=by
  intro place z hf
  have:=fill_fit (M:=M) (w:=w) place (qs:=ps.map λ p=>(p.1,ev p.2)) (vs:=z.cells.toList) (fit_exact _) (by simp[hl]) (λ k p q hkp hkq=>by
   rw[List.getElem?_map,Option.map_eq_some_iff]at hkq
   obtain⟨o,ho,rfl⟩:=hkq
   rw[List.getElem?_zip_eq_some]at hkp
   obtain⟨g1,g2⟩:=hkp
   rw[List.getElem?_map,ho]at g1
   obtain⟨p1,p2⟩:=p
   injection g1 with g1
   exact⟨g1.symm,hg k o _ ho g2⟩) hf
  simpa using this
 have hb: ∃us:List Value,P.built t (ps.map λ p=>(p.1,ev p.2))=some us.toArray/\Fit M w c0 us:=by
  unfold builtA at hB
  unfold Program.built
  cases hit:P.info? t with
  |none=>simp[hit]at hB
  |some it=>
   cases hu:P.underlying t with
   |none=>simp[hit,hu]at hB
   |some D=>
    cases hz:it.zero with
    |none=>cases D <;>simp[hit,hu,hz]at hB
    |some z=>
     cases D <;>try (simp[hit,hu]at hB;done)
     case array n e=>
      cases hie:P.info? e with
      |none=>simp[hit,hu,hz,hie]at hB
      |some ie=>
       simp only[hit,hu,hz,hie]at hB⊢
       exact key _ z hB
     case struct fields=>
      cases hp:fields.toList.mapM (λ f=>(P.info? f.type).map λ i=>(f.offset,i.size))with
      |none=>simp[hit,hu,hz,hp]at hB
      |some places=>
       simp only[hit,hu,hz,hp]at hB⊢
       exact key _ z hB
 obtain⟨us,h1,h2⟩:=hb
 have hr:(execOp ev ⟨d, .build t ps.toArray,ty,pos,after,g⟩).run P w= .ok (.value (.agg us.toArray)) w:=by
  have hbb:=run_build (P:=P) w t (ps.toArray.map λ x=>(x.1,ev x.2)) us.toArray (by simpa using h1)
  unfold execOp
  simp only[Sem.run_bind,hbb,Result.andThen_ok,Sem.run_pure]
 rw[hr]
 exact⟨Keeps.refl _ _,us,rfl,LE_fit hle h2⟩
section
variable {α:Type} {n:Nat} {enc:α->List AV} {xs:List α} {lo hi:Option Operand} {m:Operand} {i j q:Int} {k k1 k2:IntKind}
theorem op_slice_row3 {hi:Operand} (hB:sliceB P t n=true) (hx:af.ev x= .row n enc xs) (hlo:bnd af lo 0 i) (hhi:af.ev hi= .exact (.int k1 j)) (hm:af.ev m= .exact (.int k2 q)) (h0:0≤i) (h1:i≤j) (h2:j≤q) (h3:q≤xs.length)
  (hk:K (af.put d (.row n enc ((xs.drop i.toNat).take (j.toNat - i.toNat))))):opA P ⟨d, .slice t x lo (some hi) (some m),ty,pos,after,g⟩ af K:=by
 refine⟨_,λ M w ev _ h=> ?_,hk⟩
 obtain⟨A,c,e1,hc1,hc2,e4⟩:=zgw h (x:=x) (by cases lo <;>simp[Op.operands]) hx
 obtain⟨e,hu,hs⟩:=sliceB_spec hB
 obtain⟨a,rfl⟩:=Int.eq_ofNat_of_zero_le h0
 obtain⟨b,rfl⟩:=Int.eq_ofNat_of_zero_le (Int.le_trans h0 h1)
 obtain⟨p,rfl⟩:=Int.eq_ofNat_of_zero_le (Int.le_trans (Int.le_trans h0 h1) h2)
 simp only[Int.toNat_natCast]
 have h1':a≤b:=by omega
 have h2':b≤p:=by omega
 have hlen:((xs.drop a).take (b - a)).length=b - a:=by simp;omega
 have em:=opnd h (x:=m) (by cases lo <;>simp[Op.operands]) hm
 have eh:=opnd h (x:=hi) (by cases lo <;>simp[Op.operands]) hhi
 have hrun:(execOp ev ⟨d, .slice t x lo (some hi) (some m),ty,pos,after,g⟩).run P w= .ok (.value (.slice (if p=a then A else A.map (·.add (a*n))) (b - a) (p - a))) w:=by
  have hpc:p≤c:=by omega
  have hb:(Instr.sliceBounds true xs.length c (lo.map ev) (some (ev hi)) (some (ev m))).run P w= .ok (a,b,p) w:=by
   unfold Instr.sliceBounds
   cases lo with
   |none=>
    have:(a:Int)=0:=hlo
    obtain rfl:a=0:=by omega
    simp[Instr.sliceBound,asIntOf,em,eh,hpc,h2',go_sem]
   |some o=>
    obtain⟨k0,hk0⟩:=hlo
    have e2:=opnd h (x:=o) (by simp[Op.operands]) hk0
    simp[Instr.sliceBound,asIntOf,em,eh,e2,hpc,h2',h1',go_sem]
  unfold execOp
  simp only[Instr.sliceAt,Instr.slice,e1,Sem.run_bind,zdq hu,Result.andThen_ok,Option.map_some,hb,run_size hs,Sem.run_pure]
 rw[hrun]
 show Keeps noB w w/\_
 refine⟨Keeps.refl _ _,(if p=a then A else A.map (·.add (a*n))),p - a, ?_, ?_, ?_,λ hne=> ?_⟩
 .rw[hlen]
 .rw[hlen];omega
 .omega
 .have hxs:xs≠[]:=by rintro rfl;simp at hne
  obtain⟨bb,off,rfl,hb,hnM,hcell⟩:=e4 hxs
  have hij:a<b:=by
   rcases Nat.lt_or_ge a b with h|h
   .exact h
   .exact absurd (List.eq_nil_of_length_eq_zero (by rw[hlen];omega)) hne
  rw[if_neg (by omega)]
  refine⟨bb,off+a*n,by simp[addr_add'],hb,hnM,λ q x hq=> ?_⟩
  have hq':xs[a+q]?=some x:=by
   rw[List.getElem?_take]at hq
   split at hq
   .rwa [List.getElem?_drop]at hq
   .cases hq
  obtain⟨g1,g2⟩:=hcell _ _ hq'
  refine⟨g1, ?_⟩
  have e:off+(a+q)*n=off+a*n+q*n:=by rw[Nat.add_mul];omega
  rwa [e]at g2
theorem op_slice_str {s : List UInt8} (hB : isStrB P t = true) (hx : af.ev x = .exact (.string (bs s))) (hlo : bnd af lo 0 i) (hhi : bnd af hi s.length j) (h0 : 0 ≤ i) (h1 : i ≤ j) (h2 : j ≤ s.length)
    (hk:K (af.put d (.exact (.string (bs ((s.drop i.toNat).take (j.toNat - i.toNat))))))):opA P ⟨d, .slice t x lo hi none,ty,pos,after,g⟩ af K:=by
  refine⟨_,λ M w ev _ h=> ?_,hk⟩
  have e1:=opnd h (x:=x) (by cases lo <;>cases hi <;>simp[Op.operands]) hx
  have hu:=isStrB_spec hB
  obtain⟨a,rfl⟩:=Int.eq_ofNat_of_zero_le h0
  obtain⟨b,rfl⟩:=Int.eq_ofNat_of_zero_le (Int.le_trans h0 h1)
  simp only[Int.toNat_natCast]
  have h1':a≤b:=by omega
  have h2':b≤s.length:=by omega
  have hrun:(execOp ev ⟨d, .slice t x lo hi none,ty,pos,after,g⟩).run P w= .ok (.value (.string (bs ((s.drop a).take (b - a))))) w:=by
    have hh:(match hi.map ev with|some v=>Instr.sliceBound v s.length .sliceAlen|none=>pure s.length:Sem Nat).run P w= .ok b w:=by
      cases hi with
      | none => have : (b : Int) = s.length := hhi; obtain rfl : b = s.length := by omega
                simp[go_sem]
      |some o=>
        obtain⟨k,hk⟩:=hhi
        have e2:=opnd h (x:=o) (by cases lo <;>simp[Op.operands]) hk
        simp[Instr.sliceBound,asIntOf,e2,h2',go_sem]
    have hl:(match lo.map ev with|some v=>Instr.sliceBound v b .sliceB|none=>pure 0:Sem Nat).run P w= .ok a w:=by
      cases lo with
      | none => have : (a : Int) = 0 := hlo; obtain rfl : a = 0 := by omega
                simp[go_sem]
      |some o=>
        obtain⟨k,hk⟩:=hlo
        have e2:=opnd h (x:=o) (by simp[Op.operands]) hk
        simp[Instr.sliceBound,asIntOf,e2,h1',go_sem]
    have hb:(Instr.sliceBounds false s.length s.length (lo.map ev) (hi.map ev) none).run P w= .ok (a,b,s.length) w:=by
      unfold Instr.sliceBounds
      simp only[Sem.run_bind,Sem.run_pure,Result.andThen_ok]
      cases hi with
      |none=>
        cases lo with
        |none=>simp[go_sem]at hh hl ⊢;exact⟨hl,hh⟩
        |some o=>simp[go_sem]at hh hl ⊢;simp[hh,hl]
      |some o'=>
        cases lo with
        |none=>simp[go_sem]at hh hl ⊢;simp[hh,hl]
        |some o=>simp[go_sem]at hh hl ⊢;simp[hh,hl]
    have e3:(bs s).extract a b=bs ((s.drop a).take (b - a)):=by
      apply ByteArray.ext
      rw[ByteArray.data_extract]
      simp[List.extract_eq_take_drop]
    unfold execOp
    simp only[Instr.sliceAt,Instr.slice,e1,Sem.run_bind,zdq hu,Result.andThen_ok,Option.map_none,Option.isSome_none,Bool.false_eq_true,if_false,Sem.run_pure,bs_size,hb,e3]
  rw[hrun]
  exact⟨Keeps.refl _ _,rfl⟩
end
end
end
noncomputable section
open Go.RowKit
section
variable {P:Program} {E:Env} {N:Nat} {af:AF} {σ ρ:Items} {w:World}
variable {d:Option Tmp} {ty:TypeId} {pos:String} {after:Array Edge} {g:Option (Nat×Bool)} {t t' e:TypeId} {x y z:Operand}
section
variable {K:AF->Prop}
theorem op_eqlB {a b:Bool} (hB:isBoolB P t=true) (hx:af.ev x= .exact (.bool a)) (hy:af.ev y= .exact (.bool b)) (hk:K (af.put d (.exact (.bool (decide (a=b)))))):opA P ⟨d, .binOp .eql t x y t',ty,pos,after,g⟩ af K:=op_eql_bool hB hx hy hk
theorem op_neqB {a b:Bool} (hB:isBoolB P t=true) (hx:af.ev x= .exact (.bool a)) (hy:af.ev y= .exact (.bool b)) (hk:K (af.put d (.exact (.bool (decide (¬a=b)))))):opA P ⟨d, .binOp .neq t x y t',ty,pos,after,g⟩ af K:=by
 refine⟨_,λ M w ev _ h=> ?_,hk⟩
 have e1:=opnd h (x:=x) (by simp[Op.operands]) hx
 have e2:=opnd h (x:=y) (by simp[Op.operands]) hy
 have hq:(Op.equal t (.bool a) (.bool b)).run P w= .ok (decide (a=b)) w:=by
  rw[run_equal_bool w t a b (isBoolB_spec hB)]
  cases a <;>cases b <;>rfl
 have hr:(execOp ev ⟨d, .binOp .neq t x y t',ty,pos,after,g⟩).run P w= .ok (.value (.bool (decide (¬a=b)))) w:=by
  unfold execOp
  simp only[eqGuard,binOp,e1,e2,Sem.run_bind,hq,Sem.run_pure,Result.andThen_ok]
  simp[go_sem]
  rw[hq]
  simp[go_sem]
 rw[hr]
 exact⟨Keeps.refl _ _,rfl⟩
def guardB (P:Program) (t:TypeId):Bool:= !P.eqGuardType P.depth t
theorem op_eqlA {α:Type} [DecidableEq α] {enc:α->List AV} {a b:α} (hg:guardB P t=true) (heq: ∀{M w vs us},Fit M w (enc a) vs->Fit M w (enc b) us->(Op.equal t (.agg vs.toArray) (.agg us.toArray)).run P w= .ok (decide (a=b)) w) (hx:af.ev x= .agg (enc a)) (hy:af.ev y= .agg (enc b))
  (hk:K (af.put d (.exact (.bool (decide (a=b)))))):opA P ⟨d, .binOp .eql t x y t',ty,pos,after,g⟩ af K:=by
 refine⟨_,λ M w ev _ h=> ?_,hk⟩
 obtain⟨vs,e1,f1⟩:=zgw h (x:=x) (by simp[Op.operands]) hx
 obtain⟨us,e2,f2⟩:=zgw h (x:=y) (by simp[Op.operands]) hy
 have hg':P.eqGuardType P.depth t=false:=by simpa[guardB]using hg
 simp[execOp,eqGuard,run_prog,e1,e2,binOp,hg',heq f1 f2,go_sem,UponQ]
 exact⟨Keeps.refl _ _,rfl⟩
theorem op_bytesS_bor {enc:UInt8->List AV} {a:List UInt8} (henc:enc=cU8) (hB:bytesB P t t'=true) (hx:Bor σ (af.ev x) (.row 1 enc a)) (hk:K (af.put d (.exact (.string (bs a))))):opR P ⟨d, .convert t t' x,ty,pos,after,g⟩ af σ K:=by
 subst henc
 refine⟨_,λ F w ev hg h=> ?_,hk⟩
 obtain⟨A,c,hA,_,_,e4⟩:=hx F w (ev x) hg (h x (by simp[Op.operands]))
 have hr:(execOp ev ⟨d, .convert t t' x,ty,pos,after,g⟩).run P w= .ok (.value (.string (bs a))) w:=by
  unfold execOp
  simp only[hA,Sem.run_bind,run_bytes_any (a:=a) (A:=A) (cap:=c) hB (λ hne=>by
   obtain⟨b,off,rfl,_,_,hc⟩:=e4 hne
   exact⟨b,off,rfl,λ j u hj=>by
    obtain⟨_,h2⟩:=hc j u hj
    obtain⟨v,h3,h4⟩:=h2 0 _ rfl
    obtain rfl:v= .int .u8 (UInt8.toNat u:Int):=h4
    simpa using h3⟩),Result.andThen_ok,Sem.run_pure]
 rw[hr]
 exact⟨Keeps.refl _ _,rfl⟩
def AV.vsub (v:Value) (n lo m:Nat):AV:=⟨λ _ _ u=> ∃A l c,v= .slice A l c/\lo≤c/\m≤c - lo/\u= .slice (if c=lo then A else A.map (·.add (lo*n))) m (c - lo),λ _ _ h=>h⟩
theorem Bor.vsub {α:Type} {n lo m:Nat} {enc:α->List AV} {xs:List α} {v:Value} (hm:vecT P e n enc v xs∈σ) (he: ∀x,(enc x).length=n) (hl:lo+m≤xs.length):Bor σ (.vsub v n lo m) (.row n enc ((xs.drop lo).take m)):=λ F w u hg hx=>by
 obtain⟨A,l,c,rfl,hc1,hc2,rfl⟩:=hx
 obtain⟨A',c',hv,h1,h2,h4⟩:=Bor.vec (w:=w) hm he F _ hg rfl
 injection hv with g1 g2 g3
 subst g1 g2 g3
 have hlen:((xs.drop lo).take m).length=m:=by simp;omega
 refine⟨(if c=lo then A else A.map (·.add (lo*n))),c - lo,by rw[hlen],by rw[hlen];exact hc2,by omega,λ hne=> ?_⟩
 have hxs:xs≠[]:=by rintro rfl;simp at hne
 obtain⟨b,off,rfl,hb,hn,hcell⟩:=h4 hxs
 have hpos:0<m:=by
  rcases Nat.eq_zero_or_pos m with h|h
  .subst h;simp at hne
  .exact h
 rw[if_neg (by omega)]
 refine⟨b,off+lo*n,by simp[addr_add'],hb,hn,λ q x hq=> ?_⟩
 have hq':xs[lo+q]?=some x:=by
  rw[List.getElem?_take]at hq
  split at hq
  .rwa [List.getElem?_drop]at hq
  .cases hq
 obtain⟨g1,g2⟩:=hcell _ _ hq'
 refine⟨g1, ?_⟩
 have e:off+(lo+q)*n=off+lo*n+q*n:=by rw[Nat.add_mul];omega
 rwa [e]at g2
theorem zeh {α : Type} {n : Nat} {enc : α → List AV} {xs : List α} {v : Value} {lo hi : Option Operand} {i j : Int} (hB : sliceB P t n = true) (hx : af.ev x = .exact v) (hlo : bnd af lo 0 i) (hhi : bnd af hi xs.length j) (h0 : 0 ≤ i) (h1 : i ≤ j) (h2 : j ≤ xs.length)
    (hk:K (af.put d (.vsub v n i.toNat (j.toNat - i.toNat)))):opR P ⟨d, .slice t x lo hi none,ty,pos,after,g⟩ af (vecT P e n enc v xs::ρ) K:=by
  refine⟨_,λ F w ev hg h=> ?_,hk⟩
  have e1:=opnd h (x:=x) (by cases lo <;>cases hi <;>simp[Op.operands]) hx
  obtain⟨vs,hown,_⟩:=hg.items _ List.mem_cons_self
  have hv: ∃A c,v= .slice A xs.length c/\xs.length≤c:=by
    rcases hown.2 with⟨rfl,h0⟩|⟨g,cap,cur,rfl,_,_,hc,_⟩
    . exact⟨none,0,by rw[h0],by omega⟩
    . exact⟨_,_,rfl,hc⟩
  obtain⟨A,c,rfl,hc⟩:=hv
  obtain⟨e,hu,hs⟩:=sliceB_spec hB
  obtain⟨a,rfl⟩:=Int.eq_ofNat_of_zero_le h0
  obtain⟨b,rfl⟩:=Int.eq_ofNat_of_zero_le (Int.le_trans h0 h1)
  simp only[Int.toNat_natCast]
  have h1':a≤b:=by omega
  have h2':b≤xs.length:=by omega
  have hrun:(execOp ev ⟨d, .slice t x lo hi none,ty,pos,after,g⟩).run P w= .ok (.value (.slice (if c=a then A else A.map (·.add (a*n))) (b - a) (c - a))) w:=by
    have hh:(match hi.map ev with|some v=>Instr.sliceBound v c .sliceAcap|none=>pure xs.length:Sem Nat).run P w= .ok b w:=by
      cases hi with
      | none => have : (b : Int) = xs.length := hhi; obtain rfl : b = xs.length := by omega
                simp[go_sem]
      |some o=>
        obtain⟨k,hk⟩:=hhi
        have e2:=opnd h (x:=o) (by cases lo <;>simp[Op.operands]) hk
        have hbc:b≤c:=by omega
        simp[Instr.sliceBound,asIntOf,e2,hbc,go_sem]
    have hl:(match lo.map ev with|some v=>Instr.sliceBound v b .sliceB|none=>pure 0:Sem Nat).run P w= .ok a w:=by
      cases lo with
      | none => have : (a : Int) = 0 := hlo; obtain rfl : a = 0 := by omega
                simp[go_sem]
      |some o=>
        obtain⟨k,hk⟩:=hlo
        have e2:=opnd h (x:=o) (by simp[Op.operands]) hk
        simp[Instr.sliceBound,asIntOf,e2,h1',go_sem]
    have hb:(Instr.sliceBounds true xs.length c (lo.map ev) (hi.map ev) none).run P w= .ok (a,b,c) w:=by
      unfold Instr.sliceBounds
      simp only[Sem.run_bind,Sem.run_pure,Result.andThen_ok]
      cases hi with
      |none=>
        cases lo with
        |none=>simp[go_sem]at hh hl ⊢;exact⟨hl,hh⟩
        |some o=>simp[go_sem]at hh hl ⊢;simp[hh,hl]
      |some o'=>
        cases lo with
        |none=>simp[go_sem]at hh hl ⊢;simp[hh,hl]
        |some o=>simp[go_sem]at hh hl ⊢;simp[hh,hl]
    unfold execOp
    simp only[Instr.sliceAt,Instr.slice,e1,Sem.run_bind,zdq hu,Result.andThen_ok,hb,run_size hs,Sem.run_pure,Option.map_none]
  rw[hrun]
  exact⟨Keeps.refl _ _,A,_,c,rfl,by omega,by omega,rfl⟩
end
section
variable {α:Type} {n:Nat} {enc:α->List AV} {xs:List α} {lo hi:Option Operand} {i j:Int} {K:AF->Prop}
theorem op_slice_rowd (hB:sliceB P t n=true) (hx:af.ev x= .row n enc xs) (hlo:bnd af lo 0 i) (hhi:bnd af none xs.length (xs.length:Int)) (h0:0≤i) (h1:i≤(xs.length:Int)) (h2:(xs.length:Int)≤xs.length) (hk:K (af.put d (.row n enc (xs.drop i.toNat)))):opA P ⟨d, .slice t x lo none none,ty,pos,after,g⟩ af K:=
 op_slice_row hB hx hlo hhi h0 h1 h2 (by rw[List.take_of_length_le (by simp)];exact hk)
theorem op_slice_rowt (hB:sliceB P t n=true) (hx:af.ev x= .row n enc xs) (hlo:bnd af lo 0 0) (hhi:bnd af hi xs.length j) (h0:(0:Int)≤0) (h1:0≤j) (h2:j≤xs.length) (hk:K (af.put d (.row n enc (xs.take j.toNat)))):opA P ⟨d, .slice t x lo hi none,ty,pos,after,g⟩ af K:=
 op_slice_row hB hx hlo hhi h0 h1 h2 (by simpa using hk)
variable {s:List UInt8}
theorem op_slice_strd (hB:isStrB P t=true) (hx:af.ev x= .exact (.string (bs s))) (hlo:bnd af lo 0 i) (hhi:bnd af none s.length (s.length:Int)) (h0:0≤i) (h1:i≤(s.length:Int)) (h2:(s.length:Int)≤s.length) (hk:K (af.put d (.exact (.string (bs (s.drop i.toNat)))))):opA P ⟨d, .slice t x lo none none,ty,pos,after,g⟩ af K:=
 op_slice_str hB hx hlo hhi h0 h1 h2 (by rw[List.take_of_length_le (by simp)];exact hk)
end
section
variable {α:Type} {n:Nat} {enc:α->List AV} {xs:List α} {v:Value} {K:AF->Items->Prop}
end
theorem set2_le {a0 a1 a:AV} {i:Int} (h0:0≤i) (h1:i<2):0+i.toNat*1+[a].length≤[a0,a1].length:=by
 simp;omega
theorem run_part1 {cs:Array Value} {off:Nat} {u:Value} (hB:loadB P t false 1=true) (h:cs[off]?=some u):(part t cs off).run P w= .ok u w:=by
 obtain⟨⟨D,hu,ha⟩,_⟩:=loadB_spec hB
 unfold part
 simp only[Sem.run_bind,run_agg hu,ha,Result.andThen_ok,Bool.false_eq_true,if_false,h,Sem.run_pure]
theorem eq_pair {t:TypeId} (h: ∀(x0 x1 y0 y1:Int) (w:World),(Op.equal t (.agg #[.int .i64 x0, .int .i64 x1]) (.agg #[.int .i64 y0, .int .i64 y1])).run P w= .ok (decide (x0=y0/\x1=y1)) w) (a b:Int×Int) {M:BSet} {w:World} {vs us:List Value}
  (h1:Fit M w [.exact (.int .i64 a.1), .exact (.int .i64 a.2)] vs) (h2:Fit M w [.exact (.int .i64 b.1), .exact (.int .i64 b.2)] us):(Op.equal t (.agg vs.toArray) (.agg us.toArray)).run P w= .ok (decide (a=b)) w:=by
 match vs,h1 with
 |[u0,u1],⟨g0,g1,_⟩=>
  match us,h2 with
  |[v0,v1],⟨k0,k1,_⟩=>
   obtain rfl:u0=_:=g0
   obtain rfl:u1=_:=g1
   obtain rfl:v0=_:=k0
   obtain rfl:v1=_:=k1
   rw[h]
   congr 1
   simp[Prod.ext_iff]
section
variable {α:Type} {n:Nat} {enc:α->List AV} {xs:List α} {v:Value} {K:AF->Items->Prop}
end
section
variable {α:Type} {n:Nat} {enc:α->List AV} {xs:List α} {v:Value} {K:AF->Items->Prop}
theorem OneC.take {c:List AV} (h:OneC c) (k:Nat):OneC (c.take k):=λ a ha=>h a (List.mem_of_mem_take ha)
theorem OneC.drop {c:List AV} (h:OneC c) (k:Nat):OneC (c.drop k):=λ a ha=>h a (List.mem_of_mem_drop ha)
end
end
end
end Go.Proofs.YtohjfjmjnkglgaaGreatDoor
