/- Parts, merged. -/
import Derived.Test.YtloigebekdkijaaGreatQC3
import Derived.Lib.AppendZeros
import Derived.Test.YtloigebekdkijaaGreatRows
import Derived.ProofKit
import Derived.OpenShut
import Derived.Deep.Slices
import Derived.Deep.Strs
import Derived.JoinedCond
import Derived.Lib.AppendStr
import Derived.Maps.Range
import Derived.Maps.Ext
import Derived.Maps.RangeWalk
import Derived.Shelf.SlSortCmp.NoneTotal
import Derived.Sort.OwnSortedInts
import Derived.Test.YtloigebekdkijaaGreatQC0
import Derived.Lib.OthersKept
import Derived.Shelf.SortM.Plain
import Derived.Shelf.SortM.SortNone
namespace Go.Proofs.YtloigebekdkijaaGreat
open _root_.Go.Proofs.Tryz
noncomputable section
open Go.RowKit
theorem zeroCells_succ (zc:Array Value) (m:Nat):(Builtin.zeroCells zc (m+1)).toList=zc.toList++(Builtin.zeroCells zc m).toList:=by
 simp only[Builtin.zeroCells,Array.toList_map,Array.toList_range]
 rw[show(m+1)*zc.size=zc.size+m*zc.size by rw[Nat.add_mul];omega,List.range_add,List.map_append,List.map_map]
 congr 1
 .apply List.ext_getElem
  .simp
  .intro i h1 h2
   simp at h1
   simp[Nat.mod_eq_of_lt h1,h1]
 .apply List.map_congr_left
  intro i _
  simp[Nat.add_mod_left]
theorem Fit.nil0 {M:BSet} {w:World}:Fit M w [] []:=trivial
theorem Fit.ex {M:BSet} {w:World} {v:Value} {c:List AV} {vs:List Value} (h:Fit M w c vs):Fit M w (.exact v::c) (v::vs):=⟨rfl,h⟩
section
variable {P:Program} {af:AF} {ρ:Items} {d:Option Tmp} {ty t:TypeId} {pos:String} {after:Array Edge} {g:Option (Nat×Bool)} {α:Type} {n:Nat} {enc:α->List AV} {xs:List α} {v:Value} {K:AF->Items->Prop}
theorem fit_zeros {M:BSet} {w:World} {zr:α} {zc:Array Value} (hz:Fit M w (enc zr) zc.toList): ∀m:Nat,Fit M w ((List.replicate m zr).flatMap enc) (Builtin.zeroCells zc m).toList
 |0=>by simp[Builtin.zeroCells,Fit]
 |m+1=>by
  rw[zeroCells_succ,List.replicate_succ,List.flatMap_cons]
  exact hz.app (fit_zeros hz m)
theorem flat_parts (he: ∀x,(enc x).length=n): ∀(ys:List α) (k:Nat),(ys.flatMap enc).take (k*n)=(ys.take k).flatMap enc/\(ys.flatMap enc).drop (k*n)=(ys.drop k).flatMap enc:=by
 intro ys
 induction ys with
 |nil=>simp
 |cons y ys ih=>
  intro k
  cases k with
  |zero=>simp
  |succ k=>
   have hl:(enc y).length=n:=he y
   rw[List.flatMap_cons,Nat.add_mul,Nat.one_mul,Nat.add_comm (k*n) n]
   constructor
   .rw[←hl,List.take_length_add_append,hl,(ih k).1];rfl
   .rw[←hl,List.drop_length_add_append,hl,(ih k).2];rfl
theorem op_clear {lo m:Nat} {zr:α} {z:Value} {x:Operand} (hE:elB P t n=true) (he: ∀x,(enc x).length=n) (ho: ∀x,OneC (enc x)) (hx:af.ev x= .vsub v n lo m) (hl:lo+m≤xs.length) (hz: ∀w,(zeroValue (elemOfT P t)).run P w= .ok z w) (hzf: ∀M w,Fit M w (enc zr) z.cells.toList)
  (hk:K (af.put d (.exact (.tuple #[]))) (vecT P t n enc v (xs.take lo++List.replicate m zr++xs.drop (lo+m))::ρ)):opB P ⟨d, .call { callee:= .builtin .clear,args:= #[x],argTypes:= #[t] },ty,pos,after,g⟩ af (vecT P t n enc v xs::ρ) K:=by
 refine⟨λ a s=>a= .exact (.tuple #[])/\s=vecT P t n enc v (xs.take lo++List.replicate m zr++xs.drop (lo+m))::ρ,λ F w ev hg h=> ?_,λ av s ⟨e1,e2⟩=>by subst e1 e2;exact hk⟩
 obtain⟨ht,hn0,I,zz,hi,hz',hi1,hi2,hi3⟩:=elB_spec hE
 obtain⟨A,l,c,hv,hc1,hc2,e1⟩:=zhq h (x:=x) (by simp[Op.operands,Call.operands]) hx
 have hlen:(xs.take lo++List.replicate m zr++xs.drop (lo+m)).length=xs.length:=by simp;omega
 by_cases hm:m=0
 .subst hm
  have hcl:(Builtin.clear_ #[t] ty #[ev x]).run P w= .ok (.tuple #[]) w:=by
   rw[e1]
   split <;>(try cases A) <;>simp[Builtin.clear_,run_underlying ht]
  have hrun:(execOp ev ⟨d, .call { callee:= .builtin .clear,args:= #[x],argTypes:= #[t] },ty,pos,after,g⟩).run P w= .ok (.value (.tuple #[])) w:=by
   unfold execOp
   simp only[resolve,invoke,builtin,Sem.run_bind,Sem.run_pure,Result.andThen_ok,List.map_toArray,List.map_cons,List.map_nil,hcl]
  rw[hrun]
  have hxs:xs.take lo++List.replicate 0 zr++xs.drop (lo+0)=xs:=by simp
  refine⟨_,_,⟨rfl,rfl⟩,by rw[hxs];exact hg,(Keeps.refl noB w).mono (λ _ _ h=>h.elim),by rw[hxs];exact λ k h _=>h,rfl⟩
 .obtain⟨b,c',cur,vs,hv',hb,hnc,hcm,hcs,htk,hfit⟩:=vec_cells (hg.items _ List.mem_cons_self) (by rintro rfl;simp at hl;omega)
  rw[hv']at hv
  injection hv with q1 q2 q3
  subst q1 q2 q3
  rw[if_neg (by omega)]at e1
  have hadd:Option.map (λ x=>x.add (lo*n)) (some (⟨b,0,none⟩:Addr))=some ⟨b,lo*n,none⟩:=by simp[addr_add']
  rw[hadd]at e1
  have hbm:(lo+m)*n≤xs.length*n:=Nat.mul_le_mul_right _ hl
  have hcn:xs.length*n≤cur.size:=by rw[hcs];exact Nat.mul_le_mul_right _ hnc
  have haddm:(lo+m)*n=lo*n+m*n:=Nat.add_mul _ _ _
  have hfz:=λ M w=>fit_zeros (M:=M) (w:=w) (hzf M w) m
  have hul:(Builtin.zeroCells z.cells m).toList.length=m*n:=by rw[←(hfz noB w).length,flat_len (λ x _=>he x),List.length_replicate]
  have h1c: ∀u∈(Builtin.zeroCells z.cells m).toList,u.oneCell'=true:=(OneC.flatT (xs:=List.replicate m zr) ho).fit (hfz noB w)
  have hst:=run_storeCells_at (P:=P) b (lo*n) (elemOfT P t) (Builtin.zeroCells z.cells m).toList 0 cur w hb (by omega) h1c
  simp only[Nat.add_zero]at hst
  obtain⟨m',rfl⟩: ∃k,m=k+1:=⟨m - 1,by omega⟩
  have hcl:(Builtin.clear_ #[t] ty #[ev x]).run P w= .ok (.tuple #[]) (w.setRow b (splc cur.toList (lo*n) (Builtin.zeroCells z.cells (m'+1)).toList).toArray):=by
   rw[e1]
   simp[Builtin.clear_,run_underlying ht,hz,hst,splc]
  have hrun:(execOp ev ⟨d, .call { callee:= .builtin .clear,args:= #[x],argTypes:= #[t] },ty,pos,after,g⟩).run P w= .ok (.value (.tuple #[])) (w.setRow b (splc cur.toList (lo*n) (Builtin.zeroCells z.cells (m'+1)).toList).toArray):=by
   unfold execOp
   simp only[resolve,invoke,builtin,Sem.run_bind,Sem.run_pure,Result.andThen_ok,List.map_toArray,List.map_cons,List.map_nil,hcl]
  rw[hrun]
  generalize hus:(Builtin.zeroCells z.cells (m'+1)).toList=us at*
  generalize hmm:m'+1=m at*
  have hblt:=(Array.getElem?_eq_some_iff.1 hb).1
  have hob:v.ownBlock=some b:=by rw[hv'];rfl
  have hk:Keeps (λ k=>k∈(vecT P t n enc v xs).own) w (w.setRow b (splc cur.toList (lo*n) us).toArray):=⟨rfl,rfl,rfl,Nat.le_refl _,by simp,λ k hlt hn=>by
   have hne:k≠b:=λ e=>hn (by simp[vecT,vecI,hob,e])
   simp[World.setRow,Array.getElem?_modify,Ne.symm hne]⟩
  have hsp:splc cur.toList (lo*n) us=splc (cur.toList.take (xs.length*n)) (lo*n) us++cur.toList.drop (xs.length*n):=by
   unfold splc
   rw[List.take_take,Nat.min_eq_left (by omega),List.append_assoc _ _ (cur.toList.drop (xs.length*n))]
   congr 1
   rw[List.drop_take]
   have h9:lo*n+us.length+(xs.length*n - (lo*n+us.length))=xs.length*n:=by omega
   conv=>rhs;rhs;rw[←h9, ←List.drop_drop]
   rw[List.take_append_drop]
  have hsl:(splc vs (lo*n) us).length=xs.length*n:=by
   have hvl:vs.length=xs.length*n:=by rw[←hfit.length,flat_len (λ x _=>he x)]
   unfold splc;simp;omega
  have hflat:splc (xs.flatMap enc) (lo*n) ((List.replicate m zr).flatMap enc)=(xs.take lo++List.replicate m zr++xs.drop (lo+m)).flatMap enc:=by
   unfold splc
   rw[flat_len (λ x _=>he x),List.length_replicate, ←haddm,(flat_parts he xs lo).1,(flat_parts he xs (lo+m)).2,List.flatMap_append,List.flatMap_append]
  have hown:(w.setRow b (splc cur.toList (lo*n) us).toArray).ownsRow 0 (elemOfT P t) n v (xs.take lo++List.replicate m zr++xs.drop (lo+m)).length (splc vs (lo*n) us):=by
   refine⟨by rw[hsl,hlen], .inr ⟨b,c',(splc cur.toList (lo*n) us).toArray,by rw[hlen];exact hv',Nat.zero_le _,setRow_heap w b cur _ (elemOfT P t) _ hb,by rw[hlen];exact hnc,hcm, ?_, ?_⟩⟩
   .unfold splc;simp;omega
   .rw[hlen,hsp,htk]
    simp[←hsl]
  obtain⟨g1,g2,g3⟩:=zhy (it':=vecT P t n enc v (xs.take lo++List.replicate m zr++xs.drop (lo+m))) hg hk (λ k hk'=>⟨by simp[vecT,vecI,hob]at hk';subst hk';simpa using hblt,λ _=>hk'⟩) (by simp[vecT,vecI,hob])
   (λ hkk hMM=>⟨splc vs (lo*n) us,hown,by rw[←hflat];exact(Fit.spl (lo*n) hfit (hfz _ _)).keep hkk hMM⟩)
  exact⟨_,_,⟨rfl,rfl⟩,g1,g2,g3,rfl⟩
theorem op_len_vsub {lo m:Nat} {x:Operand} {K:AF->Prop} (hB:isSliceB P t=true) (hx:af.ev x= .vsub v n lo m) (hk:K (af.put d (.exact (.int .i64 (m:Int))))):opA P ⟨d, .call { callee:= .builtin .len,args:= #[x],argTypes:= #[t] },ty,pos,after,g⟩ af K:=by
 refine⟨_,λ M w ev _ h=> ?_,hk⟩
 obtain⟨A,l,c,_,_,_,hA⟩:=zhq h (x:=x) (by simp[Op.operands,Call.operands]) hx
 obtain⟨e,hu⟩:=isSliceB_spec hB
 simp[execOp,resolve,invoke,builtin,Builtin.len_,hA,zdk hu,goInt,go_sem,UponQ]
 exact⟨Keeps.refl _ _,rfl⟩
theorem zko {e:TypeId} {k:IntKind} {i j:Int} {lo m:Nat} {x y:Operand} {K:AF->Prop} (hB:sliceB P t n=true) (hx:af.ev x= .vsub v n lo m) (hy:af.ev y= .exact (.int k i)) (h0:0≤i) (h1:i.toNat<m) (hl:0<xs.length) (hj:j.toNat=lo+i.toNat) (hk:K (af.put d (.eptr v (j.toNat*n)))):
  opR P ⟨d, .indexAddr t x y,ty,pos,after,g⟩ af (vecT P e n enc v xs::ρ) K:=by
 refine⟨_,λ F w ev hg h=> ?_,hk⟩
 obtain⟨A,l,c,hv',hc1,hc2,e1⟩:=zhq h (x:=x) (by simp[Op.operands]) hx
 have e2:=opnd h (x:=y) (by simp[Op.operands]) hy
 obtain⟨b,c',cur,vs,hv,_⟩:=vec_cells (hg.items _ List.mem_cons_self) (by rintro rfl;simp at hl)
 obtain⟨e',hu,hs⟩:=znd hB
 rw[hv]at hv'
 injection hv' with q1 q2 q3
 subst q1 q2 q3
 rw[if_neg (by omega)]at e1
 have hadd0:Option.map (λ x=>x.add (lo*n)) (some (⟨b,0,none⟩:Addr))=some ⟨b,lo*n,none⟩:=by simp[addr_add']
 rw[hadd0]at e1
 have hadd:Addr.add ⟨b,lo*n,none⟩ (i.toNat*n)=⟨b,j.toNat*n,none⟩:=by rw[addr_at,hj,Nat.add_mul]
 have h1':i<(m:Int):=by omega
 subst hv
 simp[execOp,Instr.indexAt,e1,e2,zdk hu,asIntOf,h0,h1',zng hs,hadd,go_sem,UponQ]
 exact⟨Keeps.refl _ _,b,_,_,rfl,by rw[hj,Nat.add_mul]⟩
end
end
noncomputable section
open Go.RowKit
section
variable {P:Program} {af:AF} {σ:Items} {d:Option Tmp} {ty t tn:TypeId} {pos:String} {after:Array Edge} {g:Option (Nat×Bool)} {α:Type} {n:Nat} {enc:α->List AV} {K:AF->Items->Prop}
end
end
noncomputable section
open Go.RowKit
section
variable {P:Program} {af:AF} {d:Option Tmp} {ty t:TypeId} {pos:String} {after:Array Edge} {g:Option (Nat×Bool)} {n:Nat} {K:AF->Prop} {x:Operand}
end
end
noncomputable section
open Go.RowKit
section
variable {P:Program} {af:AF} {σ ρ:Items} {d:Option Tmp} {ty t e:TypeId} {pos:String} {after:Array Edge} {g:Option (Nat×Bool)} {α:Type} {n:Nat} {enc:α->List AV} {xs ys:List α} {v:Value} {K:AF->Items->Prop}
def BorL (σ:Items) (x:AV) (n:Nat) (enc:α->List AV) (ys:List α):Prop:= ∀F w u,Good F σ w->x.p (both F (Items.own σ)) w u->
 ∃A c,u= .slice A ys.length c/\ys.length≤c/\(ys≠[]-> ∃b off,A=some ⟨b,off,none⟩/\ ∀(i:Nat) (y:α),ys[i]?=some y->(enc y).length=n/\CellsAt (both F (Items.own σ)) w b (off+i*n) (enc y))
theorem BorL.vec (hm:vecT P e n enc v xs∈σ) (he: ∀x,(enc x).length=n):BorL σ (.exact v) n enc xs:=λ F w u hg hx=>by
 obtain rfl:u=v:=hx
 have hit:=hg.items _ hm
 by_cases hne:xs=[]
 .subst hne
  obtain⟨us,hown,_⟩:=hit
  rcases hown.2 with⟨rfl,_⟩|⟨b,cap,cur,rfl,_⟩
  .exact⟨_,_,rfl,Nat.zero_le _,λ h=>absurd rfl h⟩
  .exact⟨_,_,rfl,Nat.zero_le _,λ h=>absurd rfl h⟩
 .obtain⟨b,c,cur,us,rfl,hb,hnc,_,hcs,htk,hfit⟩:=vec_cells hit hne
  refine⟨_,_,rfl,hnc,λ _=>⟨b,0,rfl, ?_⟩⟩
  have hcells:=zjm (b:=b) (off:=0) hfit (λ j u hu=>by
   have hj:j<us.length:=(List.getElem?_eq_some_iff.1 hu).1
   rw[Nat.zero_add,cell_of_row _ b _ _ _ (0,0) hb]
   rw[←htk,List.getElem?_take]at hu
   split at hu
   .simpa using hu
   .cases hu)
  intro i x hx
  exact⟨he x,hcells.sub (λ j a hj=>flat_get (λ x _=>he x) hx j a hj)⟩
theorem BorL.vsub {lo m:Nat} (hm:vecT P e n enc v xs∈σ) (he: ∀x,(enc x).length=n) (hl:lo+m≤xs.length):BorL σ (.vsub v n lo m) n enc ((xs.drop lo).take m):=λ F w u hg hx=>by
 obtain⟨A,l,c,rfl,hc1,hc2,rfl⟩:=hx
 obtain⟨A',c',hv,h1,h4⟩:=BorL.vec (w:=w) hm he F _ hg rfl
 injection hv with g1 g2 g3
 subst g1 g2 g3
 have hlen:((xs.drop lo).take m).length=m:=by simp;omega
 refine⟨(if c=lo then A else A.map (·.add (lo*n))),c - lo,by rw[hlen],by rw[hlen];exact hc2,λ hne=> ?_⟩
 have hxs:xs≠[]:=by rintro rfl;simp at hne
 obtain⟨b,off,rfl,hcell⟩:=h4 hxs
 have hpos:0<m:=by
  rcases Nat.eq_zero_or_pos m with h|h
  .subst h;simp at hne
  .exact h
 rw[if_neg (by omega)]
 refine⟨b,off+lo*n,by simp[addr_add'],λ q x hq=> ?_⟩
 have hq':xs[lo+q]?=some x:=by
  rw[List.getElem?_take]at hq
  split at hq
  .rwa [List.getElem?_drop]at hq
  .cases hq
 obtain⟨g1,g2⟩:=hcell _ _ hq'
 refine⟨g1, ?_⟩
 have e:off+(lo+q)*n=off+lo*n+q*n:=by rw[Nat.add_mul];omega
 rwa [e]at g2
end
end
noncomputable section
open Go.ChangeShapes Go.WideShapes Go.ChangeAt Go.RowKit Go.Deep
theorem Tryz.own:ownKnob Tryz.prog.godebug=none:=by kernel_rfl
theorem Tryz.laidOut:laidOutB Tryz.prog=true:=by kernel_rfl
theorem Keeps.below {w w':World} (h:Keeps noB w w'):Below w.heap.size w w':=⟨h.os,h.tape,h.output,h.size,λ k hk=>h.block k hk (λ hf=>hf)⟩
section
variable {P:Program} {t e:TypeId} {α β γ δ:Type}
def Opens (P:Program) (t:TypeId) (n:Nat) (enc:α->List AV) (sz:α->Nat) (Q:α->Prop):Prop:=
 ∀{H:Type} (e0:TypeId×Value->H) (W:World) (fuel:Nat) (cs:List Value) (y:DataW H×List MemPlace),DataW.trod e0 P W 0 (λ _=>true) true fuel t cs=some y-> ∃x:α,Q x/\cs.length=n/\Fit noB W (enc x) cs/\sz x≤Rows.uptoBulk y.1
theorem opens_int {k:IntKind} (ht:P.underlying t=some (.int k)):Opens P t 1 (λ x:Int=>[.exact (.int k x)]) (λ _=>1) (λ x=>(Lit.int k x).wf=true):=λ e0 W fuel cs y h=>by
 obtain⟨n,rfl,rfl,hw⟩:=DataW.trod_int ht h
 exact⟨n,hw,rfl,⟨rfl,trivial⟩,by simp[Rows.uptoBulk]⟩
theorem opens_str (ht:P.underlying t=some .string):Opens P t 1 (λ x:List UInt8=>[.exact (.string (bs x))]) (λ x=>x.length+1) (λ x=>x.length≤maxLen):=λ e0 W fuel cs y h=>by
 obtain⟨s,rfl,rfl,hm⟩:=DataW.trod_string ht h
 refine⟨s.data.toList,by simpa using hm,rfl,⟨rfl,trivial⟩,by simp[Rows.uptoBulk]⟩
theorem list_of {R:Nat->α->Prop}: ∀n:Nat,(∀i,i<n-> ∃x,R i x)-> ∃xs:List α,xs.length=n/\ ∀i x,xs[i]?=some x->R i x
 |0,_=>⟨[],rfl,λ i x h=>by simp at h⟩
 |n+1,h=>by
  obtain⟨xs,hl,hx⟩:=list_of n (λ i hi=>h i (by omega))
  obtain⟨x,hr⟩:=h n (by omega)
  refine⟨xs++[x],by simp[hl],λ i y hy=> ?_⟩
  rw[List.getElem?_append]at hy
  split at hy
  .exact hx i y hy
  .rename_i hge
   have:i=n:=by
    have:=(List.getElem?_eq_some_iff.1 hy).1
    simp at this;omega
   subst this
   simp[hl]at hy;subst hy;exact hr
def szL (sz:α->Nat) (xs:List α):Nat:=(xs.map sz).sum
theorem bulk_elems {H:Type} {sz:α->Nat}: ∀(xs:List α) (n:Nat) (D:Nat->DataW H),xs.length=n->(∀i x,xs[i]?=some x->sz x≤Rows.uptoBulk (D i))->szL sz xs≤Rows.uptoBulkAll ((List.range n).map D)
 |xs,n,D,hl,h=>by
  subst hl
  induction xs generalizing D with
  |nil=>simp[szL]
  |cons x xs ih=>
   have h0:=h 0 x rfl
   have h1:=ih (λ i=>D (i+1)) (λ i y hy=>h (i+1) y (by simpa using hy))
   rw[List.length_cons,List.range_succ_eq_map,List.map_cons,List.map_map]
   simp only[szL,List.map_cons,List.sum_cons,Rows.uptoBulkAll]at h1⊢
   exact Nat.add_le_add h0 h1
theorem opens_slice {n:Nat} {enc:α->List AV} {sz:α->Nat} {Q:α->Prop} (ht:P.underlying t=some (.slice e)) (hc:P.cellsOf e=n) (hn:0<n) (hx:Opens P e n enc sz Q):
  Opens P t 1 (λ xs:List α=>[.row n enc xs]) (λ xs=>szL sz xs+1) (λ xs=>xs.length≤maxLen/\ ∀x∈xs,Q x):=λ e0 W fuel cs y h=>by
 rcases open_slice ht h with⟨rfl,rfl⟩|⟨a,len,cap,m,k,D,Pl,rfl,_,hl,hm,hmm,rfl,hel⟩
 .exact⟨[],⟨by simp,by simp⟩,rfl,⟨⟨none,0,rfl,by simp,by simp,λ h=>absurd rfl h⟩,trivial⟩,by simp[szL,Rows.uptoBulk]⟩
 .simp only[if_true]at hmm
  obtain⟨xs,hxl,hxs⟩:=list_of (R:=λ i x=>Q x/\sz x≤Rows.uptoBulk (D i)/\ ∃cs',cs'.length=n/\Fit noB W (enc x) cs'/\ ∀j,j<n->W.cell? ((a.add (i*n)).add j)=cs'[j]?) len (λ i hi=>by
   obtain⟨cs',h1,h2⟩:=hel i (by omega)
   obtain⟨x,q,l,f,s⟩:=hx e0 W _ _ _ h2
   rw[hc]at h1
   obtain⟨_,hcl,hat⟩:=World.cells?_some h1
   exact⟨x,q,s,cs',hcl,f,hat⟩)
  refine⟨xs,⟨by omega,λ x hxm=> ?_⟩,rfl,⟨?_,trivial⟩, ?_⟩
  .obtain⟨i,hi⟩:=List.mem_iff_getElem?.1 hxm
   exact(hxs i x hi).1
  .unfold maxLen at hm
   refine⟨some a,cap,by rw[hxl],by omega,by omega,λ hne=> ?_⟩
   have hpos:0<xs.length:=List.length_pos_iff.2 hne
   obtain⟨_,_,c0,hc0,_,ha0⟩:=hxs 0 xs[0] (List.getElem?_eq_getElem hpos)
   have h00:=ha0 0 hn
   rw[List.getElem?_eq_getElem (by omega)]at h00
   obtain⟨b,off,spot⟩:=a
   have hspot:spot=none:=by simpa[Addr.add]using World.cell?_spot h00
   subst hspot
   refine⟨b,off,rfl, ?_,λ hf=>hf,λ i x hi=> ?_⟩
   .have:=World.block_lt_of_cell? W _ h00
    simpa[Addr.add]using this
   .obtain⟨_,_,cs',hcl,hf,hat⟩:=hxs i x hi
    have hle:(enc x).length=n:=by rw[hf.length,hcl]
    refine⟨hle,zjm hf (λ j u hu=> ?_)⟩
    have hj:j<n:=by rw[←hcl];exact(List.getElem?_eq_some_iff.1 hu).1
    have:=hat j hj
    rw[hu]at this
    rw[←this,addr_add',addr_add']
  .have:=bulk_elems xs len D hxl (λ i x hi=>(hxs i x hi).2.1)
   simp only[Rows.uptoBulk]
   omega
theorem arg_open {n:Nat} {enc:α->List AV} {sz:α->Nat} {Q:α->Prop} (h:Opens P t n enc sz Q) {H:Type} {e0:TypeId×Value->H} {W:World} {v:Value} {d:DataW H} {p:List MemPlace} (hv:v.cells= #[v]) (hd:DataW.Trod e0 P W 0 (λ _=>true) true t v d p):
  ∃x:α,Q x/\Fit noB W (enc x) [v]/\sz x≤Rows.uptoBulk d:=by
 obtain⟨fuel,hf⟩:=hd
 rw[hv]at hf
 obtain⟨x,q,_,k,s⟩:=h e0 W _ _ _ hf
 exact⟨x,q,k,s⟩
theorem plain_slice {W:World} {v:Value} (ht:P.underlying t=some (.slice e)) (h:Value.okWide P W .any 0 t v):v.cells= #[v]:=by
 obtain⟨a,n,c,rfl⟩:=okWide_slice ht h;rfl
theorem plain_str {W:World} {v:Value} (ht:P.underlying t=some .string) (h:Value.okWide P W .any 0 t v):v.cells= #[v]:=by
 obtain⟨n,rfl⟩:=okWide_string ht h;rfl
end
theorem post_of_below {H:Type} {enc:TypeId×Value->H} {P:Program} {f:Func} {s:ChangeSpec} {apart fresh handsOn again:Bool} {W W':World} {args:Array Value} {v:Value} {ds gs:List (DataW H)} {before pa pv:List MemPlace}
  (hW:DataW.Whole enc P f.params.toList s.vars apart W args.toList ds gs before)
  (hres: ∀(b:Nat) (sp:Nat->Bool) (hd:Bool),DataW.TrodAll enc P W' b sp hd f.resultTypes.toList (v.resultList f.resultTypes.size) (s.fn H (ds++gs)).results [])
  (hargs: ∀sp:Nat->Bool,(∀p∈before,sp p.block=true)->DataW.TrodAll enc P W' 0 sp true f.params.toList args.toList (s.fn H (ds++gs)).args pa)
  (hvars: ∀sp:Nat->Bool,(∀p∈before,sp p.block=true)->DataW.TrodVars enc P W' sp s.vars (s.fn H (ds++gs)).vars pv)
  (hps:before=pa++pv) (hb:Below W.heap.size W W')
  (hok: ∀(j:Nat) (t:TypeId) (r:Value),f.resultTypes[j]?=some t->(v.resultList f.resultTypes.size)[j]?=some r->Value.okWide P W' .any 0 t r):
  s.post enc P f apart fresh handsOn again W args v W':=by
 have hlt: ∀p∈before,p.block<W.heap.size:=λ p hp=>hW.lt p hp
 have hold: ∀p∈before,(λ b=>decide (b<W.heap.size)) p.block=true:=λ p hp=>by simpa using hlt p hp
 refine⟨ds,gs,before,[],pa,pv,hW,hres _ _ _,hargs _ hold,hvars _ hold,World.keptBut_mono (λ p hp=>⟨hp, ?_⟩) (hb.frame (· ∈before)),λ _=> ?_⟩
 .rw[hps,List.mem_append]at hp
  exact Or.inr hp
 .obtain⟨_,_,_,_,_,hz,hn⟩:=hW
  refine⟨hok,_,_,([]++pa)++pv,⟨[]++pa,pv,trodAll_append (hargs _ (λ _ _=>rfl)) (hres _ _ _),hvars _ (λ _ _=>rfl),rfl, ?_, ?_⟩, ?_⟩
  .intro b off hp
   have hin:MemPlace.cell b off∈before:=by rw[hps];simpa using hp
   rw[hb.frozen (hlt _ hin)]
   exact hz b off hin
  .intro ha
   have:=hn ha
   rw[hps]at this
   simpa using this
  .intro p hp _
   rw[hps]
   simpa using hp
theorem trod_after {H:Type} {enc:TypeId×Value->H} {t:TypeId} (hr:Tryz.prog.readableRec t=true) (hrow:t<Tryz.prog.types.size) {W W':World} {v:Value} {d:DataW H} {ps before:List MemPlace}
  (h:DataW.Trod enc Tryz.prog W 0 (λ _=>true) true t v d ps) (hb:Below W.heap.size W W') (hlt: ∀x∈ps,x.block<W.heap.size) (hin: ∀x∈ps,x∈before) (sp:Nat->Bool) (hsp: ∀p∈before,sp p.block=true):
  DataW.Trod enc Tryz.prog W' 0 sp true t v d ps:=
 WideElems.Trod_stays Tryz.laidOut hr hrow h (λ x hx=>hb.same (hlt x hx)) (λ x hx=>hsp x (hin x hx))
theorem Pure.call {P:Program} {f:FuncId} {args:List AV} {r:Value} (h:Pure P f args (.exact r)) {W:World} {vs:List Value} (hv:Fit noB W args vs):Calls P f vs.toArray W (λ e w'=>e= .returned r/\Below W.heap.size W w'):=
 (h noB W vs (λ _ hk=>hk.elim) hv).mono λ e w' ⟨v,e1,e2,e3⟩=>⟨by rw[e1];exact congrArg _ e3,e2.below⟩
end
noncomputable section
open Go.RowKit
section
variable {P:Program} {af:AF} {σ ρ:Items} {d:Option Tmp} {ty t e:TypeId} {pos:String} {after:Array Edge} {g:Option (Nat×Bool)} {α:Type} {n:Nat} {enc:α->List AV} {xs ys:List α} {v:Value}
theorem loadCells_list {w:World} {b o:Nat} (us:List Value) (h: ∀j,j<us.length-> ∃u,us[j]?=some u/\w.cell? ⟨b,o+(0+j),none⟩=some u):(loadCells ⟨b,o,none⟩ us.length).run P w= .ok us.toArray w:=by
 have:=run_cells (P:=P) (w:=w) (b:=b) us.length o 0 us #[] h rfl
 unfold loadCells
 rw[this];simp
theorem op_copy {lo1 m1 lo2 m2 q:Nat} {x y:Operand} {t2:TypeId} {K:AF->Items->Prop} (hE:elB P t n=true) (hE2:elB P t2 n=true) (he: ∀x,(enc x).length=n) (ho: ∀x,OneC (enc x)) (hx:af.ev x= .vsub v n lo1 m1) (hy:af.ev y= .vsub v n lo2 m2) (hl1:lo1+m1≤xs.length) (hl2:lo2+m2≤xs.length) (hq:Nat.min m2 m1=q)
  (hk:K (af.put d (.exact (.int .i64 (q:Int)))) (vecT P e n enc v (xs.take lo1++(xs.drop lo2).take q++xs.drop (lo1+q))::ρ)):opB P ⟨d, .call { callee:= .builtin .copy,args:= #[x,y],argTypes:= #[t,t2] },ty,pos,after,g⟩ af (vecT P e n enc v xs::ρ) K:=by
 refine⟨λ a s=>a= .exact (.int .i64 (q:Int))/\s=vecT P e n enc v (xs.take lo1++(xs.drop lo2).take q++xs.drop (lo1+q))::ρ,λ F w ev hg h=> ?_,λ av s ⟨e1,e2⟩=>by subst e1 e2;exact hk⟩
 obtain⟨ht,hn0,I,zz,hi,hz',hi1,hi2,hi3⟩:=elB_spec hE
 obtain⟨A,l,c,hv,hc1,hc2,e1⟩:=zhq h (x:=x) (by simp[Op.operands,Call.operands]) hx
 obtain⟨A2,l2,c2,hv2,hc3,hc4,e2⟩:=zhq h (x:=y) (by simp[Op.operands,Call.operands]) hy
 rw[hv]at hv2
 injection hv2 with q1 q2 q3
 subst q1 q2 q3
 have hq1:q≤m1:=by rw[←hq];exact Nat.min_le_right _ _
 have hq2:q≤m2:=by rw[←hq];exact Nat.min_le_left _ _
 have hlen:(xs.take lo1++(xs.drop lo2).take q++xs.drop (lo1+q)).length=xs.length:=by simp;omega
 by_cases hm:q=0
 .have hxs:xs.take lo1++(xs.drop lo2).take 0++xs.drop (lo1+0)=xs:=by simp
  have hcl:(Builtin.copy_ #[t,t2] ty #[ev x,ev y]).run P w= .ok (.int .i64 ((0:Nat):Int)) w:=by
   rw[e1,e2]
   have hq0:Nat.min m2 m1=0:=by omega
   split <;>split <;>(try cases A) <;>simp[Builtin.copy_,run_underlying ht,Builtin.lenOf,Builtin.firstCells,sizeOf,typeInfo,hi,hq0,loadCells,loadCellsFrom,storeCells,goInt]
  have hrun:(execOp ev ⟨d, .call { callee:= .builtin .copy,args:= #[x,y],argTypes:= #[t,t2] },ty,pos,after,g⟩).run P w= .ok (.value (.int .i64 ((0:Nat):Int))) w:=by
   unfold execOp
   simp only[resolve,invoke,builtin,Sem.run_bind,Sem.run_pure,Result.andThen_ok,List.map_toArray,List.map_cons,List.map_nil,hcl]
  rw[hrun]
  subst hm
  refine⟨_,_,⟨rfl,rfl⟩,by rw[hxs];exact hg,(Keeps.refl noB w).mono (λ _ _ h=>h.elim),by rw[hxs];exact λ k h _=>h,rfl⟩
 .obtain⟨b,c',cur,vs,hv',hb,hnc,hcm,hcs,htk,hfit⟩:=vec_cells (hg.items _ List.mem_cons_self) (by rintro rfl;simp at hl1;omega)
  rw[hv']at hv
  injection hv with q1 q2 q3
  subst q1 q2 q3
  rw[if_neg (by omega)]at e1 e2
  have hadd: ∀k,Option.map (λ x=>x.add (k*n)) (some (⟨b,0,none⟩:Addr))=some ⟨b,k*n,none⟩:=λ k=>by simp[addr_add']
  rw[hadd]at e1 e2
  have hbm1:(lo1+m1)*n≤xs.length*n:=Nat.mul_le_mul_right _ hl1
  have hbm2:(lo2+m2)*n≤xs.length*n:=Nat.mul_le_mul_right _ hl2
  have hcn:xs.length*n≤cur.size:=by rw[hcs];exact Nat.mul_le_mul_right _ hnc
  have ha1:(lo1+m1)*n=lo1*n+m1*n:=Nat.add_mul _ _ _
  have ha2:(lo2+m2)*n=lo2*n+m2*n:=Nat.add_mul _ _ _
  have hqn1:q*n≤m1*n:=Nat.mul_le_mul_right _ hq1
  have hqn2:q*n≤m2*n:=Nat.mul_le_mul_right _ hq2
  have hvl:vs.length=xs.length*n:=by rw[←hfit.length,flat_len (λ x _=>he x)]
  generalize hus:(vs.drop (lo2*n)).take (q*n)=us
  have hul:us.length=q*n:=by rw[←hus];simp;omega
  have hfu:Fit (both F (Items.own (vecT P e n enc v xs::ρ))) w (((xs.drop lo2).take q).flatMap enc) us:=by
   have:=(hfit.drop (lo2*n)).take (q*n)
   rw[(flat_parts he xs lo2).2,(flat_parts he (xs.drop lo2) q).1,hus]at this
   exact this
  have h1c: ∀u∈us,u.oneCell'=true:=(OneC.flatT (xs:=(xs.drop lo2).take q) ho).fit hfu
  have hld:(loadCells ⟨b,lo2*n,none⟩ (q*n)).run P w= .ok us.toArray w:=by
   rw[←hul]
   refine loadCells_list us (λ j hj=> ?_)
   rw[hul]at hj
   have hjv:lo2*n+j<vs.length:=by omega
   obtain⟨u,hu⟩: ∃u,vs[lo2*n+j]?=some u:=⟨_,List.getElem?_eq_getElem hjv⟩
   refine⟨u,by rw[←hus,List.getElem?_take,if_pos hj,List.getElem?_drop];exact hu, ?_⟩
   rw[cell_of_row _ b _ _ _ (0,0) hb,Nat.zero_add]
   have this:=hu
   rw[←htk,List.getElem?_take]at this
   split at this
   .simpa using this
   .cases this
  have hst:=run_storeCells_at (P:=P) b (lo1*n) (elemOfT P e) us 0 cur w hb (by omega) h1c
  simp only[Nat.add_zero,hul]at hst
  have hcl:(Builtin.copy_ #[t,t2] ty #[ev x,ev y]).run P w= .ok (.int .i64 (q:Int)) (w.setRow b (splc cur.toList (lo1*n) us).toArray):=by
   rw[e1,e2]
   simp[Builtin.copy_,run_underlying ht,Builtin.lenOf,Builtin.firstCells,sizeOf,typeInfo,hi,hi1,hq,hld,hst,splc,hul,goInt]
  have hrun:(execOp ev ⟨d, .call { callee:= .builtin .copy,args:= #[x,y],argTypes:= #[t,t2] },ty,pos,after,g⟩).run P w= .ok (.value (.int .i64 (q:Int))) (w.setRow b (splc cur.toList (lo1*n) us).toArray):=by
   unfold execOp
   simp only[resolve,invoke,builtin,Sem.run_bind,Sem.run_pure,Result.andThen_ok,List.map_toArray,List.map_cons,List.map_nil,hcl]
  rw[hrun]
  have hblt:=(Array.getElem?_eq_some_iff.1 hb).1
  have hob:v.ownBlock=some b:=by rw[hv'];rfl
  have hk:Keeps (λ k=>k∈(vecT P e n enc v xs).own) w (w.setRow b (splc cur.toList (lo1*n) us).toArray):=⟨rfl,rfl,rfl,Nat.le_refl _,by simp,λ k hlt hn=>by
   have hne:k≠b:=λ e=>hn (by simp[vecT,vecI,hob,e])
   simp[World.setRow,Array.getElem?_modify,Ne.symm hne]⟩
  have hqa:(lo1+q)*n=lo1*n+q*n:=Nat.add_mul _ _ _
  have hsp:splc cur.toList (lo1*n) us=splc (cur.toList.take (xs.length*n)) (lo1*n) us++cur.toList.drop (xs.length*n):=by
   unfold splc
   rw[List.take_take,Nat.min_eq_left (by omega),List.append_assoc _ _ (cur.toList.drop (xs.length*n))]
   congr 1
   rw[List.drop_take]
   have h9:lo1*n+us.length+(xs.length*n - (lo1*n+us.length))=xs.length*n:=by omega
   conv=>rhs;rhs;rw[←h9, ←List.drop_drop]
   rw[List.take_append_drop]
  have hsl:(splc vs (lo1*n) us).length=xs.length*n:=by
   unfold splc;simp;omega
  have hX:Fit (both F (Items.own (vecT P e n enc v xs::ρ))) w ((xs.take lo1++(xs.drop lo2).take q++xs.drop (lo1+q)).flatMap enc) (splc vs (lo1*n) us):=by
   unfold splc
   rw[List.flatMap_append,List.flatMap_append,hul, ←hqa]
   have f1:=hfit.take (lo1*n)
   rw[(flat_parts he xs lo1).1]at f1
   have f2:=hfit.drop ((lo1+q)*n)
   rw[(flat_parts he xs (lo1+q)).2]at f2
   exact(f1.app hfu).app f2
  have hnew:(w.setRow b (splc cur.toList (lo1*n) us).toArray).ownsRow 0 (elemOfT P e) n v (xs.take lo1++(xs.drop lo2).take q++xs.drop (lo1+q)).length (splc vs (lo1*n) us):=by
   refine⟨by rw[hsl,hlen], .inr ⟨b,c',(splc cur.toList (lo1*n) us).toArray,by rw[hlen];exact hv',Nat.zero_le _,setRow_heap w b cur _ (elemOfT P e) _ hb,by rw[hlen];exact hnc,hcm, ?_, ?_⟩⟩
   .unfold splc;simp;omega
   .rw[hlen,hsp,htk]
    simp[←hsl]
  obtain⟨g1,g2,g3⟩:=zhy (it':=vecT P e n enc v (xs.take lo1++(xs.drop lo2).take q++xs.drop (lo1+q))) hg hk (λ k hk'=>⟨by simp[vecT,vecI,hob]at hk';subst hk';simpa using hblt,λ _=>by simp[vecT,vecI,hob]at hk' ⊢;exact hk'⟩) (by simp[vecT,vecI,hob])
   (λ hkk hMM=>⟨_,hnew,hX.keep hkk hMM⟩)
  exact⟨_,_,⟨rfl,rfl⟩,g1,g2,g3,rfl⟩
theorem op_make {x y:Operand} {i:Int} {k1 k2:IntKind} {zr:α} {z:Value} {K:AF->Items->Prop} (hE:elB P t n=true) (hx:af.ev x= .exact (.int k1 i)) (hy:af.ev y= .exact (.int k2 i)) (h0:0≤i) (h1:i≤137438953472) (he: ∀x,(enc x).length=n)
  (hz: ∀w,(zeroValue (elemOfT P t)).run P w= .ok z w) (hzf: ∀M w,Fit M w (enc zr) z.cells.toList) (hk: ∀v',K (af.put d (.exact v')) (vecT P t n enc v' (List.replicate i.toNat zr)::σ)):
  opB P ⟨d, .makeSlice t x y,ty,pos,after,g⟩ af σ K:=by
 refine⟨λ a s=> ∃v',a= .exact v'/\s=vecT P t n enc v' (List.replicate i.toNat zr)::σ,λ F w ev hg h=> ?_,λ av s ⟨v',e1,e2⟩=>by subst e1 e2;exact hk v'⟩
 obtain⟨ht,hn0,I,zz,hi,hz',hi1,hi2,hi3⟩:=elB_spec hE
 have e1:=opnd h (x:=x) (by simp[Op.operands]) hx
 have e2:=opnd h (x:=y) (by simp[Op.operands]) hy
 have hzz:zz=z:=by
  have a1:=run_zero (P:=P) (t:=elemOfT P t) (z:=zz) (w:=w) (by rw[hi];exact hz')
  have a2:=hz w
  rw[a1]at a2
  injection a2
 subst hzz
 obtain⟨m,rfl⟩: ∃m:Nat,i=m:=⟨i.toNat,by omega⟩
 have hb:(I.bytes:Int)*(m:Int)≤281474976710656:=by
  have h9:I.bytes*m≤1024*137438953472:=Nat.mul_le_mul hi2 (by omega)
  rw[←Int.natCast_mul]
  generalize I.bytes*m=q at h9
  omega
 have hrun0:=run_make w t (elemOfT P t) I zz ht hi hz' k1 k2 (m:Int) (m:Int) h0 (Int.le_refl _) hb (by omega)
 simp only[Int.toNat_natCast]at hrun0
 have hmc:madeCells zz.cells (m*I.size)=Builtin.zeroCells zz.cells m:=by
  rw[hi1]
  simp[madeCells,Builtin.zeroCells,hi3]
 rw[hmc]at hrun0
 have hrun:(execOp ev ⟨d, .makeSlice t x y,ty,pos,after,g⟩).run P w= .ok (.value (.slice (some ⟨w.heap.size,0,none⟩) m m)) (w.alloc (.cells (Builtin.zeroCells zz.cells m) (elemOfT P t))):=by
  unfold execOp
  simp only[e1,e2,Sem.run_bind,hrun0,Result.andThen_ok,Sem.run_pure]
 rw[hrun]
 simp only[Int.toNat_natCast]
 have hb2:(w.alloc (.cells (Builtin.zeroCells zz.cells m) (elemOfT P t))).heap[w.heap.size]?=some (.cells (Builtin.zeroCells zz.cells m) (elemOfT P t) (0,0)):=heap_alloc_new w _
 have hzs:(Builtin.zeroCells zz.cells m).size=m*n:=by simp[Builtin.zeroCells,hi3]
 exact out_new (post:=λ a s=> ∃v',a= .exact v'/\s=vecT P t n enc v' (List.replicate m zr)::σ) (it:=vecT P t n enc (.slice (some ⟨w.heap.size,0,none⟩) m m) (List.replicate m zr)) hg (by simp[vecT,vecI,Value.ownBlock])
  (λ M hM=>⟨(Builtin.zeroCells zz.cells m).toList,⟨by simp[hzs], .inr ⟨w.heap.size,m,_,by simp,Nat.zero_le _,hb2,by simp,by simp only[maxLen];omega,hzs,by rw[List.length_replicate, ←hzs, ←Array.length_toList,List.take_length]⟩⟩,fit_zeros (hzf _ _) m⟩) (λ M=>rfl) ⟨_,rfl,rfl⟩
theorem arr_get [Inhabited α] {f:α->AV} {i:Int} (h0:0≤i) (h1:i<xs.length):(xs.map f)[0+i.toNat*1]?=some (f (gi xs i)):=by
 rw[Nat.zero_add,Nat.mul_one,List.getElem?_map,gi_get h0 h1];rfl
theorem arr_set_le {f:α->AV} {a:AV} {i:Int} (h0:0≤i) (h1:i<xs.length):0+i.toNat*1+[a].length≤(xs.map f).length:=by
 simp;omega
theorem arr_set {f:α->AV} {i:Int} {z:α} (h0:0≤i) (h1:i<xs.length):splc (xs.map f) (0+i.toNat*1) [f z]=(xs.set i.toNat z).map f:=by
 rw[Nat.zero_add,Nat.mul_one]
 have hi:i.toNat<xs.length:=by omega
 rw[List.map_set,List.set_eq_take_append_cons_drop,if_pos (by simpa using hi)]
 simp[splc]
theorem les_rep {f:α->AV} {z:α} {u:Value} (h:f z= .exact u): ∀N:Nat,LEs ((List.replicate N u).map AV.exact) ((List.replicate N z).map f)
 |0=>LEs.nil
 |N+1=>by rw[List.replicate_succ,List.replicate_succ,List.map_cons,List.map_cons];exact LEs.cons (AV.le_eq h.symm) (les_rep h N)
theorem op_allocA {K:AF->Items->Prop} {f:α->AV} (N:Nat) (z:α) (u:Value) {Z:Value} (hz:(P.info? t).bind (·.zero)=some Z) (hZ:Z.cells.toList=List.replicate N u) (hu:f z= .exact u) (hk: ∀b,K (af.put d (pA b 0)) (boxI t b ((List.replicate N z).map f)::σ)):
  opB P ⟨d, .alloc t,ty,pos,after,g⟩ af σ K:=op_alloc hz (by rw[hZ];exact les_rep hu N) hk
end
end
noncomputable section
open Go.RowKit
section
variable {P:Program} {af:AF} {σ ρ:Items} {d:Option Tmp} {ty t u:TypeId} {pos:String} {after:Array Edge} {g:Option (Nat×Bool)} {xs ys:List UInt8} {v:Value} {K:AF->Items->Prop} {enc:UInt8->List AV}
theorem fit_strCells {M:BSet} {w:World} (henc: ∀x,enc x=[.exact (.int .u8 (x.toNat:Int))]): ∀ys:List UInt8,Fit M w (ys.flatMap enc) (ys.map λ b=>Value.int .u8 b.toNat)
 |[]=>trivial
 |y::ys=>by rw[List.flatMap_cons,henc,List.map_cons];exact⟨rfl,fit_strCells henc ys⟩
theorem loud_appendS {s x:Operand} {m:Nat} {c:List AV} (henc: ∀x,enc x=[.exact (.int .u8 (x.toNat:Int))]) (hE:elB P t 1=true) (hu:isStrB P u=true) (hz:(P.info? (elemOfT P t)).bind (·.zero)=some (.int .u8 0)) (hby:((P.info? (elemOfT P t)).map (·.bytes))=some 1)
  (hs:af.ev s= .exact v) (hx:af.ev x= .exact (.string (bs ys))) (hl:m+ys.length≤137438953472):
  Loud P ⟨d, .call { callee:= .builtin .append,args:= #[s,x],argTypes:= #[t,u] },ty,pos,after,g⟩ af (vecI P t v 1 m c::ρ) (λ a σ'=> ∃v',a= .exact v'/\σ'=vecI P t v' 1 (m+ys.length) (c++ys.flatMap enc)::ρ):=by
 intro F w ev hg h
 obtain⟨ht,hn0,i,z,hi,hz',hi1,hi2,hi3⟩:=elB_spec hE
 have hus:=isStrB_spec hu
 have e1:=opnd h (x:=s) (by simp[Op.operands,Call.operands]) hs
 have e2:=opnd h (x:=x) (by simp[Op.operands,Call.operands]) hx
 obtain⟨xs,hown,hfit⟩:=hg.items (vecI P t v 1 m c) List.mem_cons_self
 rw[hi]at hz hby
 simp only[Option.bind_some,Option.map_some,Option.some.injEq]at hz hby
 have hsz:(bs ys).size=ys.length:=by simp[ByteArray.size]
 have hrun: ∃v' w',(Builtin.append_ #[t,u] ty #[v, .string (bs ys)]).run P w= .ok v' w'/\w'.ownsRow 0 (elemOfT P t) 1 v' (m+ys.length) (xs++ys.map λ b=>Value.int .u8 b.toNat)/\w.grownBy w' v.ownBlock/\(v'.ownBlock=v.ownBlock∨v'.ownBlock=some w.heap.size):=by
  obtain⟨v',w',h1,h2,h3,h4⟩:=Go.Lib.run_append_own_string (P:=P) w 0 t u ty (elemOfT P t) i ht hus hi hz hi1 hby v m xs hown (bs ys) (by rw[hsz];simp only[maxLen];omega) (by rw[hsz];omega) (Nat.zero_le _)
  rw[hsz]at h2
  refine⟨v',w',h1,h2,h3, ?_⟩
  rcases hown.2 with⟨rfl,rfl⟩|⟨q,cap,cur,rfl,_,hg,hnc,hcm,hcs,htake⟩
  .by_cases hm:(bs ys).size=0
   .exact .inl (by rw[h4.2 ⟨rfl,hm⟩])
   .have hr:=run_append_nil_string (P:=P) w t u ty (elemOfT P t) i (.int .u8 0) ht hus hi hz (bs ys) (by omega) (by rw[hsz];omega) (by rw[hby,hsz];omega)
    rw[h1]at hr
    injection hr with a1 a2
    exact .inr (by rw[a1];rfl)
  .by_cases hroom:m+(bs ys).size≤cap
   .have hr:=Go.Lib.run_append_room_string (P:=P) w t u ty (elemOfT P t) i ht hus hi hi1 q m cap cur hg (bs ys) hroom (by omega)
    rw[h1]at hr
    injection hr with a1 a2
    exact .inl (by rw[a1];rfl)
   .have holds: ∀j u,xs[j]?=some u->w.cell? ((⟨q,0,none⟩:Addr).add j)=some u:=hown.cells (g:=q) rfl
    have hr:=Go.Lib.run_append_grow_string (P:=P) w t u ty (elemOfT P t) i (.int .u8 0) ht hus hi hz ⟨q,0,none⟩ m cap xs (by rw[hi1];exact hown.1) holds (bs ys) (by omega) (by rw[hsz];omega) (by rw[hby];exact growslice_fits (by omega) (by rw[hsz];omega))
    rw[h1]at hr
    injection hr with a1 a2
    exact .inr (by rw[a1];rfl)
 obtain⟨v',w',h1,h2,h3,h5⟩:=hrun
 have hf:=fit_strCells (M:=both F (Items.own (vecI P t v 1 m c::ρ))) (w:=w) henc ys
 have hrun':(execOp ev ⟨d, .call { callee:= .builtin .append,args:= #[s,x],argTypes:= #[t,u] },ty,pos,after,g⟩).run P w= .ok (.value v') w':=by
  unfold execOp
  simp only[resolve,invoke,builtin,Sem.run_bind,Sem.run_pure,Result.andThen_ok,List.map_toArray,List.map_cons,List.map_nil,e1,e2,h1]
 rw[hrun']
 have hk:Keeps (λ k=>k∈(vecI P t v 1 m c).own) w w':=⟨h3.os,h3.tape,h3.output,run_drawn _ _ _ _ h1,h3.size,λ k hlt hn=>h3.block k hlt (λ e=>hn (by simp[vecI, ←e]))⟩
 obtain⟨g1,g2,g3⟩:=zhy (it':=vecI P t v' 1 (m+ys.length) (c++ys.flatMap enc)) hg hk (λ k hk'=>by
   have hk'':v'.ownBlock=some k:=by simpa[vecI]using hk'
   refine⟨(h2.lt k hk'').2,λ hlt=> ?_⟩
   rcases h5 with h5|h5
   .simp[vecI, ←h5,hk'']
   .rw[h5]at hk'';injection hk'' with e;omega) (by cases h:v'.ownBlock <;>simp[vecI,h])
  (λ hkk hMM=>⟨_,h2,(hfit.keep hkk hMM).app (hf.keep hkk hMM)⟩)
 exact⟨_,_,⟨v',rfl,rfl⟩,g1,g2,g3,rfl⟩
theorem op_appTS {s z:Operand} (henc: ∀x,enc x=[.exact (.int .u8 (x.toNat:Int))]) (hE:elB P t 1=true) (hu:isStrB P u=true) (hz:(P.info? (elemOfT P t)).bind (·.zero)=some (.int .u8 0)) (hby:((P.info? (elemOfT P t)).map (·.bytes))=some 1)
  (hs:af.ev s= .exact v) (hx:af.ev z= .exact (.string (bs ys))) (hl:xs.length+ys.length≤LIM) (hk: ∀v',K (af.put d (.exact v')) (vecT P t 1 enc v' (xs++ys)::ρ)):
  opB P ⟨d, .call { callee:= .builtin .append,args:= #[s,z],argTypes:= #[t,u] },ty,pos,after,g⟩ af (vecT P t 1 enc v xs::ρ) K:=
 ⟨_,loud_appendS henc hE hu hz hby hs hx hl,λ av σ' ⟨v',e1,e2⟩=>by
  subst e1 e2
  have:=hk v'
  unfold vecT at this
  rwa [List.length_append,List.flatMap_append]at this⟩
end
end
noncomputable section
open Go.RowKit
section
variable {P:Program} {ops:Array Oper} {E:Env} {n:Nat} {af:AF} {σ:Items} {F:BSet} {w:World} {it:Item}
theorem both_cons:both (both F (λ k=>k∈it.own)) (Items.own σ)=both F (Items.own (it::σ)):=by
 funext k
 simp only[both,zcc,eq_iff_iff]
 constructor
 .rintro ((h|h)|h)
  .exact .inl h
  .exact .inr (.inl h)
  .exact .inr (.inr h)
 .rintro (h|h|h)
  .exact .inl (.inl h)
  .exact .inl (.inr h)
  .exact .inr h
theorem good_frame (hg:Good F (it::σ) w):Good (both F (λ k=>k∈it.own)) σ w:=by
 have hnd:=hg.nodup
 rw[List.flatMap_cons,List.nodup_append]at hnd
 refine⟨λ k h=>h.elim (hg.fr k) (λ h=>(hg.own k (zcc.2 (.inl h))).1),λ k h=>⟨(hg.own k (zcc.2 (.inr h))).1,λ h'=>h'.elim (hg.own k (zcc.2 (.inr h))).2 (λ h'=>hnd.2.2 k h' k h rfl)⟩,hnd.2.1,λ x hx=> ?_⟩
 rw[both_cons]
 exact hg.items x (List.mem_cons_of_mem _ hx)
theorem out_frame {post:AV->Items->Prop} {v:Value} {w':World} (hg:Good F (it::σ) w) (h:Out (both F (λ k=>k∈it.own)) σ w post v w'):Out F (it::σ) w (λ a s=> ∃s',s=it::s'/\post a s') v w':=by
 obtain⟨av,s,h1,h2,h3,h4,h5⟩:=h
 have hnd:=hg.nodup
 rw[List.flatMap_cons,List.nodup_append]at hnd
 refine⟨av,it::s,⟨s,rfl,h1⟩,⟨λ k hk=>h2.fr k (.inl hk),λ k hk=> ?_, ?_,λ x hx=> ?_⟩,h3.mono (λ k _ hk=>zcc.2 (.inr hk)),λ k hk hlt=> ?_, ?_⟩
 .rcases zcc.1 hk with hk|hk
  .exact⟨h2.fr k (.inr hk),(hg.own k (zcc.2 (.inl hk))).2⟩
  .exact⟨(h2.own k hk).1,λ hF=>(h2.own k hk).2 (.inl hF)⟩
 .rw[List.flatMap_cons,List.nodup_append]
  exact⟨hnd.1,h2.nodup,λ a ha b hb hab=>by subst hab;exact(h2.own a hb).2 (.inr ha)⟩
 .rcases List.mem_cons.1 hx with rfl|hx
  .refine x.keep (M:=both F (Items.own (x::σ))) (h3.mono (λ k _ hk=>⟨.inr (zcc.2 (.inr hk)),λ hk'=>hnd.2.2 k hk' k hk rfl⟩)) (λ k hlt hk=> ?_) (hg.items x List.mem_cons_self)
   refine hk.imp id (λ hk=> ?_)
   rcases zcc.1 hk with hk|hk
   .exact zcc.2 (.inl hk)
   .exact zcc.2 (.inr (h4 k hk hlt))
  .rw[←both_cons];exact h2.items x hx
 .rcases zcc.1 hk with hk|hk
  .exact zcc.2 (.inl hk)
  .exact zcc.2 (.inr (h4 k hk hlt))
 .rw[←both_cons];exact h5
theorem Loud.frame {o:Oper} {post:AV->Items->Prop} (h:Loud P o af σ post):Loud P o af (it::σ) (λ a s=> ∃s',s=it::s'/\post a s'):=by
 intro F w ev hg hx
 have h1:=h _ w ev (good_frame hg) (λ x hm=>by rw[both_cons];exact hx x hm)
 generalize(execOp ev o).run P w=r at h1
 cases r with
 |ok n w'=>
  cases n <;>simp only[Upon]at h1⊢ <;>try exact h1.elim
  case value v=>exact out_frame hg h1
  case skip=>exact out_frame hg h1
  case enter f args=>exact h1.mono λ e w'' ⟨v,he,ho⟩=>⟨v,he,out_frame hg ho⟩
  case row r args=>exact h1.mono λ v w'' ho=>out_frame hg ho
 |halt x w'=>exact h1.elim
theorem Reads.frame {o:Oper} {av:AV} (h:Reads P o af σ av):Reads P o af (it::σ) av:=by
 intro F w ev hg hx
 have h1:=h _ w ev (good_frame hg) (λ x hm=>by rw[both_cons];exact hx x hm)
 rwa [both_cons]at h1
theorem Loud.put {o oj:Oper} {post:AV->Items->Prop} (x:AV) (h: ∀d,oj.dst=some d->d∉o.looksAt ops) (hq:Loud P o af σ post):Loud P o (af.put oj.dst x) σ post:=
 λ F w ev hg hx=>hq F w ev hg (λ y hy=>by have:=hx y hy;rwa [ev_put af x h y hy]at this)
inductive Ent where
 |op (kd i:Nat)
 |new (a:Nat) (d:Tmp) (t:TypeId) (c:List AV)
variable {kp:Items}
def entOf (p:Nat×Nat):Ent:= .op p.1 p.2
def NewOK (P:Program) (ops:Array Oper) (es:List Ent):Prop:=
 ∀a d t c,Ent.new a d t c∈es-> ∃ty pos after z,ops[a]?=some ⟨some d, .alloc t,ty,pos,after,none⟩/\(P.info? t).bind (·.zero)=some z/\LEs (z.cells.toList.map AV.exact) c
variable {ks:List KFr} {QA:Exit->AF->Items->Prop}
theorem NewOK.nil:NewOK P ops []:=λ _ _ _ _ h=>by cases h
theorem NewOK.one {kd i:Nat} {es:List Ent} (h:NewOK P ops es):NewOK P ops (.op kd i::es):=λ a d t c hm=>by
 rcases List.mem_cons.1 hm with e|hm
 .cases e
 .exact h a d t c hm
theorem NewOK.many {es rest:List Ent} (l:List (Nat×Nat)) (he:es=l.map entOf++rest) (h:NewOK P ops rest):NewOK P ops es:=by
 subst he
 induction l with
 |nil=>exact h
 |cons p l ih=>exact ih.one
theorem NewOK.fresh {a:Nat} {d:Tmp} {t:TypeId} {c:List AV} {es:List Ent} {ty:TypeId} {pos:String} {after:Array Edge} {z:Value} (h0:ops[a]?=some ⟨some d, .alloc t,ty,pos,after,none⟩) (hz:(P.info? t).bind (·.zero)=some z) (hc:LEs (z.cells.toList.map AV.exact) c) (h:NewOK P ops es):NewOK P ops (.new a d t c::es):=λ a' d' t' c' hm=>by
 rcases List.mem_cons.1 hm with e|hm
 .injection e with e1 e2 e3 e4
  subst e1 e2 e3 e4
  exact⟨ty,pos,after,z,h0,hz,hc⟩
 .exact h a' d' t' c' hm
end
end
noncomputable section
open Go.RowKit
def ownsO (w:World) (e:TypeId) (size:Nat) (v:Value) (n:Nat) (xs:List Value):Prop:=
 xs.length=n*size∧
 ((v= .slice none 0 0/\n=0)∨
   ∃g o cap cur,v= .slice (some ⟨g,o,none⟩) n cap/\w.heap[g]?=some (.cells cur e (0,0))/\n≤cap/\cap≤maxLen/\o+cap*size≤cur.size/\(cur.toList.drop o).take (n*size)=xs)
theorem ownsO_of {w:World} {b:Nat} {e:TypeId} {size n:Nat} {v:Value} {xs:List Value} (h:w.ownsRow b e size v n xs):ownsO w e size v n xs:=by
 refine⟨h.1, ?_⟩
 rcases h.2 with h|⟨g,cap,cur,h1,_,h2,h3,h4,h5,h6⟩
 .exact .inl h
 .exact .inr ⟨g,0,cap,cur,h1,h2,h3,h4,by omega,by simpa using h6⟩
theorem ownsO.cells {w:World} {e:TypeId} {size n g o l c:Nat} {xs:List Value} (h:ownsO w e size (.slice (some ⟨g,o,none⟩) l c) n xs): ∀j u,xs[j]?=some u->w.cell? ⟨g,o+j,none⟩=some u:=by
 intro j u hu
 rcases h.2 with⟨h,_⟩|⟨g',o',cap,cur,hv,hg,_,_,_,ht⟩
 .cases h
 .injection hv with q1 q2 q3
  injection q1 with q1
  injection q1 with q1 q4
  subst q1 q4
  rw[cell_of_row w g (o+j) cur e (0,0) hg]
  rw[←ht,List.getElem?_take]at hu
  split at hu
  .rw[List.getElem?_drop]at hu;simpa using hu
  .cases hu
theorem ownsO.lt {w:World} {e:TypeId} {size n:Nat} {v:Value} {xs:List Value} (h:ownsO w e size v n xs): ∀k,v.ownBlock=some k->k<w.heap.size:=by
 intro k hk
 rcases h.2 with⟨rfl,_⟩|⟨g,o,cap,cur,rfl,hg,_⟩
 .simp[Value.ownBlock]at hk
 .simp[Value.ownBlock]at hk
  subst hk
  exact(Array.getElem?_eq_some_iff.1 hg).1
def vecO {α:Type} (P:Program) (t:TypeId) (n:Nat) (enc:α->List AV) (v:Value) (xs:List α):Item where
 own:=v.ownBlock.toList
 p:=λ M w=> ∃us,ownsO w (elemOfT P t) n v xs.length us/\Fit M w (xs.flatMap enc) us
 keep:=λ {M M' w w'} hk hm ⟨us,h1,h2⟩=>by
  refine⟨us,⟨h1.1, ?_⟩,h2.keep (hk.mono (λ k _ h=>h.1)) hm⟩
  rcases h1.2 with h3|⟨g,o,cap,cur,rfl,hg,r⟩
  .exact .inl h3
  .refine .inr ⟨g,o,cap,cur,rfl, ?_,r⟩
   rw[hk.block g (Array.getElem?_eq_some_iff.1 hg).1 (λ h=>h.2 (by simp[Value.ownBlock]))]
   exact hg
section
variable {P:Program} {E:Env} {af:AF} {σ ρ:Items} {d:Option Tmp} {ty t:TypeId} {pos:String} {after:Array Edge} {g:Option (Nat×Bool)} {α:Type} {n:Nat} {enc:α->List AV} {xs ys:List α} {v:Value}
theorem SubU.toO:SubU af (vecT P t n enc v xs::σ) af (vecO P t n enc v xs::σ):=by
 intro E N a w hh
 have hown: ∀k,Items.own (vecO P t n enc v xs::σ) k↔Items.own (vecT P t n enc v xs::σ) k:=λ k=>by rw[zcc,zcc];simp[vecO,vecT,vecI]
 have hM: ∀k,k<w.heap.size->both E.F (Items.own (vecO P t n enc v xs::σ)) k->both E.F (Items.own (vecT P t n enc v xs::σ)) k:=λ k _ h=>h.imp id (hown k).1
 refine⟨hh.tmps,hh.defers,hh.kept,λ k h hlt=>hh.old k ((hown k).1 h) hlt,⟨hh.good.fr,λ k h=>hh.good.own k ((hown k).1 h), ?_,λ it hi=> ?_⟩,λ t=>(af t).keep (Keeps.refl _ _) hM (hh.fits t)⟩
 .have:=hh.good.nodup;rw[List.flatMap_cons]at this ⊢;exact this
 .rcases List.mem_cons.1 hi with rfl|hi
  .obtain⟨us,h1,h2⟩:=hh.good.items _ List.mem_cons_self
   exact⟨us,ownsO_of h1,h2.keep (Keeps.refl _ _) hM⟩
  .exact it.keep (Keeps.refl _ _) hM (hh.good.items it (List.mem_cons_of_mem _ hi))
theorem SubU.freezeO {s:Tmp} (hs:af s= .exact v) (he: ∀x,(enc x).length=n):SubU af (vecO P t n enc v xs::σ) (af.put (some s) (.row n enc xs)) σ:=by
 intro E N a w hh
 have hM: ∀k,k<w.heap.size->both E.F (Items.own σ) k->both E.F (Items.own (vecO P t n enc v xs::σ)) k:=λ k _ h=>h.imp id (λ h=>zcc.2 (.inr h))
 have hnd:=hh.good.nodup
 rw[List.flatMap_cons,List.nodup_append]at hnd
 refine⟨hh.tmps,hh.defers,hh.kept,λ k h hlt=>hh.old k (zcc.2 (.inr h)) hlt,⟨hh.good.fr,λ k h=>hh.good.own k (zcc.2 (.inr h)),hnd.2.1,λ it hi=>it.keep (Keeps.refl _ _) hM (hh.good.items it (List.mem_cons_of_mem _ hi))⟩,λ u=> ?_⟩
 by_cases hu:u=s
 .subst hu
  rw[AF.put_same]
  have hv:=hh.fits u
  rw[hs]at hv
  have hv':a.tmps.getD u undef=v:=hv
  rw[hv']
  obtain⟨us,hown,hfit⟩:=hh.good.items (vecO P t n enc v xs) List.mem_cons_self
  have hown0:=hown
  rcases hown.2 with⟨rfl,h0⟩|⟨gg,o,cap,cur,rfl,hg,hnc,hcm,_,htake⟩
  .have:xs=[]:=List.length_eq_zero_iff.1 h0
   subst this
   exact⟨none,0,rfl,by simp,by simp,λ h=>absurd rfl h⟩
  .refine⟨some ⟨gg,o,none⟩,cap,rfl,hnc,by simp only[maxLen]at hcm;omega,λ _=>⟨gg,o,rfl,(Array.getElem?_eq_some_iff.1 hg).1, ?_,λ i x hx=> ?_⟩⟩
   .rintro (hF|hO)
    .exact(hh.good.own gg (zcc.2 (.inl (by simp[vecO,Value.ownBlock])))).2 hF
    .exact hnd.2.2 gg (by simp[vecO,Value.ownBlock]) gg hO rfl
   .refine⟨he x, ?_⟩
    have hcells:=zjm (b:=gg) (off:=o) (hfit.keep (Keeps.refl _ _) hM) (λ j u hu=>hown0.cells j u hu)
    exact hcells.sub (λ j a hj=>flat_get (λ y _=>he y) hx j a hj)
 .rw[AF.put_other _ _ hu]
  exact(af u).keep (Keeps.refl _ _) hM (hh.fits u)
theorem op_len_O {x:Operand} {e:TypeId} {K:AF->Prop} (hB:isSliceB P t=true) (hx:af.ev x= .exact v) (hk:K (af.put d (.exact (.int .i64 (xs.length:Int))))):
  opR P ⟨d, .call { callee:= .builtin .len,args:= #[x],argTypes:= #[t] },ty,pos,after,g⟩ af (vecO P e n enc v xs::ρ) K:=by
 refine⟨_,λ F w ev hg h=> ?_,hk⟩
 have e1:=opnd h (x:=x) (by simp[Op.operands,Call.operands]) hx
 obtain⟨e,hu⟩:=isSliceB_spec hB
 obtain⟨vs,hown,_⟩:=hg.items _ List.mem_cons_self
 have hv: ∃A c,v= .slice A xs.length c:=by
  rcases hown.2 with⟨rfl,h0⟩|⟨g,o,cap,cur,rfl,_⟩
  .exact⟨none,0,by rw[h0]⟩
  .exact⟨_,_,rfl⟩
 obtain⟨A,c,rfl⟩:=hv
 simp[execOp,resolve,invoke,builtin,Builtin.len_,e1,zdk hu,goInt,go_sem,UponQ]
 exact⟨Keeps.refl _ _,rfl⟩
theorem run_append_room_o {w:World} {t ty e:TypeId} {i:TypeInfo} (ht:P.underlying t=some (.slice e)) (hi:P.info? e=some i)
  {g o sLen sCap:Nat} {cur:Array Value} (hg:w.heap[g]?=some (.cells cur e (0,0)))
  {a:Addr} {m c:Nat} {news:List Value} (hl:news.length=m*i.size) (hnews: ∀j u,news[j]?=some u->w.cell? (a.add j)=some u) (h1: ∀u∈news,u.oneCell'=true)
  (hroom:sLen+m≤sCap) (hfit:o+sLen*i.size+news.length≤cur.size):
  (Builtin.append_ #[t,t] ty #[.slice (some ⟨g,o,none⟩) sLen sCap, .slice (some a) m c]).run P w=
   .ok (.slice (some ⟨g,o,none⟩) (sLen+m) sCap) (w.setRow g (cur.toList.take (o+sLen*i.size)++news++cur.toList.drop (o+sLen*i.size+news.length)).toArray):=by
 have hf:=run_firstCells_some (P:=P) w i.size m a m c news hl hnews
 have hst:=run_storeCells_at P g (o+sLen*i.size) e news 0 cur w hg (by simpa using hfit) h1
 simp only[Nat.add_zero]at hst
 simp[Builtin.append_,run_underlying ht,sizeOf,typeInfo,hi,Builtin.lenOf,hroom,hf,Addr.add_lit,hst]
theorem run_append_o {w:World} {t ty e:TypeId} {i:TypeInfo} {z:Value} {size bytes:Nat} (ht:P.underlying t=some (.slice e)) (hi:P.info? e=some i) (hz:i.zero=some z)
  (hsize:i.size=size) (hby:i.bytes=bytes) (hzs:z.cells.size=size)
  {v:Value} {n:Nat} {xs:List Value} (hown:ownsO w e size v n xs)
  {a:Addr} {m c:Nat} {news:List Value} (hl:news.length=m*size) (hnews: ∀j u,news[j]?=some u->w.cell? (a.add j)=some u) (h1: ∀u∈news,u.oneCell'=true)
  (h63:n+m≤maxLen) (hbytes:(n+m)*bytes≤140737488355328):
  ∃v' w',(Builtin.append_ #[t,t] ty #[v, .slice (some a) m c]).run P w= .ok v' w'/\ownsO w' e size v' (n+m) (xs++news)/\w.grownBy w' v.ownBlock/\(v'.ownBlock=v.ownBlock∨v'.ownBlock=some w.heap.size):=by
 subst hsize
 subst hby
 have hsmall:n+m≤9223372036854775807:=by simp only[maxLen]at h63;omega
 have hlen:(xs++news).length=(n+m)*i.size:=by rw[List.length_append,hown.1,hl,Nat.add_mul]
 have grown: ∀(old:Nat),old<n+m-> ∀(row:Option Nat),
   ownsO (w.drew.alloc (.cells (xs.toArray++news.toArray++Builtin.zeroCells z.cells (grownCap w (n+m) old e - (n+m))) e)) e i.size
    (.slice (some ⟨w.heap.size,0,none⟩) (n+m) (grownCap w (n+m) old e)) (n+m) (xs++news)∧
   w.grownBy (w.drew.alloc (.cells (xs.toArray++news.toArray++Builtin.zeroCells z.cells (grownCap w (n+m) old e - (n+m))) e)) row:=by
  intro old ho row
  have hge:=grownCap_ge w (n+m) old e
  have hcm:grownCap w (n+m) old e≤maxLen:=grownCap_le_maxLen w (n+m) old e h63
  have hsz:(xs.toArray++news.toArray++Builtin.zeroCells z.cells (grownCap w (n+m) old e - (n+m))).size=grownCap w (n+m) old e*i.size:=by
   simp only[Array.size_append,List.size_toArray,size_zeroCells,hzs,hown.1,hl, ←Nat.add_mul]
   congr 1
   omega
  refine⟨⟨hlen, .inr ⟨w.heap.size,0,_,_,rfl,heap_alloc_new w.drew _,hge,hcm,by rw[hsz];omega, ?_⟩⟩,⟨rfl,rfl,rfl,by simp,λ k hk _=>heap_alloc_old w.drew _ hk⟩⟩
  simp only[Array.toList_append,List.append_assoc,List.drop_zero]
  rw[←List.append_assoc, ←hlen]
  exact List.take_left
 rcases hown.2 with⟨rfl,rfl⟩|⟨gg,o,cap,cur,rfl,hg,hnc,hcm,hcs,htake⟩
 .have hx:xs=[]:=List.eq_nil_of_length_eq_zero (by simpa using hown.1)
  subst hx
  by_cases hm:m=0
  .subst hm
   have hn:news=[]:=List.eq_nil_of_length_eq_zero (by simpa using hl)
   subst hn
   refine⟨.slice none 0 0,w, ?_,⟨by simp, .inl ⟨rfl,rfl⟩⟩,⟨rfl,rfl,rfl,Nat.le_refl _,λ _ _ _=>rfl⟩, .inl rfl⟩
   simp[Builtin.append_,run_underlying ht,sizeOf,typeInfo,hi,Builtin.lenOf,Builtin.firstCells,loadCells,loadCellsFrom]
  .have hr:=run_append_nil (P:=P) w t ty e i z ht hi hz a m c news hl hnews (by omega) (by omega) (by have hb:=hbytes;simp only[Nat.zero_add]at hb;omega)
   have hgr:=grown 0 (by omega) (Value.ownBlock (.slice none 0 0))
   simp only[Nat.zero_add,List.nil_append,Array.empty_append]at hgr⊢
   exact⟨_,_,hr,hgr.1,hgr.2, .inr rfl⟩
 .by_cases hroom:n+m≤cap
  .have hmul:(n+m)*i.size≤cap*i.size:=Nat.mul_le_mul_right _ hroom
   have hnm:=Nat.add_mul n m i.size
   have hfit:o+n*i.size+news.length≤cur.size:=by omega
   have hr:=run_append_room_o (P:=P) (ty:=ty) (c:=c) ht hi hg hl hnews h1 hroom hfit
   refine⟨_,_,hr,⟨hlen, .inr ⟨gg,o,cap,_,rfl,setRow_heap w gg cur _ e _ hg,hroom,hcm, ?_, ?_⟩⟩,⟨rfl,rfl,rfl,by simp,λ k _ hk=>setRow_other w gg k _ (λ e=>hk (by simp[Value.ownBlock,e]))⟩, .inl rfl⟩
   .simp only[List.size_toArray,List.length_append,List.length_take,List.length_drop,Array.length_toList]
    omega
   .have ht2:cur.toList.take (o+n*i.size)=cur.toList.take o++xs:=by rw[List.take_add,htake]
    have hol:(cur.toList.take o).length=o:=by simp;omega
    simp only[]
    rw[ht2,List.append_assoc,List.append_assoc,List.drop_left' hol, ←List.append_assoc, ←hlen]
    exact List.take_left
  .have holds: ∀j u,xs[j]?=some u->w.cell? ((⟨gg,o,none⟩:Addr).add j)=some u:=λ j u hu=>by rw[addr_add'];exact hown.cells j u hu
   have hr:=run_append_grow (P:=P) w t ty e i z ht hi hz ⟨gg,o,none⟩ n cap xs hown.1 holds a m c news hl hnews (by omega) (by omega) (growslice_fits (by omega) hbytes)
   have hgr:=grown cap (by omega) (Value.ownBlock (.slice (some ⟨gg,o,none⟩) n cap))
   exact⟨_,_,hr,hgr.1,hgr.2, .inr rfl⟩
theorem flat_take_drop (he: ∀x,(enc x).length=n): ∀(ys:List α) (k:Nat),(ys.flatMap enc).take (k*n)=(ys.take k).flatMap enc/\(ys.flatMap enc).drop (k*n)=(ys.drop k).flatMap enc:=by
 intro ys
 induction ys with
 |nil=>simp
 |cons y ys ih=>
  intro k
  cases k with
  |zero=>simp
  |succ k=>
   have e:(k+1)*n=n+k*n:=by rw[Nat.add_mul];omega
   rw[List.flatMap_cons,e, ←he y,List.take_length_add_append,List.drop_length_add_append,he y,(ih k).1,(ih k).2]
   simp
end
theorem vecO_row {α:Type} {P:Program} {t:TypeId} {n:Nat} {enc:α->List AV} {xs:List α} {v:Value} {w:World} {M:BSet} (hM: ∀k,v.ownBlock=some k-> ¬M k) (he: ∀x,(enc x).length=n) {M':BSet} (h:(vecO P t n enc v xs).p M' w) (hMM: ∀k,k<w.heap.size->M k->M' k):(AV.row n enc xs).p M w v:=by
 obtain⟨us,hown,hfit⟩:=h
 have hown0:=hown
 rcases hown.2 with⟨rfl,h0⟩|⟨gg,o,cap,cur,rfl,hg,hnc,hcm,_,htake⟩
 .have:xs=[]:=List.length_eq_zero_iff.1 h0
  subst this
  exact⟨none,0,rfl,by simp,by simp,λ h=>absurd rfl h⟩
 .refine⟨some ⟨gg,o,none⟩,cap,rfl,hnc,by simp only[maxLen]at hcm;omega,λ _=>⟨gg,o,rfl,(Array.getElem?_eq_some_iff.1 hg).1,hM gg rfl,λ i x hx=>⟨he x, ?_⟩⟩⟩
  have hcells:=zjm (b:=gg) (off:=o) (hfit.keep (Keeps.refl _ _) hMM) (λ j u hu=>hown0.cells j u hu)
  exact hcells.sub (λ j a hj=>flat_get (λ y _=>he y) hx j a hj)
end
noncomputable section
open Go.RowKit Go.Maps
open Go.WideElems (Fit rd rg pl rd_val elemAt)
def heldR (v:Value):Option (DataW Value×List MemPlace):=some (.held v,[])
def MView (D:DataW Value) (f:Int->Option Value):Prop:=IsMap D/\ ∀k z,D.atKey (.int .i64 k) z=(match f k with|some v=> .held v|none=>z)
theorem MView.has {D:DataW Value} {f:Int->Option Value} (h:MView D f) (k:Int):Maps.has D (.int .i64 k)=(f k).isSome:=by
 have h2:=h.2 k
 cases hf:f k with
 |none=>rw[hf]at h2;exact has_false_of_atKey h2
 |some v=>rw[hf]at h2;exact has_true_of_atKey h2
theorem MView.empty:MView (.map []) (λ _=>none):=⟨isMap_empty,λ _ _=>rfl⟩
def updM (f:Int->Option Value) (k:Int) (v:Value):Int->Option Value:=λ j=>if j=k then some v else f j
theorem MView.put {D:DataW Value} {f:Int->Option Value} (h:MView D f) {k:Int} (hkey:WideAt.IsKeyLit (.int .i64 k)) (v:Value):MView (D.put (.int .i64 k) (.held v)) (updM f k v):=by
 refine⟨h.1.put _ _,λ j z=> ?_⟩
 unfold updM
 by_cases hj:j=k
 .subst hj;rw[if_pos rfl,atKey_put_same h.1 hkey]
 .rw[if_neg hj,atKey_put_other (λ e=>hj (by injection e)),h.2]
def mapS (P:Program) (kt:TypeId) (b N:Nat) (f:Int->Option Value):Item where
 own:=[b]
 p:=λ _ w=> ∃D,w.ownsMap P kt heldR b N D/\MView D f
 keep:=λ {M M' w w'} hk _ ⟨D,⟨es,clock,hb,r⟩,h2⟩=>⟨D,⟨es,clock,by
  rw[hk.block b (Array.getElem?_eq_some_iff.1 hb).1 (λ h=>h.2 (by simp))];exact hb,r⟩,h2⟩
def itS (P:Program) (kt:TypeId) (b r N:Nat) (f:Int->Option Value) (left:List Int) (lst:Option (Int×Value)):Item where
 own:=[b,r]
 p:=λ _ w=> ∃D l cnt,w.ranges P kt heldR b r N D l cnt/\MView D f/\(∀k,l (.int .i64 k)=true↔k∈left)/\(∀kv,lst=some kv->(Instr.entry (.pointer (some ⟨r,0,none⟩))).run P w= .ok (.tuple #[.int .i64 kv.1,kv.2]) w)
 keep:=λ {M M' w w'} hk _ ⟨D,l,cnt,⟨es,clock,since,seen,c0,hb,hF,hs,hD,hr,q⟩,h2,h3,h4⟩=>by
  have e1:=hk.block b (Array.getElem?_eq_some_iff.1 hb).1 (λ h=>h.2 (by simp))
  have e2:=hk.block r (Array.getElem?_eq_some_iff.1 hr).1 (λ h=>h.2 (by simp))
  refine⟨D,l,cnt,⟨es,clock,since,seen,c0,by rw[e1];exact hb,hF,hs,hD,by rw[e2];exact hr,q⟩,h2,h3,λ kv hkv=> ?_⟩
  have:=h4 kv hkv
  have hr':w'.heap[r]?=some (.mapIter (some b) since seen c0):=by rw[e2];exact hr
  have hb':w'.heap[b]?=some (.map es clock):=by rw[e1];exact hb
  simp only[Instr.entry,getObj,Sem.run_bind,Sem.run,hr,hb,Result.andThen]at this
  simp only[Instr.entry,getObj,Sem.run_bind,Sem.run,hr',hb',Result.andThen]
  cases hbk:seen.back? with
  |none=>rw[hbk]at this;simp[stuck,Sem.run]at this
  |some s=>
   rw[hbk]at this
   simp only[]at this⊢
   simp only[Sem.getObj,getObj,Sem.run_bind,Sem.run,hb,Result.andThen]at this
   simp only[Sem.getObj,getObj,Sem.run_bind,Sem.run,hb',Result.andThen]
   by_cases hc:(clock !=c0)=true
   .rw[if_pos hc]at this;simp[unsupported,Sem.run]at this
   .rw[if_neg hc]at this⊢
    cases hfd:es.find? (λ x=>x.born ==s)with
    |none=>rw[hfd]at this;simp[unsupported,Sem.run]at this
    |some e=>
     rw[hfd]at this
     simp[Sem.run]at this⊢
     exact this
section
variable {P:Program} {E:Env} {af:AF} {σ ρ:Items} {d:Option Tmp} {ty t kt e:TypeId} {pos:String} {after:Array Edge} {g:Option (Nat×Bool)} {b r N:Nat} {f:Int->Option Value}
theorem op_makeMap {K:AF->Items->Prop} (hk: ∀b,K (af.put d (.exact (.map (some b)))) (mapS P kt b 0 (λ _=>none)::σ)):opB P ⟨d, .makeMap t none,ty,pos,after,g⟩ af σ K:=by
 refine⟨λ a s=> ∃b,a= .exact (.map (some b))/\s=mapS P kt b 0 (λ _=>none)::σ,λ F w ev hg h=> ?_,λ av s ⟨b,e1,e2⟩=>by subst e1 e2;exact hk b⟩
 have hrun:(execOp ev ⟨d, .makeMap t none,ty,pos,after,g⟩).run P w= .ok (.value (.map (some w.heap.size))) (w.alloc (.map #[] 0)):=rfl
 rw[hrun]
 exact out_new (it:=mapS P kt w.heap.size 0 (λ _=>none)) hg rfl (λ M hM=>⟨_,World.ownsMap_made w P kt heldR,MView.empty⟩) (λ M=>rfl) ⟨_,rfl,rfl⟩
theorem op_lookup {m x:Operand} {k:Int} {z:Value} {K:AF->Prop} (ht:P.underlying t=some (.map kt e)) (hkt:P.underlying kt=some (.int .i64)) (hz: ∀w,(zeroValue e).run P w= .ok z w) (hm:af.ev m= .exact (.map (some b))) (hx:af.ev x= .exact (.int .i64 k)) (hw:(Lit.int .i64 k).wf=true)
  (hk:K (af.put d (.exact ((f k).getD z)))):opR P ⟨d, .lookup t m x false,ty,pos,after,g⟩ af (mapS P kt b N f::ρ) K:=by
 refine⟨_,λ F w ev hg h=> ?_,hk⟩
 have e1:=opnd h (x:=m) (by simp[Op.operands]) hm
 have e2:=opnd h (x:=x) (by simp[Op.operands]) hx
 obtain⟨D,hown,hv⟩:=hg.items (mapS P kt b N f) List.mem_cons_self
 obtain⟨v,ps,hrun,hR⟩:=hown.lookup (int_keyed hkt) ht (hz w) (zd:= .held z) (zp:=[]) rfl (keyOf_int_mk hkt hw)
 rw[hv.2]at hR
 have hve:v=(f k).getD z:=by
  unfold heldR at hR
  injection hR with hR
  injection hR with hR _
  cases hf:f k with
  |none=>rw[hf]at hR;injection hR
  |some u=>rw[hf]at hR;injection hR
 have hrun':(execOp ev ⟨d, .lookup t m x false,ty,pos,after,g⟩).run P w= .ok (.value v) w:=by
  simp[execOp,e1,e2,hrun,Result.andThen]
 rw[hrun']
 exact⟨Keeps.refl _ _,hve⟩
theorem op_mapUpdate {m x y:Operand} {k:Int} {v:Value} {K:AF->Items->Prop} (ht:P.underlying t=some (.map kt e)) (hkt:P.underlying kt=some (.int .i64)) (hm:af.ev m= .exact (.map (some b))) (hx:af.ev x= .exact (.int .i64 k)) (hy:af.ev y= .exact v) (hw:(Lit.int .i64 k).wf=true) (hN:N<maxLen)
  (hk:K (af.put d undefA) (mapS P kt b (N+1) (updM f k v)::ρ)):opB P ⟨d, .mapUpdate t m x y,ty,pos,after,g⟩ af (mapS P kt b N f::ρ) K:=by
 refine⟨λ a s=>a=undefA/\s=mapS P kt b (N+1) (updM f k v)::ρ,λ F w ev hg h=> ?_,λ av s ⟨e1,e2⟩=>by subst e1 e2;exact hk⟩
 have e1:=opnd h (x:=m) (by simp[Op.operands]) hm
 have e2:=opnd h (x:=x) (by simp[Op.operands]) hx
 have e3:=opnd h (x:=y) (by simp[Op.operands]) hy
 obtain⟨D,hown,hv⟩:=hg.items (mapS P kt b N f) List.mem_cons_self
 have hkey:=keyOf_int_mk hkt hw
 obtain⟨w',hrun,hown',hgr⟩:=hown.update (int_keyed hkt) ht hN (val:=v) (d:= .held v) (ps:=[]) hkey rfl
 have hrun':(execOp ev ⟨d, .mapUpdate t m x y,ty,pos,after,g⟩).run P w= .ok .skip w':=by
  simp[execOp,e1,e2,e3,hrun,Result.andThen]
 rw[hrun']
 have hk':Keeps (λ q=>q∈(mapS P kt b N f).own) w w':=⟨hgr.os,hgr.tape,hgr.output,run_drawn _ _ _ _ hrun,hgr.size,λ q hlt hn=>hgr.block q hlt (λ e=>hn (by injection e with e;simp[mapS,e]))⟩
 obtain⟨g1,g2,g3⟩:=zhy (it':=mapS P kt b (N+1) (updM f k v)) hg hk' (λ q hq=>by
   have:q=b:=by simpa[mapS]using hq
   subst this
   exact⟨hown'.lt,λ _=>by simp[mapS]⟩) (by simp[mapS])
  (λ _ _=>⟨_,hown',hv.put ((int_keyed hkt).key hkey) v⟩)
 exact⟨_,_,⟨rfl,rfl⟩,g1,g2,g3,rfl⟩
theorem op_range {m:Operand} {left:List Int} {K:AF->Items->Prop} (ht:P.underlying t=some (.map kt e)) (hkt:P.underlying kt=some (.int .i64)) (hm:af.ev m= .exact (.map (some b))) (hl: ∀k,(f k).isSome=true↔k∈left)
  (hk: ∀r,K (af.put d (pA r 0)) (itS P kt b r N f left none::ρ)):opB P ⟨d, .range t m,ty,pos,after,g⟩ af (mapS P kt b N f::ρ) K:=by
 refine⟨λ a s=> ∃r,a=pA r 0/\s=itS P kt b r N f left none::ρ,λ F w ev hg h=> ?_,λ av s ⟨r,e1,e2⟩=>by subst e1 e2;exact hk r⟩
 have e1:=opnd h (x:=m) (by simp[Op.operands]) hm
 obtain⟨D,hown,hv⟩:=hg.items (mapS P kt b N f) List.mem_cons_self
 obtain⟨w',hrun,hrg,hgr,hsz⟩:=hown.range (int_keyed hkt) ht
 have hrun':(execOp ev ⟨d, .range t m,ty,pos,after,g⟩).run P w= .ok (.value (.pointer (some ⟨w.heap.size,0,none⟩))) w':=by
  simp[execOp,e1,hrun,Result.andThen]
 rw[hrun']
 have hk':Keeps (λ q=>q∈(mapS P kt b N f).own) w w':=⟨hgr.os,hgr.tape,hgr.output,run_drawn _ _ _ _ hrun,hgr.size,λ q hlt _=>hgr.block q hlt (by simp)⟩
 have hlt:=hown.lt
 obtain⟨g1,g2,g3⟩:=zhy (it':=itS P kt b w.heap.size N f left none) hg hk' (λ q hq=>by
   have:q=b∨q=w.heap.size:=by simpa[itS]using hq
   rcases this with rfl|rfl
   .exact⟨by omega,λ _=>by simp[mapS]⟩
   .exact⟨by omega,λ hh=>absurd hh (Nat.lt_irrefl _)⟩) (by simp[itS];omega)
  (λ _ _=>⟨D,_,_,hrg,hv,λ k=>by rw[hv.has];exact hl k,λ kv hkv=>by cases hkv⟩)
 exact⟨_,_,⟨_,rfl,rfl⟩,g1,g2,g3,rfl⟩
theorem op_next {x:Operand} {left:List Int} {lst:Option (Int×Value)} {K:AF->Items->Prop} (hkt:P.underlying kt=some (.int .i64)) (hx:af.ev x=pA r 0)
  (h0:left=[]->K (af.put d (.exact (.tuple #[.bool false]))) (itS P kt b r N f left none::ρ))
  (h1: ∀k v left',k∈left->f k=some v->(∀j,j∈left'↔j∈left/\j≠k)->left'.length<left.length->(Lit.int .i64 k).wf=true->K (af.put d (.exact (.tuple #[.bool true, .int .i64 k,v]))) (itS P kt b r N f left' (some (k,v))::ρ)):
  opB P ⟨d, .next x false,ty,pos,after,g⟩ af (itS P kt b r N f left lst::ρ) K:=by
 refine⟨λ a s=>(left=[]/\a= .exact (.tuple #[.bool false])/\s=itS P kt b r N f left none::ρ)∨ ∃k v left',(k∈left/\f k=some v/\(∀j,j∈left'↔j∈left/\j≠k)/\left'.length<left.length/\(Lit.int .i64 k).wf=true)/\a= .exact (.tuple #[.bool true, .int .i64 k,v])/\s=itS P kt b r N f left' (some (k,v))::ρ,λ F w ev hg h=> ?_,λ av s hh=> ?_⟩
 .have e1:ev x= .pointer (some ⟨r,0,none⟩):=opnd h (x:=x) (by simp[Op.operands]) hx
  obtain⟨D,l,cnt,hrg,hv,hl,_⟩:=hg.items (itS P kt b r N f left lst) List.mem_cons_self
  have hbl:=hrg.owns.lt
  have hrl:=hrg.lt
  have hne:=hrg.ne
  rcases hrg.next (int_keyed hkt) ty with⟨hc,hno,hrun⟩|⟨key,v,kl,y,w',cnt',hkey,hleft,hRv,hat,hrun,hrg',hcnt,hgr,hsz,hent⟩
  .have hrun':(execOp ev ⟨d, .next x false,ty,pos,after,g⟩).run P w= .ok (.value (.tuple #[.bool false])) w:=by
    simp[execOp,e1,hrun,Result.andThen]
   rw[hrun']
   have hle:left=[]:=List.eq_nil_iff_forall_not_mem.2 (λ k hk=>by have:=(hl k).2 hk;rw[hno]at this;cases this)
   obtain⟨g1,g2,g3⟩:=zhy (it':=itS P kt b r N f left none) hg ((Keeps.refl noB w).mono (λ _ _ h=>h.elim)) (λ q hq=>⟨by
     have:q=b∨q=r:=by simpa[itS]using hq
     rcases this with rfl|rfl <;>omega,λ _=>hq⟩) (by simp[itS];exact λ e=>hne e.symm)
    (λ _ _=>⟨D,l,cnt,hrg,hv,hl,λ kv hkv=>by cases hkv⟩)
   exact⟨_,_, .inl ⟨hle,rfl,rfl⟩,g1,g2,g3,rfl⟩
  .obtain⟨k,rfl,rfl,hwf⟩:=keyOf_int_inv hkt hkey
   have hrun':(execOp ev ⟨d, .next x false,ty,pos,after,g⟩).run P w= .ok (.value (.tuple #[.bool true, .int .i64 k,v])) w':=by
    simp[execOp,e1,hrun,Result.andThen]
   rw[hrun']
   have hkl:=(hl k).1 hleft
   have hfk:f k=some v:=by
    unfold heldR at hRv
    injection hRv with hRv
    have h2:=hat .nil
    rw[hv.2, ←hRv]at h2
    cases hf:f k with
    |none=>rw[hf]at h2;cases h2
    |some u=>rw[hf]at h2;injection h2 with h2;rw[h2]
   have hk':Keeps (λ q=>q∈(itS P kt b r N f left lst).own) w w':=⟨hgr.os,hgr.tape,hgr.output,run_drawn _ _ _ _ hrun,hgr.size,λ q hlt hn=>hgr.block q hlt (λ e=>hn (by injection e with e;simp[itS,e]))⟩
   have hmem: ∀j,j∈left.filter (λ j=> !decide (j=k))↔j∈left/\j≠k:=λ j=>by rw[List.mem_filter];simp
   have hlen:(left.filter (λ j=> !decide (j=k))).length<left.length:=by
    refine Nat.lt_of_le_of_ne (List.length_filter_le _ _) (λ e=> ?_)
    have:=List.filter_eq_self.1 (List.filter_sublist.eq_of_length e) k hkl
    simp at this
   have hlc: ∀j,(l (.int .i64 j) && !(Lit.int .i64 j).sameKey (.int .i64 k))=true↔j∈left.filter (λ j=> !decide (j=k)):=λ j=>by
    rw[hmem, ←hl j]
    simp only[Lit.sameKey,true_and,Bool.and_eq_true,Bool.not_eq_true',decide_eq_false_iff_not,ne_eq]
   obtain⟨g1,g2,g3⟩:=zhy (it':=itS P kt b r N f (left.filter (λ j=> !decide (j=k))) (some (k,v))) hg hk' (λ q hq=>⟨by
     have:q=b∨q=r:=by simpa[itS]using hq
     rcases this with rfl|rfl <;>omega,λ _=>hq⟩) (by simp[itS];exact λ e=>hne e.symm)
    (λ _ _=>⟨D,_,cnt',hrg',hv,hlc,λ kv hkv=>by cases hkv;exact hent⟩)
   exact⟨_,_, .inr ⟨k,v,_,⟨hkl,hfk,hmem,hlen,hwf⟩,rfl,rfl⟩,g1,g2,g3,rfl⟩
 .rcases hh with⟨a1,a2,a3⟩|⟨k,v,left',⟨b1,b2,b3,b4,b5⟩,a2,a3⟩
  .subst a2 a3;exact h0 a1
  .subst a2 a3;exact h1 k v left' b1 b2 b3 b4 b5
theorem op_entry {x:Operand} {left:List Int} {kv:Int×Value} {K:AF->Prop} (hx:af.ev x=pA r 0) (hk:K (af.put d (.exact (.tuple #[.int .i64 kv.1,kv.2])))):
  opR P ⟨d, .entry x,ty,pos,after,g⟩ af (itS P kt b r N f left (some kv)::ρ) K:=by
 refine⟨_,λ F w ev hg h=> ?_,hk⟩
 have e1:ev x= .pointer (some ⟨r,0,none⟩):=opnd h (x:=x) (by simp[Op.operands]) hx
 obtain⟨D,l,cnt,hrg,hv,hl,hent⟩:=hg.items (itS P kt b r N f left (some kv)) List.mem_cons_self
 have hrun':(execOp ev ⟨d, .entry x,ty,pos,after,g⟩).run P w= .ok (.value (.tuple #[.int .i64 kv.1,kv.2])) w:=by
  simp[execOp,e1,hent kv rfl,Result.andThen]
 rw[hrun']
 exact⟨Keeps.refl _ _,rfl⟩
end
end
noncomputable section
open Go.RowKit Go.Sort
theorem keeps_grow {w w':World} (h:Keeps noB w w'): ∃q os,w'=grow (w.drewN q) os:=by
 obtain⟨h1,h2,h3,h4,h5,h6⟩:=h
 refine⟨w'.drawn - w.drawn,w'.heap.extract w.heap.size w'.heap.size, ?_⟩
 have hheap:w'.heap=w.heap++w'.heap.extract w.heap.size w'.heap.size:=by
  apply Array.ext_getElem?
  intro i
  by_cases hi:i<w.heap.size
  .rw[Array.getElem?_append_left hi]
   exact h6 i hi (λ hf=>hf)
  .rw[Array.getElem?_append_right (by omega),Array.getElem?_extract]
   by_cases h7:i<w'.heap.size
   .rw[if_pos (by omega)];congr 1;omega
   .rw[if_neg (by omega),Array.getElem?_eq_none (by omega)]
 have hd:w'.drawn=w.drawn+(w'.drawn - w.drawn):=by omega
 cases w with
 |mk hp tp dr os out=>
  cases w' with
  |mk hp' tp' dr' os' out'=>
   simp only at h1 h2 h3 hheap hd
   subst h1 h2 h3
   unfold grow World.drewN
   simp only[World.mk.injEq,true_and,and_true]
   exact⟨hheap,hd⟩
theorem cmpLays_pure {P:Program} {g:Nat} {α:Type} [Inhabited α] {enc:α->List Value} {encA:α->List AV} {k:Nat} {cf:α->α->Int} {blk off size:Nat} {w:World} (hf: ∀x M w,Fit M w (encA x) (enc x))
  (h: ∀x y,Pure P g [.agg (encA x), .agg (encA y)] (.exact (.int .i64 (cf x y)))):CmpLays P g #[] enc k cf blk off size w:=λ m os dk hs x y=>by
 have:=h x y noB (sortWorldK enc k w blk off m dk os) [.agg (enc x).toArray, .agg (enc y).toArray] (λ _ hk=>hk.elim) ⟨⟨enc x,rfl,hf x _ _⟩,⟨enc y,rfl,hf y _ _⟩,trivial⟩
 exact this.mono λ e w' ⟨v,e1,hk,e3⟩=>⟨by rw[e1];exact congrArg _ e3,keeps_grow hk⟩
theorem fit_ex_eq {M:BSet} {w:World}: ∀{l us:List Value},Fit M w (l.map AV.exact) us->us=l
 |[],[],_=>rfl
 |a::l,u::us,h=>by
  obtain⟨h1,h2⟩:=h
  have h1':u=a:=h1
  rw[h1',fit_ex_eq h2]
theorem ex_fit_ex {M:BSet} {w:World}: ∀(l:List Value),Fit M w (l.map AV.exact) l
 |[]=>trivial
 |a::l=>⟨rfl,ex_fit_ex l⟩
section
variable {α:Type} [Inhabited α] {enc:α->List Value} {k:Nat}
theorem flatK_list (hk: ∀x,(enc x).length=k) (xs:List α):(flatK enc k xs.toArray).toList=xs.flatMap enc:=by
 have hlen:(xs.flatMap enc).length=xs.length*k:=by
  induction xs with
  |nil=>simp
  |cons x xs ih=>rw[List.flatMap_cons,List.length_append,hk,ih,List.length_cons,Nat.add_mul];omega
 apply List.ext_getElem
 .simp[hlen]
 .intro j h1 h2
  have hj:j<xs.length*k:=by rw[hlen]at h2;exact h2
  have k0:0<k:=by
   rcases Nat.eq_zero_or_pos k with h|h
   .subst h;simp at hj
   .exact h
  have hq:j / k<xs.length:=(Nat.div_lt_iff_lt_mul k0).2 hj
  have hm:j % k<k:=Nat.mod_lt _ k0
  have e1:(flatK enc k xs.toArray).toList[j]=(enc xs[j / k])[j % k]'(by rw[hk];exact hm):=by
   have:=get_flatK enc k xs.toArray j (by simpa using hj)
   rw[getElem!_pos _ j (by simpa using hj)]at this
   rw[Array.getElem_toList,this]
   rw[getElem!_pos xs.toArray (j / k) (by simpa using hq),getElem!_pos _ (j % k) (by rw[hk];exact hm)]
   simp
  rw[e1]
  have hs:xs.flatMap enc=(xs.take (j / k)).flatMap enc++(enc xs[j / k]++(xs.drop (j / k+1)).flatMap enc):=by
   conv=>lhs;rw[←List.take_append_drop (j / k) xs,List.drop_eq_getElem_cons hq,List.flatMap_append,List.flatMap_cons]
  have hl:((xs.take (j / k)).flatMap enc).length=j / k*k:=by
   have gen: ∀ys:List α,(ys.flatMap enc).length=ys.length*k:=by
    intro ys
    induction ys with
    |nil=>simp
    |cons y ys ih=>rw[List.flatMap_cons,List.length_append,hk,ih,List.length_cons,Nat.add_mul];omega
   rw[gen,List.length_take,Nat.min_eq_left (by omega)]
  have hj2:j=j / k*k+j % k:=by rw[Nat.mul_comm];exact(Nat.div_add_mod j k).symm
  apply Option.some.inj
  have hge:j / k*k≤j:=Nat.div_mul_le_self j k
  have hsub:j - j / k*k=j % k:=by omega
  rw[←List.getElem?_eq_getElem, ←List.getElem?_eq_getElem,hs,List.getElem?_append_right (by rw[hl];exact hge),hl,hsub,List.getElem?_append_left (by rw[hk];exact hm)]
theorem take_putCells_id (D cur:Array Value) (h:D.size≤cur.size):(putCells id 0 D cur).toList.take D.size=D.toList:=by
 apply List.ext_getElem?
 intro j
 by_cases hj:j<D.size
 .rw[List.getElem?_take_of_lt hj,Array.getElem?_toList]
  simp[putCells,hj,show j<cur.size by omega]
 .rw[List.getElem?_take_eq_none (by omega),List.getElem?_eq_none (by simp;omega)]
theorem sortFunc_fun {P:Program} {ρ:Go.Shelf.Ren} (L:SlLaysF0.n6 P ρ) (aE: ∀w,(isAgg (ρ.t 24)).run P w= .ok true w) (zE: ∀w,(Go.sizeOf (ρ.t 24)).run P w= .ok k w) {encA:α->List AV} (hA: ∀x,encA x=(enc x).map AV.exact) (hk: ∀x,(enc x).length=k)
  (h1: ∀x, ∀v∈enc x,v.oneCell'=true) (cf:α->α->Int) (hO:SWO (ltOf cf)) (hT: ∀x y,(ltOf cf) x y=false->(ltOf cf) y x=false->x=y) (g:Nat) (eg: ∀args w,(callFunc g args).run P w= .ok (.enter g args) w)
  (hcmp: ∀x y,Pure P g [.agg (encA x), .agg (encA y)] (.exact (.int .i64 (cf x y)))) (v:Value) (xs:List α) (hl:xs.length<4611686018427387904) (t:TypeId):
  Fun P (ρ.f 6) [.exact v, .exact (.func (.func g) #[] #[])] [vecT P t k encA v xs] (λ a s=>a= .tup []/\s=[vecT P t k encA v (xs.mergeSort λ x y=> !(ltOf cf) y x)]):=by
 intro F w vs hg hfit
 match vs,hfit with
 |[v',f'],⟨e1,e2,_⟩=>
 have e1:v'=v:=e1
 have e2:f'= .func (.func g) #[] #[]:=e2
 subst e1 e2
 by_cases hx:xs=[]
 .subst hx
  obtain⟨us,hown,hf⟩:=hg.items _ List.mem_cons_self
  have hv: ∃p cap,v'= .slice p 0 cap:=by
   rcases hown.2 with⟨rfl,_⟩|⟨q,cap,cur,rfl,_⟩
   .exact⟨none,0,rfl⟩
   .exact⟨_,cap,rfl⟩
  obtain⟨p,cap,rfl⟩:=hv
  refine(AnyF.slices_SortFunc_none L p cap (.func (.func g) #[] #[]) w).mono λ e w' ⟨he,hw⟩=> ?_
  subst hw
  refine⟨_,he,_,_,⟨rfl,rfl⟩, ?_,(Keeps.refl noB w').mono (λ _ _ h=>h.elim), ?_,⟨[],rfl,trivial⟩⟩
  .rw[List.mergeSort_nil];exact hg
  .rw[List.mergeSort_nil];exact λ _ h _=>h
 .obtain⟨b,c,cur,us,hv,hb,hnc,hcm,hcs,htk,hf⟩:=vec_cells (hg.items _ List.mem_cons_self) hx
  subst hv
  have hflat: ∀ys:List α,ys.flatMap encA=(ys.flatMap enc).map AV.exact:=by
   intro ys
   induction ys with
   |nil=>rfl
   |cons y ys ih=>rw[List.flatMap_cons,List.flatMap_cons,List.map_append,ih,hA]
  have hlenf: ∀ys:List α,(ys.flatMap enc).length=ys.length*k:=by
   intro ys
   induction ys with
   |nil=>simp
   |cons y ys ih=>rw[List.flatMap_cons,List.length_append,hk,ih,List.length_cons,Nat.add_mul];omega
  rw[hflat]at hf
  have hus:=fit_ex_eq hf
  subst hus
  have hcn:xs.length*k≤cur.size:=by rw[hcs];exact Nat.mul_le_mul_right _ hnc
  have hH:HoldsK enc k w b 0 xs.toArray:=by
   intro j hj
   rw[size_flatK]at hj
   have hj':j<xs.length*k:=by simpa using hj
   constructor
   .rw[cell_of_row _ b _ _ _ (0,0) hb,Nat.zero_add]
    have e3:(flatK enc k xs.toArray)[j]! =(xs.flatMap enc)[j]'(by rw[hlenf];exact hj'):=by
     rw[getElem!_pos _ j (by rw[size_flatK];exact hj), ←Array.getElem_toList]
     congr 1
     exact flatK_list hk xs
    rw[e3]
    have e4:(cur.toList.take (xs.length*k))[j]?=(xs.flatMap enc)[j]?:=by rw[htk]
    have e5:(xs.flatMap enc)[j]?=some ((xs.flatMap enc)[j]'(by rw[hlenf];exact hj')):=List.getElem?_eq_getElem _
    rw[List.getElem?_take_of_lt hj',e5]at e4
    simpa using e4
   .simp[World.frozen?,hb]
  have hblt:=(Array.getElem?_eq_some_iff.1 hb).1
  refine(AnyQ.slices_SortFunc_total L k aE zE enc hk h1 cf hO g #[] b 0 c xs.toArray w eg (cmpLays_pure (λ x M w=>by rw[hA];exact ex_fit_ex _) hcmp) hH hblt (by simpa using hl) hT).mono λ e w' ⟨he,n,os,hw⟩=> ?_
  simp only at hw
  generalize hys:(xs.mergeSort λ x y=> !(ltOf cf) y x)=ys at hw⊢
  have hyl:ys.length=xs.length:=by rw[←hys];exact List.length_mergeSort _
  subst hw
  have hheap:(sortWorldK enc k w b 0 n ys.toArray os).heap[b]?=some (.cells (putCells id 0 (flatK enc k ys.toArray) cur) (elemOfT P t) (0,0)):=by
   unfold sortWorldK putRowK
   rw[heap_grow_old _ _ (by simpa using hblt)]
   simp[putRow,mapBlock,Sort.ahead,Array.getElem?_modify,hb,onCells]
  have hkp:Keeps (λ q=>q∈(vecT P t k encA (.slice (some ⟨b,0,none⟩) xs.length c) xs).own) w (sortWorldK enc k w b 0 n ys.toArray os):=by
   refine⟨rfl,rfl,rfl,Nat.le_add_right _ _, ?_,λ q hlt hn=> ?_⟩
   .simp[sortWorldK,putRowK,grow]
   .have hne:q≠b:=λ e=>hn (by simp[vecT,vecI,Value.ownBlock,e])
    unfold sortWorldK putRowK
    rw[heap_grow_old _ _ (by simpa using hlt)]
    simp[putRow,mapBlock,Sort.ahead,Array.getElem?_modify,Ne.symm hne]
  have hown:(sortWorldK enc k w b 0 n ys.toArray os).ownsRow 0 (elemOfT P t) k (.slice (some ⟨b,0,none⟩) xs.length c) ys.length (ys.flatMap enc):=by
   refine⟨hlenf ys, .inr ⟨b,c,_,by rw[hyl],Nat.zero_le _,hheap,by rw[hyl];exact hnc,hcm,by simp[putCells,hcs], ?_⟩⟩
   have:=take_putCells_id (flatK enc k ys.toArray) cur (by simp[hyl];exact hcn)
   rw[flatK_list hk ys]at this
   rw[←this];simp
  obtain⟨g1,g2,g3⟩:=zhy (it':=vecT P t k encA (.slice (some ⟨b,0,none⟩) xs.length c) ys) hg hkp (λ q hq=>⟨by simp[vecT,vecI,Value.ownBlock]at hq;subst hq;simpa[sortWorldK,putRowK,grow]using Nat.lt_of_lt_of_le hblt (Nat.le_add_right _ _),λ _=>hq⟩) (by simp[vecT,vecI,Value.ownBlock])
   (λ hkk hMM=>⟨ys.flatMap enc,hown,by rw[hflat];exact ex_fit_ex _⟩)
  exact⟨_,he,_,_,⟨rfl,rfl⟩,g1,g2,g3,⟨[],rfl,trivial⟩⟩
end
end
noncomputable section
open Go.RowKit Go.Maps
def setF (xs:List Int):Int->Option Value:=λ j=>if j∈xs then some (.bool true)else none
theorem setF_nil:setF []=λ _=>none:=by funext j;simp[setF]
theorem setF_cons (k:Int) (xs:List Int):updM (setF xs) k (.bool true)=setF (k::xs):=by
 funext j
 unfold updM setF
 by_cases h:j=k
 .subst h;simp
 .by_cases h2:j∈xs
  .rw[if_neg h,if_pos h2,if_pos (List.mem_cons_of_mem _ h2)]
  .rw[if_neg h,if_neg h2,if_neg (λ hh=>(List.mem_cons.1 hh).elim h h2)]
abbrev setS (P:Program) (kt:TypeId) (b:Nat) (xs:List Int):Item:=mapS P kt b xs.length (setF xs)
section
variable {P:Program} {E:Env} {af:AF} {σ ρ:Items} {d:Option Tmp} {ty t kt e:TypeId} {pos:String} {after:Array Edge} {g:Option (Nat×Bool)} {b r N:Nat} {f:Int->Option Value}
theorem op_makeSet {K:AF->Items->Prop} (hk: ∀b,K (af.put d (.exact (.map (some b)))) (setS P kt b []::σ)):opB P ⟨d, .makeMap t none,ty,pos,after,g⟩ af σ K:=
 op_makeMap (kt:=kt) (λ b=>by have:=hk b;unfold setS at this;rwa [setF_nil]at this)
theorem op_lookSet {xs:List Int} {m x:Operand} {k:Int} {K:AF->Prop} (ht:P.underlying t=some (.map kt e)) (hkt:P.underlying kt=some (.int .i64)) (hz: ∀w,(zeroValue e).run P w= .ok (.bool false) w) (hm:af.ev m= .exact (.map (some b))) (hx:af.ev x= .exact (.int .i64 k)) (hw:(Lit.int .i64 k).wf=true)
  (hk:K (af.put d (.exact (.bool (decide (k∈xs)))))):opR P ⟨d, .lookup t m x false,ty,pos,after,g⟩ af (setS P kt b xs::ρ) K:=
 op_lookup ht hkt hz hm hx hw (by
  have e1:(setF xs k).getD (.bool false)= .bool (decide (k∈xs)):=by
   unfold setF
   by_cases h:k∈xs
   .rw[if_pos h,decide_eq_true h];rfl
   .rw[if_neg h,decide_eq_false h];rfl
  rw[e1];exact hk)
theorem op_updSet {xs:List Int} {m x y:Operand} {k:Int} {K:AF->Items->Prop} (ht:P.underlying t=some (.map kt e)) (hkt:P.underlying kt=some (.int .i64)) (hm:af.ev m= .exact (.map (some b))) (hx:af.ev x= .exact (.int .i64 k)) (hy:af.ev y= .exact (.bool true)) (hw:(Lit.int .i64 k).wf=true) (hN:xs.length<maxLen)
  (hk:K (af.put d undefA) (setS P kt b (k::xs)::ρ)):opB P ⟨d, .mapUpdate t m x y,ty,pos,after,g⟩ af (setS P kt b xs::ρ) K:=
 op_mapUpdate ht hkt hm hx hy hw hN (by rw[setF_cons];exact hk)
variable {α:Type} {n:Nat} {enc:α->List AV} {xs ys:List α} {v:Value}
def rowsI (P:Program) (t:TypeId) (n:Nat) (enc:α->List AV) (R:List (Int×Value×List α)):Items:=R.map (λ x=>vecT P t n enc x.2.1 x.2.2)
structure GCons (f:Int->Option Value) (R:List (Int×Value×List α)) (G:Int->List α):Prop where
 at_: ∀k v,f k=some v->(k,v,G k)∈R
 none: ∀k,f k=none->G k=[]
 keys: ∀x∈R,f x.1=some x.2.1/\G x.1=x.2.2
 nodup:(R.map (λ x=>x.1)).Nodup
theorem rowsI_mem {R:List (Int×Value×List α)} {x:Int×Value×List α} (h:x∈R):vecT P t n enc x.2.1 x.2.2∈rowsI P t n enc R:=List.mem_map.2 ⟨x,h,rfl⟩
theorem BorL.nil:BorL σ (.exact (.slice none 0 0)) n enc ([]:List α):=λ F w u _ hx=>by
 obtain rfl:u= .slice none 0 0:=hx
 exact⟨none,0,rfl,Nat.zero_le _,λ h=>absurd rfl h⟩
theorem BorL.grow {R:List (Int×Value×List α)} {G:Int->List α} (hG:GCons f R G) (hs: ∀it∈rowsI P t n enc R,it∈σ) (he: ∀x,(enc x).length=n) (k:Int):BorL σ (.exact ((f k).getD (.slice none 0 0))) n enc (G k):=by
 cases hf:f k with
 |none=>rw[hG.none k hf];exact BorL.nil
 |some v=>exact BorL.vec (P:=P) (e:=t) (hs _ (rowsI_mem (hG.at_ k v hf))) he
theorem op_slice1_O {x lo:Operand} {e:TypeId} {i:Int} {k:IntKind} {K:AF->Items->Prop} (hB:sliceB P t n=true) (he: ∀x,(enc x).length=n) (hx:af.ev x= .exact v) (hlo:af.ev lo= .exact (.int k i)) (h0:0≤i) (h1:i≤xs.length)
  (hk: ∀v',K (af.put d (.exact v')) (vecO P e n enc v' (xs.drop i.toNat)::ρ)):opB P ⟨d, .slice t x (some lo) none none,ty,pos,after,g⟩ af (vecO P e n enc v xs::ρ) K:=by
 refine⟨λ a s=> ∃v',a= .exact v'/\s=vecO P e n enc v' (xs.drop i.toNat)::ρ,λ F w ev hg h=> ?_,λ av s ⟨v',e1,e2⟩=>by subst e1 e2;exact hk v'⟩
 have e1:=opnd h (x:=x) (by simp[Op.operands]) hx
 have e2:=opnd h (x:=lo) (by simp[Op.operands]) hlo
 obtain⟨us,hown,hfit⟩:=hg.items (vecO P e n enc v xs) List.mem_cons_self
 obtain⟨te,hu,hs⟩:=znd hB
 obtain⟨a,rfl⟩:=Int.eq_ofNat_of_zero_le h0
 simp only[Int.toNat_natCast]
 have h1':a≤xs.length:=by omega
 have hv: ∃A c,v= .slice A xs.length c/\xs.length≤c:=by
  rcases hown.2 with⟨rfl,h0⟩|⟨g,o,cap,cur,rfl,_,hc,_⟩
  .exact⟨none,0,by rw[h0],by omega⟩
  .exact⟨_,_,rfl,hc⟩
 obtain⟨A,c,rfl,hc⟩:=hv
 have hrun:(execOp ev ⟨d, .slice t x (some lo) none none,ty,pos,after,g⟩).run P w= .ok (.value (.slice (if c=a then A else A.map (·.add (a*n))) (xs.length - a) (c - a))) w:=by
  have hb:(Instr.sliceBounds true xs.length c (some (ev lo)) none none).run P w= .ok (a,xs.length,c) w:=by
   unfold Instr.sliceBounds
   simp[Instr.sliceBound,asIntOf,e2,h1',go_sem]
  unfold execOp
  simp only[Instr.sliceAt,Instr.slice,e1,Sem.run_bind,zdk hu,Result.andThen_ok,Option.map_some,Option.map_none,hb,zng hs,Sem.run_pure]
 rw[hrun]
 have hdl:(xs.drop a).length=xs.length - a:=by simp
 have hfd:Fit (both F (Items.own (vecO P e n enc (.slice A xs.length c) xs::ρ))) w ((xs.drop a).flatMap enc) (us.drop (a*n)):=by
  rw[←(flat_take_drop he xs a).2];exact hfit.drop (a*n)
 have hul:us.length=xs.length*n:=hown.1
 have hmul:a*n≤xs.length*n:=Nat.mul_le_mul_right _ h1'
 have hsub:(xs.length - a)*n=xs.length*n - a*n:=by rw[Nat.sub_mul]
 have hown':ownsO w (elemOfT P e) n (.slice (if c=a then A else A.map (·.add (a*n))) (xs.length - a) (c - a)) (xs.drop a).length (us.drop (a*n)):=by
  refine⟨by rw[hdl,List.length_drop];omega, ?_⟩
  rcases hown.2 with⟨hv,hz0⟩|⟨g,o,cap,cur,hv,hg2,hnc,hcm,hcs,htk⟩
  .injection hv with q1 q2 q3
   subst q1 q3
   have ha0:a=0:=by omega
   subst ha0
   left
   have hx0:xs=[]:=List.length_eq_zero_iff.1 hz0
   subst hx0
   exact⟨by simp,by simp⟩
  .injection hv with q1 q2 q3
   subst q1 q3
   right
   by_cases hca:c=a
   .rw[if_pos hca]
    have hx0:xs.length - a=0:=by omega
    refine⟨g,o,c - a,cur,by rw[hdl],hg2,by rw[hdl];omega,by omega,by rw[hca];simp;omega, ?_⟩
    have hax:a=xs.length:=by omega
    rw[hdl,hx0,Nat.zero_mul,List.take_zero,List.drop_eq_nil_of_le (by rw[hul,hax];exact Nat.le_refl _)]
   .rw[if_neg hca]
    refine⟨g,o+a*n,c - a,cur,by rw[hdl];simp[addr_add'],hg2,by rw[hdl];omega,by omega, ?_, ?_⟩
    .have:a*n+(c - a)*n=c*n:=by rw[←Nat.add_mul];congr 1;omega
     omega
    .rw[hdl, ←htk, ←List.drop_drop,hsub,List.drop_take]
 have ho: ∀k,k∈(vecO P e n enc (.slice (if c=a then A else A.map (·.add (a*n))) (xs.length - a) (c - a)) (xs.drop a)).own↔k∈(vecO P e n enc (.slice A xs.length c) xs).own:=λ k=>by
  cases A with
  |none=>simp[vecO,Value.ownBlock]
  |some ad=>
   by_cases hca:c=a
   .simp[vecO,Value.ownBlock,hca]
   .have:(ad.add (a*n)).block=ad.block:=by unfold Addr.add;split <;>rfl
    simp[vecO,Value.ownBlock,hca,this]
 have hn:(vecO P e n enc (.slice (if c=a then A else A.map (·.add (a*n))) (xs.length - a) (c - a)) (xs.drop a)).own.Nodup:=by
  show(Value.ownBlock _).toList.Nodup
  cases Value.ownBlock (.slice (if c=a then A else A.map (·.add (a*n))) (xs.length - a) (c - a)) <;>simp
 obtain⟨g1,g2,g3⟩:=zhy (it':=vecO P e n enc (.slice (if c=a then A else A.map (·.add (a*n))) (xs.length - a) (c - a)) (xs.drop a)) hg ((Keeps.refl noB w).mono (λ _ _ h=>h.elim)) (λ k hk'=>⟨(hg.own k (List.mem_flatMap.2 ⟨_,List.mem_cons_self,(ho k).1 hk'⟩)).1,λ _=>(ho k).1 hk'⟩) hn
  (λ hkk hMM=>⟨us.drop (a*n),hown',hfd.keep (Keeps.refl _ _) hMM⟩)
 exact⟨_,_,⟨_,rfl,rfl⟩,g1,g2,g3,rfl⟩
def AV.eptrO (v:Value) (o:Nat):AV:=⟨λ _ _ u=> ∃b q l c,v= .slice (some ⟨b,q,none⟩) l c/\u= .pointer (some ⟨b,q+o,none⟩),λ _ _ h=>h⟩
theorem vecO_cells {M:BSet} {w:World} (h:(vecO P t n enc v xs).p M w) (hx:xs≠[]): ∃b q c us,v= .slice (some ⟨b,q,none⟩) xs.length c/\Fit M w (xs.flatMap enc) us/\ ∀j u,us[j]?=some u->w.cell? ⟨b,q+j,none⟩=some u:=by
 obtain⟨us,hown,hfit⟩:=h
 have hown0:=hown
 rcases hown.2 with⟨rfl,h0⟩|⟨g,o,cap,cur,rfl,_⟩
 .exact absurd (List.length_eq_zero_iff.1 h0) hx
 .exact⟨g,o,cap,us,rfl,hfit,λ j u hu=>hown0.cells j u hu⟩
theorem op_index_O {x y:Operand} {k:IntKind} {i:Int} {K:AF->Prop} (hB:sliceB P t n=true) (hx:af.ev x= .exact v) (hy:af.ev y= .exact (.int k i)) (h0:0≤i) (h1:i<xs.length) (hk:K (af.put d (.eptrO v (i.toNat*n)))):
  opR P ⟨d, .indexAddr t x y,ty,pos,after,g⟩ af (vecO P e n enc v xs::ρ) K:=by
 refine⟨_,λ F w ev hg h=> ?_,hk⟩
 have e1:=opnd h (x:=x) (by simp[Op.operands]) hx
 have e2:=opnd h (x:=y) (by simp[Op.operands]) hy
 obtain⟨b,q,c,us,hv,_,_⟩:=vecO_cells (hg.items _ List.mem_cons_self) (by rintro rfl;simp at h1;omega)
 obtain⟨e,hu,hs⟩:=znd hB
 subst hv
 have hadd:Addr.add ⟨b,q,none⟩ (i.toNat*n)=⟨b,q+i.toNat*n,none⟩:=addr_add' _ _ _
 simp[execOp,Instr.indexAt,e1,e2,zdk hu,asIntOf,h0,h1,zng hs,hadd,go_sem,UponQ]
 exact⟨Keeps.refl _ _,b,q,_,_,rfl,rfl⟩
theorem op_load_O1 [Inhabited α] {x:Operand} {i:Int} {a:AV} {K:AF->Prop} (hB:loadB P t false 1=true) (he: ∀x,(enc x).length=n) (hx:af.ev x= .eptrO v (i.toNat*n)) (h0:0≤i) (h1:i<xs.length) (hc:(enc (gi xs i))[0]?=some a) (hk:K (af.put d a)):
  opR P ⟨d, .load t x,ty,pos,after,g⟩ af (vecO P e n enc v xs::ρ) K:=by
 refine⟨_,λ F w ev hg h=> ?_,hk⟩
 obtain⟨b',q',l',c',hv',e1⟩:=zhq h (x:=x) (by simp[Op.operands]) hx
 obtain⟨b,q,c,us,hv,hfit,hcell⟩:=vecO_cells (hg.items _ List.mem_cons_self) (by rintro rfl;simp at h1;omega)
 rw[hv]at hv'
 injection hv' with g1 _ _
 injection g1 with g1
 injection g1 with g1 g2 _
 subst g1 g2
 obtain⟨hsp,hl⟩:=flat_split (enc:=enc) he (gi_get h0 h1)
 have hat:(xs.flatMap enc)[i.toNat*n]?=some a:=by
  rw[hsp,List.append_assoc,List.getElem?_append_right (by omega),hl,Nat.sub_self,List.getElem?_append_left (List.getElem?_eq_some_iff.1 hc).1]
  exact hc
 obtain⟨u,hu,hp⟩:=hfit.at hat
 have hr:(execOp ev ⟨d, .load t x,ty,pos,after,g⟩).run P w= .ok (.value u) w:=by
  unfold execOp
  simp only[e1,Sem.run_bind,run_load1 hB (hcell _ u hu),Result.andThen_ok,Sem.run_pure]
 rw[hr]
 exact⟨Keeps.refl _ _,hp⟩
theorem op_appOL {s x:Operand} {K:AF->Items->Prop} (hB:elB P t n=true) (hs:af.ev s= .exact v) (hx:BorL (vecO P t n enc v xs::ρ) (af.ev x) n enc ys) (ho: ∀x,OneC (enc x)) (hl:xs.length+ys.length≤LIM)
  (hk: ∀v',K (af.put d (.exact v')) (vecO P t n enc v' (xs++ys)::ρ)):
  opB P ⟨d, .call { callee:= .builtin .append,args:= #[s,x],argTypes:= #[t,t] },ty,pos,after,g⟩ af (vecO P t n enc v xs::ρ) K:=by
 refine⟨λ a s=> ∃v',a= .exact v'/\s=vecO P t n enc v' (xs++ys)::ρ,λ F w ev hg h=> ?_,λ av s ⟨v',e1,e2⟩=>by subst e1 e2;exact hk v'⟩
 obtain⟨ht,hn0,i,z,hi,hz,hi1,hi2,hi3⟩:=elB_spec hB
 have e1:=opnd h (x:=s) (by simp[Op.operands,Call.operands]) hs
 obtain⟨A,cp,e2,_,e5⟩:=hx F w _ hg (h x (by simp[Op.operands,Call.operands]))
 obtain⟨us0,hown,hfit⟩:=hg.items (vecO P t n enc v xs) List.mem_cons_self
 have hbs:(xs.length+ys.length)*i.bytes≤140737488355328:=Nat.le_trans (Nat.mul_le_mul hl hi2) (by simp only[LIM];omega)
 have hrun: ∃v' w' us,(Builtin.append_ #[t,t] ty #[v, .slice A ys.length cp]).run P w= .ok v' w'/\ownsO w' (elemOfT P t) n v' (xs.length+ys.length) (us0++us)/\w.grownBy w' v.ownBlock/\(v'.ownBlock=v.ownBlock∨v'.ownBlock=some w.heap.size)/\Fit (both F (Items.own (vecO P t n enc v xs::ρ))) w (ys.flatMap enc) us:=by
  by_cases hy:ys=[]
  .subst hy
   have happ:(Builtin.append_ #[t,t] ty #[v, .slice A ([]:List α).length cp]).run P w= .ok v w:=by
    rcases hown.2 with⟨rfl,h0⟩|⟨g,o,cap,cur,rfl,_,hnc,_⟩
    .rw[h0]at*
     cases A <;>simp[Builtin.append_,run_underlying ht,sizeOf,typeInfo,hi,Builtin.lenOf,Builtin.firstCells,loadCells,loadCellsFrom]
    .cases A <;>simp[Builtin.append_,run_underlying ht,sizeOf,typeInfo,hi,Builtin.lenOf,Builtin.firstCells,hnc,storeCells,loadCells,loadCellsFrom]
   exact⟨v,w,[],happ,by simpa using hown,⟨rfl,rfl,rfl,Nat.le_refl _,λ _ _ _=>rfl⟩, .inl rfl,trivial⟩
  .obtain⟨b,off,rfl,hcell⟩:=e5 hy
   have hcells:=row_cells hcell
   obtain⟨us,hf,hu⟩:=fit_cells hcells
   have hlen:(ys.flatMap enc).length=ys.length*n:=flat_len (λ y hy=>by
    obtain⟨i,hi⟩:=List.mem_iff_getElem?.1 hy
    exact(hcell i y hi).1)
   obtain⟨v',w',h1,h2,h3,h5⟩:=run_append_o (P:=P) (ty:=ty) (c:=cp) ht hi hz hi1 rfl hi3 hown (a:=⟨b,off,none⟩) (m:=ys.length) (news:=us) (by rw[←hf.length,hlen])
    (λ j u hj=>by
     rw[addr_add']
     have hjl:j<(ys.flatMap enc).length:=by rw[hf.length];exact(List.getElem?_eq_some_iff.1 hj).1
     obtain⟨u',g1,g2⟩:=hu j hjl
     rw[hj]at g1
     injection g1 with g1
     rw[g1];exact g2) ((OneC.flatT (xs:=ys) ho).fit hf) (by simp only[maxLen,LIM]at *;omega) hbs
   exact⟨v',w',us,h1,h2,h3,h5,hf⟩
 obtain⟨v',w',us,h1,h2,h3,h5,hf⟩:=hrun
 have hrun':(execOp ev ⟨d, .call { callee:= .builtin .append,args:= #[s,x],argTypes:= #[t,t] },ty,pos,after,g⟩).run P w= .ok (.value v') w':=by
  unfold execOp
  simp only[resolve,invoke,builtin,Sem.run_bind,Sem.run_pure,Result.andThen_ok,List.map_toArray,List.map_cons,List.map_nil,e1,e2,h1]
 rw[hrun']
 have hk':Keeps (λ k=>k∈(vecO P t n enc v xs).own) w w':=⟨h3.os,h3.tape,h3.output,run_drawn _ _ _ _ h1,h3.size,λ k hlt hn=>h3.block k hlt (λ e=>hn (by simp[vecO, ←e]))⟩
 obtain⟨g1,g2,g3⟩:=zhy (it':=vecO P t n enc v' (xs++ys)) hg hk' (λ k hk'=>by
   have hk'':v'.ownBlock=some k:=by simpa[vecO]using hk'
   refine⟨h2.lt k hk'',λ hlt=> ?_⟩
   rcases h5 with h5|h5
   .simp[vecO, ←h5,hk'']
   .rw[h5]at hk'';injection hk'' with e;omega) (by cases h:v'.ownBlock <;>simp[vecO,h])
  (λ hkk hMM=>⟨us0++us,by rw[List.length_append];exact h2,by rw[List.flatMap_append];exact(hfit.keep hkk hMM).app (hf.keep hkk hMM)⟩)
 exact⟨_,_,⟨v',rfl,rfl⟩,g1,g2,g3,rfl⟩
theorem fit_anyM {M M':BSet} {w:World} {l:List AV} {us:List Value} (hl: ∃vs:List Value,l=vs.map AV.exact) (h:Fit M w l us):Fit M' w l us:=by
 obtain⟨vs,rfl⟩:=hl
 rw[fit_ex_eq h];exact ex_fit_ex _
theorem flat_exact {xs:List α} (hE: ∀y, ∃us:List Value,enc y=us.map AV.exact): ∃vs:List Value,xs.flatMap enc=vs.map AV.exact:=by
 induction xs with
 |nil=>exact⟨[],rfl⟩
 |cons y ys ih=>
  obtain⟨us,e1⟩:=hE y
  obtain⟨vs,e2⟩:=ih
  exact⟨us++vs,by rw[List.flatMap_cons,e1,e2,List.map_append]⟩
theorem op_fun_bor {f:FuncId} {fn:Func} {x:Operand} {ats:Array TypeId} {r:List α} {K:AF->Items->Prop} {e:TypeId} (hp:Fun P f [.row n enc ys] [] (λ a s=> ∃z,a= .exact z/\s=[vecT P t n enc z r])) (hf:P.funcs[f]?=some fn) (hb:(fn.body.isNone ||fn.name == "runtime.NumGoroutine")=false)
  (hx:af.ev x= .exact v) (hm:(v= .slice none 0 0/\ys=[])∨vecT P e n enc v ys∈σ) (he: ∀x,(enc x).length=n) (hE: ∀y, ∃us:List Value,enc y=us.map AV.exact) (hk: ∀z,K (af.put d (.exact z)) (vecT P t n enc z r::σ)):
  opB P ⟨d, .call { callee:= .value (.func f),args:=[x].toArray,argTypes:=ats },ty,pos,after,g⟩ af σ K:=by
 refine⟨λ a s=> ∃z,a= .exact z/\s=vecT P t n enc z r::σ,λ F w ev hg h=> ?_,λ av s ⟨z,e1,e2⟩=>by subst e1 e2;exact hk z⟩
 have he':ev (.func f)= .func (.func f) #[] #[]:=h (.func f) (by simp[Op.operands,Call.operands])
 have e1:ev x=v:=by
  have:=h x (by simp[Op.operands,Call.operands])
  rw[hx]at this;exact this
 rw[run_call hf hb he']
 have hown: ∀k, ¬Items.own [] k:=λ k hk=>by simp[Items.own]at hk
 have hrow:(AV.row n enc ys).p (both noB (Items.own [])) w (ev x):=by
  rw[e1]
  rcases hm with⟨h1,h2⟩|hm
  .subst h1 h2
   exact⟨none,0,rfl,by simp,by simp,λ h=>absurd rfl h⟩
  .exact vec_row (λ k _ hk=>hk.elim id (hown k)) he (hg.items _ hm) (λ k _ hk=>(hk.elim (λ hh=>hh.elim) (λ hh=>(hown k hh).elim)))
 refine(hp noB w [ev x] ⟨λ k hk=>hk.elim,λ k hk=>(hown k hk).elim,List.nodup_nil,λ it hi=>by cases hi⟩ ⟨hrow,trivial⟩).mono ?_
 rintro e' w' ⟨u,hev,av,σ',⟨z,rfl,rfl⟩,hg2,hkp,hn,hpv⟩
 have hkp0:Keeps noB w w':=hkp.mono (λ k _ ho=>(hown k ho).elim)
 have hnew: ∀k,Items.own [vecT P t n enc z r] k->w.heap.size≤k:=λ k hk=>Nat.le_of_not_lt (λ hlt=>hown k (hn k hk hlt))
 have hown2: ∀k,Items.own (vecT P t n enc z r::σ) k↔Items.own [vecT P t n enc z r] k∨Items.own σ k:=λ k=>by rw[zcc,zcc];simp[Items.own]
 refine⟨u,hev, .exact z,vecT P t n enc z r::σ,⟨z,rfl,rfl⟩,⟨λ k h=>Nat.lt_of_lt_of_le (hg.fr k h) hkp0.size,λ k hk=> ?_, ?_,λ it hi=> ?_⟩,hkp0.mono (λ k _ h=>h.elim),λ k hk hlt=> ?_,hpv⟩
 .rcases(hown2 k).1 hk with hk|hk
  .exact⟨(hg2.own k hk).1,λ hF=>absurd (hg.fr k hF) (Nat.not_lt.2 (hnew k hk))⟩
  .exact⟨Nat.lt_of_lt_of_le (hg.own k hk).1 hkp0.size,(hg.own k hk).2⟩
 .rw[List.flatMap_cons,List.nodup_append]
  refine⟨by have:=hg2.nodup;simpa using this,hg.nodup,λ a ha b hb' hab=> ?_⟩
  subst hab
  have h1:=hnew a (List.mem_flatMap.2 ⟨_,List.mem_cons_self,ha⟩)
  exact absurd (hg.own a hb').1 (Nat.not_lt.2 h1)
 .rcases List.mem_cons.1 hi with rfl|hi
  .obtain⟨us,h1,h2⟩:=hg2.items _ List.mem_cons_self
   exact⟨us,h1,fit_anyM (flat_exact hE) h2⟩
  .refine it.keep (hkp0.mono (λ k _ h=>h.elim)) (λ k hlt hk=> ?_) (hg.items it hi)
   refine hk.imp id (λ hk=> ?_)
   rcases(hown2 k).1 hk with hk|hk
   .exact absurd hlt (Nat.not_lt.2 (hnew k hk))
   .exact hk
 .rcases(hown2 k).1 hk with hk|hk
  .exact absurd hlt (Nat.not_lt.2 (hnew k hk))
  .exact hk
end
end
noncomputable section
open Go.RowKit Go.Maps
def MapLike (P:Program) (kt:TypeId) (b N:Nat) (f:Int->Option Value) (it:Item):Prop:= ∀M w,it.p M w-> ∃D,w.ownsMap P kt heldR b N D/\MView D f
section
variable {P:Program} {E:Env} {af:AF} {σ ρ:Items} {d:Option Tmp} {ty t kt e:TypeId} {pos:String} {after:Array Edge} {g:Option (Nat×Bool)} {b r N:Nat} {f:Int->Option Value}
theorem MapLike.map:MapLike P kt b N f (mapS P kt b N f):=λ _ _ h=>h
theorem MapLike.it {left:List Int} {lst:Option (Int×Value)}:MapLike P kt b N f (itS P kt b r N f left lst):=λ _ _ ⟨D,_,_,h,hv,_⟩=>⟨D,h.owns,hv⟩
theorem op_lookupM {it:Item} {m x:Operand} {k:Int} {z:Value} {K:AF->Prop} (hi:it∈σ) (hL:MapLike P kt b N f it) (ht:P.underlying t=some (.map kt e)) (hkt:P.underlying kt=some (.int .i64)) (hz: ∀w,(zeroValue e).run P w= .ok z w) (hm:af.ev m= .exact (.map (some b))) (hx:af.ev x= .exact (.int .i64 k)) (hw:(Lit.int .i64 k).wf=true)
  (hk:K (af.put d (.exact ((f k).getD z)))):opR P ⟨d, .lookup t m x false,ty,pos,after,g⟩ af σ K:=by
 refine⟨_,λ F w ev hg h=> ?_,hk⟩
 have e1:=opnd h (x:=m) (by simp[Op.operands]) hm
 have e2:=opnd h (x:=x) (by simp[Op.operands]) hx
 obtain⟨D,hown,hv⟩:=hL _ _ (hg.items it hi)
 obtain⟨v,ps,hrun,hR⟩:=hown.lookup (int_keyed hkt) ht (hz w) (zd:= .held z) (zp:=[]) rfl (keyOf_int_mk hkt hw)
 rw[hv.2]at hR
 have hve:v=(f k).getD z:=by
  unfold heldR at hR
  injection hR with hR
  injection hR with hR _
  cases hf:f k with
  |none=>rw[hf]at hR;injection hR
  |some u=>rw[hf]at hR;injection hR
 have hrun':(execOp ev ⟨d, .lookup t m x false,ty,pos,after,g⟩).run P w= .ok (.value v) w:=by
  simp[execOp,e1,e2,hrun,Result.andThen]
 rw[hrun']
 exact⟨Keeps.refl _ _,hve⟩
theorem SubU.dropAll: ∀{σ:Items},SubU af σ af []
 |[]=>SubU.refl
 |_::_=>SubU.trans SubU.drop SubU.dropAll
variable {α:Type} {n:Nat} {enc:α->List AV} {xs ys:List α} {v:Value}
theorem rows_split {R:List (Int×Value×List α)} {G:Int->List α} (hG:GCons f R G) (k:Int): ∃R0:List (Int×Value×List α),
  (∀af,SubU af (mapS P kt b N f::rowsI P t n enc R) af (vecT P t n enc ((f k).getD (.slice none 0 0)) (G k)::mapS P kt b N f::rowsI P t n enc R0))∧
  ∀v' ys,GCons (updM f k v') ((k,v',ys)::R0) (λ j=>if j=k then ys else G j):=by
 cases hf:f k with
 |none=>
  refine⟨R,λ af=> ?_,λ v' ys=> ?_⟩
  .have hn:=hG.none k hf
   rw[hn]
   exact SubU.nilT
  .have hk:k∉R.map (λ x=>x.1):=λ h=>by
    obtain⟨x,hx,e⟩:=List.mem_map.1 h
    have:=(hG.keys x hx).1
    have e':x.1=k:=e
    rw[e',hf]at this;cases this
   refine⟨λ j v hj=> ?_,λ j hj=> ?_,λ x hx=> ?_, ?_⟩
   .unfold updM at hj
    by_cases h:j=k
    .subst h;rw[if_pos rfl]at hj;cases hj;simp
    .rw[if_neg h]at hj;simp only[h,if_false]
     exact List.mem_cons_of_mem _ (hG.at_ j v hj)
   .unfold updM at hj
    by_cases h:j=k
    .subst h;rw[if_pos rfl]at hj;cases hj
    .rw[if_neg h]at hj;simp only[h,if_false];exact hG.none j hj
   .rcases List.mem_cons.1 hx with rfl|hx
    .simp[updM]
    .have hne:x.1≠k:=λ e=>hk (List.mem_map.2 ⟨x,hx,e⟩)
     have:=hG.keys x hx
     simp only[updM,hne,if_false];exact this
   .rw[List.map_cons,List.nodup_cons];exact⟨hk,hG.nodup⟩
 |some v=>
  have hm:=hG.at_ k v hf
  obtain⟨A,B,rfl⟩:=List.append_of_mem hm
  have hp:(A++(k,v,G k)::B).Perm ((k,v,G k)::(A++B)):=List.perm_middle
  have hnd:=hG.nodup
  rw[(hp.map (λ x=>x.1)).nodup_iff,List.map_cons,List.nodup_cons]at hnd
  refine⟨A++B,λ af=> ?_,λ v' ys=> ?_⟩
  .refine SubU.perm ?_
   show(mapS P kt b N f::(A++(k,v,G k)::B).map _).Perm _
   refine((hp.map _).cons _).trans ?_
   exact List.Perm.swap _ _ _
  .have hin: ∀x,x∈A++B->x∈A++(k,v,G k)::B:=λ x hx=>hp.mem_iff.2 (List.mem_cons_of_mem _ hx)
   refine⟨λ j u hj=> ?_,λ j hj=> ?_,λ x hx=> ?_, ?_⟩
   .unfold updM at hj
    by_cases h:j=k
    .subst h;rw[if_pos rfl]at hj;cases hj;simp
    .rw[if_neg h]at hj;simp only[h,if_false]
     rcases List.mem_cons.1 (hp.mem_iff.1 (hG.at_ j u hj))with e|hx
     .exact absurd (congrArg (λ x=>x.1) e) h
     .exact List.mem_cons_of_mem _ hx
   .unfold updM at hj
    by_cases h:j=k
    .subst h;rw[if_pos rfl]at hj;cases hj
    .rw[if_neg h]at hj;simp only[h,if_false];exact hG.none j hj
   .rcases List.mem_cons.1 hx with rfl|hx
    .simp[updM]
    .have hne:x.1≠k:=λ e=>hnd.1 (List.mem_map.2 ⟨x,hx,e⟩)
     have:=hG.keys x (hin x hx)
     simp only[updM,hne,if_false];exact this
   .rw[List.map_cons,List.nodup_cons];exact hnd
theorem gcons_emp:GCons (α:=α) (λ _=>none) [] (λ _=>[]):=⟨λ _ _ h=>by(cases h),λ _ _=>rfl,λ _ h=>by(cases h),List.nodup_nil⟩
theorem gcons_row {R:List (Int×Value×List α)} {G:Int->List α} (hG:GCons f R G) (hs: ∀it∈rowsI P t n enc R,it∈σ) (k:Int):((f k).getD (.slice none 0 0)= .slice none 0 0/\G k=[])∨vecT P t n enc ((f k).getD (.slice none 0 0)) (G k)∈σ:=by
 cases hf:f k with
 |none=>exact .inl ⟨rfl,hG.none k hf⟩
 |some v=>exact .inr (hs _ (rowsI_mem (hG.at_ k v hf)))
end
end
noncomputable section
open Go.RowKit
section
variable {P:Program} {E:Env} {af:AF} {σ ρ:Items} {d:Option Tmp} {ty t:TypeId} {pos:String} {after:Array Edge} {g:Option (Nat×Bool)} {α:Type} {n:Nat} {enc:α->List AV} {xs ys zs:List α} {v vr vn:Value}
theorem run_append_a {w:World} {t ty e:TypeId} {i:TypeInfo} {z:Value} {size bytes:Nat} (ht:P.underlying t=some (.slice e)) (hi:P.info? e=some i) (hz:i.zero=some z)
  (hsize:i.size=size) (hby:i.bytes=bytes) (hzs:z.cells.size=size)
  {v:Value} {n:Nat} {xs:List Value} (hown:ownsO w e size v n xs)
  {a:Addr} {m c:Nat} {news:List Value} (hl:news.length=m*size) (hnews: ∀j u,news[j]?=some u->w.cell? (a.add j)=some u) (h1: ∀u∈news,u.oneCell'=true)
  (h63:n+m≤maxLen) (hbytes:(n+m)*bytes≤140737488355328) (hm:0<m):
  ∃v' w',(Builtin.append_ #[t,t] ty #[v, .slice (some a) m c]).run P w= .ok v' w'/\ownsO w' e size v' (n+m) (xs++news)∧
   ((∃gg o cap,v= .slice (some ⟨gg,o,none⟩) n cap/\v'= .slice (some ⟨gg,o,none⟩) (n+m) cap/\w.grownBy w' (some gg))∨(v'.ownBlock=some w.heap.size/\w.grownBy w' none)):=by
 subst hsize
 subst hby
 have hsmall:n+m≤9223372036854775807:=by simp only[maxLen]at h63;omega
 have hlen:(xs++news).length=(n+m)*i.size:=by rw[List.length_append,hown.1,hl,Nat.add_mul]
 have grown: ∀(old:Nat),old<n+m-> ∀(row:Option Nat),
   ownsO (w.drew.alloc (.cells (xs.toArray++news.toArray++Builtin.zeroCells z.cells (grownCap w (n+m) old e - (n+m))) e)) e i.size
    (.slice (some ⟨w.heap.size,0,none⟩) (n+m) (grownCap w (n+m) old e)) (n+m) (xs++news)∧
   w.grownBy (w.drew.alloc (.cells (xs.toArray++news.toArray++Builtin.zeroCells z.cells (grownCap w (n+m) old e - (n+m))) e)) row:=by
  intro old ho row
  have hge:=grownCap_ge w (n+m) old e
  have hcm:grownCap w (n+m) old e≤maxLen:=grownCap_le_maxLen w (n+m) old e h63
  have hsz:(xs.toArray++news.toArray++Builtin.zeroCells z.cells (grownCap w (n+m) old e - (n+m))).size=grownCap w (n+m) old e*i.size:=by
   simp only[Array.size_append,List.size_toArray,size_zeroCells,hzs,hown.1,hl, ←Nat.add_mul]
   congr 1
   omega
  refine⟨⟨hlen, .inr ⟨w.heap.size,0,_,_,rfl,heap_alloc_new w.drew _,hge,hcm,by rw[hsz];omega, ?_⟩⟩,⟨rfl,rfl,rfl,by simp,λ k hk _=>heap_alloc_old w.drew _ hk⟩⟩
  simp only[Array.toList_append,List.append_assoc,List.drop_zero]
  rw[←List.append_assoc, ←hlen]
  exact List.take_left
 rcases hown.2 with⟨rfl,rfl⟩|⟨gg,o,cap,cur,rfl,hg,hnc,hcm,hcs,htake⟩
 .have hx:xs=[]:=List.eq_nil_of_length_eq_zero (by simpa using hown.1)
  subst hx
  have hr:=run_append_nil (P:=P) w t ty e i z ht hi hz a m c news hl hnews (by omega) (by omega) (by have hb:=hbytes;simp only[Nat.zero_add]at hb;omega)
  have hgr:=grown 0 (by omega) none
  simp only[Nat.zero_add,List.nil_append,Array.empty_append]at hgr⊢
  exact⟨_,_,hr,hgr.1, .inr ⟨rfl,hgr.2⟩⟩
 .by_cases hroom:n+m≤cap
  .have hmul:(n+m)*i.size≤cap*i.size:=Nat.mul_le_mul_right _ hroom
   have hnm:=Nat.add_mul n m i.size
   have hfit:o+n*i.size+news.length≤cur.size:=by omega
   have hr:=run_append_room_o (P:=P) (ty:=ty) (c:=c) ht hi hg hl hnews h1 hroom hfit
   refine⟨_,_,hr,⟨hlen, .inr ⟨gg,o,cap,_,rfl,setRow_heap w gg cur _ e _ hg,hroom,hcm, ?_, ?_⟩⟩, .inl ⟨gg,o,cap,rfl,rfl,⟨rfl,rfl,rfl,by simp,λ k _ hk=>setRow_other w gg k _ (λ e=>hk (by simp[e]))⟩⟩⟩
   .simp only[List.size_toArray,List.length_append,List.length_take,List.length_drop,Array.length_toList]
    omega
   .have ht2:cur.toList.take (o+n*i.size)=cur.toList.take o++xs:=by rw[List.take_add,htake]
    have hol:(cur.toList.take o).length=o:=by simp;omega
    simp only[]
    rw[ht2,List.append_assoc,List.append_assoc,List.drop_left' hol, ←List.append_assoc, ←hlen]
    exact List.take_left
  .have holds: ∀j u,xs[j]?=some u->w.cell? ((⟨gg,o,none⟩:Addr).add j)=some u:=λ j u hu=>by rw[addr_add'];exact hown.cells j u hu
   have hr:=run_append_grow (P:=P) w t ty e i z ht hi hz ⟨gg,o,none⟩ n cap xs hown.1 holds a m c news hl hnews (by omega) (by omega) (growslice_fits (by omega) hbytes)
   have hgr:=grown cap (by omega) none
   exact⟨_,_,hr,hgr.1, .inr ⟨rfl,hgr.2⟩⟩
theorem ownsO.same {w w':World} {e:TypeId} {size m:Nat} {us:List Value} (h:ownsO w e size v m us) (hb: ∀k,v.ownBlock=some k->w'.heap[k]?=w.heap[k]?):ownsO w' e size v m us:=by
 refine⟨h.1, ?_⟩
 rcases h.2 with h|⟨gg,o,cap,cur,rfl,hg,r⟩
 .exact .inl h
 .exact .inr ⟨gg,o,cap,cur,rfl,by rw[hb gg rfl];exact hg,r⟩
def vecA {α:Type} (P:Program) (t:TypeId) (n:Nat) (enc:α->List AV) (vr:Value) (xs:List α) (vn:Value) (ys:List α):Item where
 own:=if vr.ownBlock=vn.ownBlock then vn.ownBlock.toList else vn.ownBlock.toList++vr.ownBlock.toList
 p:=λ M w=> ∃us zs,ownsO w (elemOfT P t) n vr xs.length us/\ownsO w (elemOfT P t) n vn ys.length zs/\Fit M w (xs.flatMap enc) us/\Fit M w (ys.flatMap enc) zs∧
  (∀k,vr.ownBlock=some k->vn.ownBlock=some k-> ∃o c,vr= .slice (some ⟨k,o,none⟩) xs.length c/\vn= .slice (some ⟨k,o,none⟩) ys.length c/\xs.length≤ys.length)
 keep:=λ {M M' w w'} hk hm ⟨us,zs,h1,h2,h3,h4,h5⟩=>by
  have hin: ∀k,vr.ownBlock=some k∨vn.ownBlock=some k->k∈(if vr.ownBlock=vn.ownBlock then vn.ownBlock.toList else vn.ownBlock.toList++vr.ownBlock.toList):=λ k h=>by
   split
   .rename_i e;rw[e]at h;simpa using h
   .rw[List.mem_append];rcases h with h|h
    .exact .inr (by simp[h])
    .exact .inl (by simp[h])
  exact⟨us,zs,h1.same (λ k hb=>hk.block k (h1.lt k hb) (λ h=>h.2 (hin k (.inl hb)))),h2.same (λ k hb=>hk.block k (h2.lt k hb) (λ h=>h.2 (hin k (.inr hb)))),h3.keep (hk.mono (λ k _ h=>h.1)) hm,h4.keep (hk.mono (λ k _ h=>h.1)) hm,h5⟩
theorem vecA_own {k:Nat}:k∈(vecA P t n enc vr xs vn ys).own↔vr.ownBlock=some k∨vn.ownBlock=some k:=by
 show k∈(if vr.ownBlock=vn.ownBlock then vn.ownBlock.toList else vn.ownBlock.toList++vr.ownBlock.toList)↔_
 split
 .rename_i e;rw[e];simp
 .rw[List.mem_append];simp;exact or_comm
theorem vecA_nodup:(vecA P t n enc vr xs vn ys).own.Nodup:=by
 show(if vr.ownBlock=vn.ownBlock then vn.ownBlock.toList else vn.ownBlock.toList++vr.ownBlock.toList).Nodup
 split
 .cases vn.ownBlock <;>simp
 .rename_i hne
  cases h1:vn.ownBlock <;>cases h2:vr.ownBlock <;>simp
  rename_i a b
  intro e
  apply hne
  rw[h1,h2,e]
theorem SubU.toA:SubU af (vecT P t n enc v xs::σ) af (vecA P t n enc v xs v xs::σ):=by
 refine SubU.trans SubU.toO ?_
 intro E N a w hh
 have hown: ∀k,Items.own (vecA P t n enc v xs v xs::σ) k↔Items.own (vecO P t n enc v xs::σ) k:=λ k=>by rw[zcc,zcc,vecA_own];simp[vecO]
 have hM: ∀k,k<w.heap.size->both E.F (Items.own (vecA P t n enc v xs v xs::σ)) k->both E.F (Items.own (vecO P t n enc v xs::σ)) k:=λ k _ h=>h.imp id (hown k).1
 refine⟨hh.tmps,hh.defers,hh.kept,λ k h hlt=>hh.old k ((hown k).1 h) hlt,⟨hh.good.fr,λ k h=>hh.good.own k ((hown k).1 h), ?_,λ it hi=> ?_⟩,λ t=>(af t).keep (Keeps.refl _ _) hM (hh.fits t)⟩
 .have hnd:=hh.good.nodup
  rw[List.flatMap_cons,List.nodup_append]at hnd⊢
  refine⟨vecA_nodup,hnd.2.1,λ x hx y hy=>hnd.2.2 x ?_ y hy⟩
  rw[vecA_own]at hx;simpa[vecO]using hx
 .rcases List.mem_cons.1 hi with rfl|hi
  .obtain⟨us,h1,h2⟩:=hh.good.items (vecO P t n enc v xs) List.mem_cons_self
   refine⟨us,us,h1,h1,h2.keep (Keeps.refl _ _) hM,h2.keep (Keeps.refl _ _) hM,λ k hk _=> ?_⟩
   rcases h1.2 with⟨rfl,_⟩|⟨gg,o,cap,cur,rfl,_⟩
   .cases hk
   .have:gg=k:=by simpa[Value.ownBlock]using hk
    subst this
    exact⟨o,cap,rfl,rfl,Nat.le_refl _⟩
  .exact it.keep (Keeps.refl _ _) hM (hh.good.items it (List.mem_cons_of_mem _ hi))
theorem bor_own {M:BSet} {w:World} {us:List Value} {e:TypeId} (he: ∀x,(enc x).length=n) (hown:ownsO w e n v xs.length us) (hfit:Fit M w (xs.flatMap enc) us):
  ∃A c,v= .slice A xs.length c/\xs.length≤c/\(xs≠[]-> ∃b off,A=some ⟨b,off,none⟩/\ ∀(i:Nat) (y:α),xs[i]?=some y->(enc y).length=n/\CellsAt M w b (off+i*n) (enc y)):=by
 have hown0:=hown
 rcases hown.2 with⟨rfl,h0⟩|⟨gg,o,cap,cur,rfl,hg,hnc,hcm,_,htake⟩
 .have:xs=[]:=List.length_eq_zero_iff.1 h0
  subst this
  exact⟨none,0,rfl,Nat.zero_le _,λ h=>absurd rfl h⟩
 .refine⟨_,_,rfl,hnc,λ _=>⟨gg,o,rfl,λ i x hx=>⟨he x, ?_⟩⟩⟩
  have hcells:=zjm (b:=gg) (off:=o) hfit (λ j u hu=>hown0.cells j u hu)
  exact hcells.sub (λ j a hj=>flat_get (λ y _=>he y) hx j a hj)
theorem BorL.a1 (hm:vecA P t n enc vr xs vn ys∈σ) (he: ∀x,(enc x).length=n):BorL σ (.exact vr) n enc xs:=λ F w u hg hx=>by
 obtain rfl:u=vr:=hx
 obtain⟨us,zs,h1,h2,h3,h4,h5⟩:=hg.items _ hm
 exact bor_own he h1 h3
theorem op_len_borL {x:Operand} {K:AF->Prop} (hB:isSliceB P t=true) (hx:BorL σ (af.ev x) n enc xs) (hk:K (af.put d (.exact (.int .i64 (xs.length:Int))))):
  opR P ⟨d, .call { callee:= .builtin .len,args:= #[x],argTypes:= #[t] },ty,pos,after,g⟩ af σ K:=by
 refine⟨_,λ F w ev hg h=> ?_,hk⟩
 obtain⟨A,c,e1,_,_⟩:=hx F w _ hg (h x (by simp[Op.operands,Call.operands]))
 obtain⟨e,hu⟩:=isSliceB_spec hB
 simp[execOp,resolve,invoke,builtin,Builtin.len_,e1,zdk hu,goInt,go_sem,UponQ]
 exact⟨Keeps.refl _ _,rfl⟩
theorem op_index_bor {x y:Operand} {k:IntKind} {i:Int} {K:AF->Prop} (hB:sliceB P t n=true) (hx:af.ev x= .exact v) (hb:BorL σ (.exact v) n enc xs) (hy:af.ev y= .exact (.int k i)) (h0:0≤i) (h1:i<xs.length) (hk:K (af.put d (.eptrO v (i.toNat*n)))):
  opR P ⟨d, .indexAddr t x y,ty,pos,after,g⟩ af σ K:=by
 refine⟨_,λ F w ev hg h=> ?_,hk⟩
 have e1:=opnd h (x:=x) (by simp[Op.operands]) hx
 have e2:=opnd h (x:=y) (by simp[Op.operands]) hy
 obtain⟨A,c,hv,_,e5⟩:=hb F w v hg rfl
 obtain⟨b,q,rfl,_⟩:=e5 (by rintro rfl;simp at h1;omega)
 obtain⟨e,hu,hs⟩:=znd hB
 subst hv
 have hadd:Addr.add ⟨b,q,none⟩ (i.toNat*n)=⟨b,q+i.toNat*n,none⟩:=addr_add' _ _ _
 simp[execOp,Instr.indexAt,e1,e2,zdk hu,asIntOf,h0,h1,zng hs,hadd,go_sem,UponQ]
 exact⟨Keeps.refl _ _,b,q,_,_,rfl,rfl⟩
theorem op_fieldAddr_O {x:Operand} {f o o0:Nat} {K:AF->Prop} (hB:fieldB P t f o=true) (hx:af.ev x= .eptrO v o0) (hk:K (af.put d (.eptrO v (o0+o)))):opA P ⟨d, .fieldAddr t x f,ty,pos,after,g⟩ af K:=by
 refine⟨_,λ M w ev _ h=> ?_,hk⟩
 obtain⟨b,q,l,c,hv,e1⟩:=zhq h (x:=x) (by simp[Op.operands]) hx
 have hr:(execOp ev ⟨d, .fieldAddr t x f,ty,pos,after,g⟩).run P w= .ok (.value (.pointer (some ⟨b,q+o0+o,none⟩))) w:=by
  unfold execOp
  simp only[e1,Sem.run_bind,run_fieldAt hB,Result.andThen_ok,Sem.run_pure]
 rw[hr]
 exact⟨Keeps.refl _ _,b,q,l,c,hv,by rw[Nat.add_assoc]⟩
theorem op_load_bor [Inhabited α] {x:Operand} {i:Int} {o:Nat} {a:AV} {K:AF->Prop} (hB:loadB P t false 1=true) (hb:BorL σ (.exact v) n enc xs) (hx:af.ev x= .eptrO v (i.toNat*n+o)) (h0:0≤i) (h1:i<xs.length) (hc:(enc (gi xs i))[o]?=some a) (hk:K (af.put d a)):
  opR P ⟨d, .load t x,ty,pos,after,g⟩ af σ K:=by
 refine⟨_,λ F w ev hg h=> ?_,hk⟩
 obtain⟨b',q',l',c',hv',e1⟩:=zhq h (x:=x) (by simp[Op.operands]) hx
 obtain⟨A,c,hv,_,e5⟩:=hb F w v hg rfl
 obtain⟨b,q,rfl,hcell⟩:=e5 (by rintro rfl;simp at h1;omega)
 rw[hv]at hv'
 injection hv' with g1 _ _
 injection g1 with g1
 injection g1 with g1 g2 _
 subst g1 g2
 obtain⟨_,hcs⟩:=hcell _ _ (gi_get h0 h1)
 obtain⟨u,hu,hp⟩:=hcs o a hc
 rw[Nat.add_assoc]at hu
 have hr:(execOp ev ⟨d, .load t x,ty,pos,after,g⟩).run P w= .ok (.value u) w:=by
  unfold execOp
  simp only[e1,Sem.run_bind,run_load1 hB hu,Result.andThen_ok,Sem.run_pure]
 rw[hr]
 exact⟨Keeps.refl _ _,hp⟩
theorem op_appA {s x:Operand} {K:AF->Items->Prop} (hB:elB P t n=true) (hs:af.ev s= .exact vn) (hx:af.ev x= .row n enc zs) (hne:zs≠[]) (ho: ∀x,OneC (enc x)) (hl:ys.length+zs.length≤LIM)
  (hk: ∀v',K (af.put d (.exact v')) (vecA P t n enc vr xs v' (ys++zs)::ρ)):
  opB P ⟨d, .call { callee:= .builtin .append,args:= #[s,x],argTypes:= #[t,t] },ty,pos,after,g⟩ af (vecA P t n enc vr xs vn ys::ρ) K:=by
 refine⟨λ a s=> ∃v',a= .exact v'/\s=vecA P t n enc vr xs v' (ys++zs)::ρ,λ F w ev hg h=> ?_,λ av s ⟨v',e1,e2⟩=>by subst e1 e2;exact hk v'⟩
 obtain⟨ht,hn0,i,z,hi,hz,hi1,hi2,hi3⟩:=elB_spec hB
 have e1:=opnd h (x:=s) (by simp[Op.operands,Call.operands]) hs
 obtain⟨A,cp,e2,_,_,e5⟩:=zhq h (x:=x) (by simp[Op.operands,Call.operands]) hx
 obtain⟨us0,zs0,hor,hon,hfr,hfn,hsame⟩:=hg.items (vecA P t n enc vr xs vn ys) List.mem_cons_self
 have hbs:(ys.length+zs.length)*i.bytes≤140737488355328:=Nat.le_trans (Nat.mul_le_mul hl hi2) (by simp only[LIM];omega)
 obtain⟨b,off,rfl,hb,hnM,hcell⟩:=e5 hne
 have hcells:=row_cells hcell
 obtain⟨us,hf,hu⟩:=fit_cells hcells
 have hlen:(zs.flatMap enc).length=zs.length*n:=flat_len (λ y hy=>by
  obtain⟨i,hi⟩:=List.mem_iff_getElem?.1 hy
  exact(hcell i y hi).1)
 obtain⟨v',w',h1,h2,h5⟩:=run_append_a (P:=P) (ty:=ty) (c:=cp) ht hi hz hi1 rfl hi3 hon (a:=⟨b,off,none⟩) (m:=zs.length) (news:=us) (by rw[←hf.length,hlen])
  (λ j u hj=>by
   rw[addr_add']
   have hjl:j<(zs.flatMap enc).length:=by rw[hf.length];exact(List.getElem?_eq_some_iff.1 hj).1
   obtain⟨u',g1,g2⟩:=hu j hjl
   rw[hj]at g1
   injection g1 with g1
   rw[g1];exact g2) ((OneC.flatT (xs:=zs) ho).fit hf) (by simp only[maxLen,LIM]at *;omega) hbs (List.length_pos_iff.2 hne)
 have hrun':(execOp ev ⟨d, .call { callee:= .builtin .append,args:= #[s,x],argTypes:= #[t,t] },ty,pos,after,g⟩).run P w= .ok (.value v') w':=by
  unfold execOp
  simp only[resolve,invoke,builtin,Sem.run_bind,Sem.run_pure,Result.andThen_ok,List.map_toArray,List.map_cons,List.map_nil,e1,e2,h1]
 rw[hrun']
 have hk':Keeps (λ k=>k∈(vecA P t n enc vr xs vn ys).own) w w':=by
  rcases h5 with⟨gg,o,cap,rfl,rfl,h3⟩|⟨_,h3⟩
  .exact⟨h3.os,h3.tape,h3.output,run_drawn _ _ _ _ h1,h3.size,λ k hlt hn=>h3.block k hlt (λ e=>hn (vecA_own.2 (.inr (by simpa[Value.ownBlock]using e.symm))))⟩
  .exact⟨h3.os,h3.tape,h3.output,run_drawn _ _ _ _ h1,h3.size,λ k hlt hn=>h3.block k hlt (by simp)⟩
 have hor':ownsO w' (elemOfT P t) n vr xs.length us0/\(∀k,vr.ownBlock=some k->v'.ownBlock=some k-> ∃o c,vr= .slice (some ⟨k,o,none⟩) xs.length c/\v'= .slice (some ⟨k,o,none⟩) (ys++zs).length c/\xs.length≤(ys++zs).length):=by
  rcases h5 with⟨gg,o,cap,rfl,rfl,h3⟩|⟨hv',h3⟩
  .by_cases hbk:vr.ownBlock=some gg
   .obtain⟨o',c',q1,q2,q3⟩:=hsame gg hbk rfl
    injection q2 with r1 r2 r3
    injection r1 with r1
    injection r1 with _ r4 _
    subst r3 r4
    subst q1
    refine⟨⟨hor.1, .inr ?_⟩,λ k hk1 hk2=> ?_⟩
    .rcases hor.2 with⟨e,_⟩|⟨g1,o1,c1,cur,e,hg1,hn1,hc1,hs1,ht1⟩
     .cases e
     .injection e with s1 s2 s3
      injection s1 with s1
      injection s1 with s1 s4 _
      subst s1 s3 s4
      rcases hon.2 with⟨e,_⟩|⟨g2,o2,c2,cur2,e,hg2,_,_,_,ht2⟩
      .cases e
      .injection e with s1 s2 s3
       injection s1 with s1
       injection s1 with s1 s4 _
       subst s1 s3 s4
       rw[hg1]at hg2
       injection hg2 with hg2
       injection hg2 with hg2 _ _
       subst hg2
       rcases h2.2 with⟨e,_⟩|⟨g3,o3,c3,cur3,e,hg3,_,_,hs3,ht3⟩
       .cases e
       .injection e with s1 s2 s3
        injection s1 with s1
        injection s1 with s1 s4 _
        subst s1 s3 s4
        refine⟨_,_,_,cur3,rfl,hg3,hn1,hc1,hs3, ?_⟩
        have hle:xs.length*n≤ys.length*n:=Nat.mul_le_mul_right _ q3
        have hle2:xs.length*n≤(ys.length+zs.length)*n:=Nat.mul_le_mul_right _ (by omega)
        have k1:((cur3.toList.drop o).take (xs.length*n))=(zs0++us).take (xs.length*n):=by
         rw[←ht3,List.take_take,Nat.min_eq_left hle2]
        have k2:us0=zs0.take (xs.length*n):=by
         rw[←ht1, ←ht2,List.take_take,Nat.min_eq_left hle]
        rw[k1,k2,List.take_append_of_le_length (by rw[hon.1];exact hle)]
    .have:gg=k:=by simpa[Value.ownBlock]using hk2
     subst this
     exact⟨_,_,rfl,by rw[List.length_append],by rw[List.length_append];omega⟩
   .refine⟨hor.same (λ k hk1=>h3.block k (hor.lt k hk1) (λ e=>hbk (by rw[hk1, ←e]))),λ k hk1 hk2=> ?_⟩
    have:gg=k:=by simpa[Value.ownBlock]using hk2
    subst this
    exact absurd hk1 hbk
  .refine⟨hor.same (λ k hk1=>h3.block k (hor.lt k hk1) (by simp)),λ k hk1 hk2=> ?_⟩
   rw[hv']at hk2
   injection hk2 with e
   have:=hor.lt k hk1
   omega
 obtain⟨g1,g2,g3⟩:=zhy (it':=vecA P t n enc vr xs v' (ys++zs)) hg hk' (λ k hk''=>by
   rw[vecA_own]at hk''
   rcases hk'' with hk''|hk''
   .exact⟨hor'.1.lt k hk'',λ _=>vecA_own.2 (.inl hk'')⟩
   .refine⟨h2.lt k hk'',λ hlt=>vecA_own.2 (.inr ?_)⟩
    rcases h5 with⟨gg,o,cap,rfl,rfl,_⟩|⟨hv',_⟩
    .exact hk''
    .rw[hv']at hk'';injection hk'' with e;omega) vecA_nodup
  (λ hkk hMM=>⟨us0,zs0++us,hor'.1,by rw[List.length_append];exact h2,hfr.keep hkk hMM,by rw[List.flatMap_append];exact(hfn.keep hkk hMM).app (hf.keep hkk hMM),hor'.2⟩)
 exact⟨_,_,⟨v',rfl,rfl⟩,g1,g2,g3,rfl⟩
theorem SubU.freezeA {s1 s2:Tmp} (h1:af s1= .exact vr) (h2:af s2= .exact vn) (hne:(s1 ==s2)=false) (he: ∀x,(enc x).length=n):SubU af (vecA P t n enc vr xs vn ys::σ) ((af.put (some s1) (.row n enc xs)).put (some s2) (.row n enc ys)) σ:=by
 have n1:s1≠s2:=by simpa using hne
 intro E N a w hh
 have hM: ∀k,k<w.heap.size->both E.F (Items.own σ) k->both E.F (Items.own (vecA P t n enc vr xs vn ys::σ)) k:=λ k _ h=>h.imp id (λ h=>zcc.2 (.inr h))
 have hnd:=hh.good.nodup
 rw[List.flatMap_cons,List.nodup_append]at hnd
 have hrow: ∀{v:Value} {l:List α} {us:List Value},(∀k,v.ownBlock=some k->k∈(vecA P t n enc vr xs vn ys).own)->ownsO w (elemOfT P t) n v l.length us->Fit (both E.F (Items.own (vecA P t n enc vr xs vn ys::σ))) w (l.flatMap enc) us->(AV.row n enc l).p (both E.F (Items.own σ)) w v:=λ {v l us} hb ho hf=>by
  refine vecO_row (P:=P) (t:=t) (λ k hk=> ?_) he ⟨us,ho,hf⟩ hM
  have hin:=hb k hk
  rintro (hF|hO)
  .exact(hh.good.own k (zcc.2 (.inl hin))).2 hF
  .exact hnd.2.2 k hin k hO rfl
 obtain⟨us,zs,o1,o2,f1,f2,_⟩:=hh.good.items (vecA P t n enc vr xs vn ys) List.mem_cons_self
 refine⟨hh.tmps,hh.defers,hh.kept,λ k h hlt=>hh.old k (zcc.2 (.inr h)) hlt,⟨hh.good.fr,λ k h=>hh.good.own k (zcc.2 (.inr h)),hnd.2.1,λ it hi=>it.keep (Keeps.refl _ _) hM (hh.good.items it (List.mem_cons_of_mem _ hi))⟩,λ u=> ?_⟩
 by_cases hu2:u=s2
 .subst hu2
  rw[AF.put_same]
  have hv:=hh.fits u
  rw[h2]at hv
  have hv':a.tmps.getD u undef=vn:=hv
  rw[hv']
  exact hrow (λ k hk=>vecA_own.2 (.inr hk)) o2 f2
 .rw[AF.put_other _ _ hu2]
  by_cases hu1:u=s1
  .subst hu1
   rw[AF.put_same]
   have hv:=hh.fits u
   rw[h1]at hv
   have hv':a.tmps.getD u undef=vr:=hv
   rw[hv']
   exact hrow (λ k hk=>vecA_own.2 (.inl hk)) o1 f1
  .rw[AF.put_other _ _ hu1]
   exact(af u).keep (Keeps.refl _ _) hM (hh.fits u)
end
end
noncomputable section
open Go.RowKit
section
variable {P:Program} {E:Env} {af:AF} {σ ρ:Items} {w:World} {K:AF->Items->Prop} {o:Oper}
variable {α:Type} {t bt:TypeId} {n:Nat} {enc:α->List AV} {xs:List α} {v:Value} {a:AV} {b:Nat} {c:List AV}
theorem Fit.set {M:BSet}: ∀{c:List AV} {vs:List Value} {j:Nat} {v:Value} {a:AV},Fit M w c vs->c[j]?=some (.exact v)->a.p M w v->Fit M w (c.set j a) vs
 |[],_,_,_,_,_,hj,_=>by simp at hj
 |x::c,u::vs,0,v,a,h,hj,ha=>by
  simp at hj;subst hj
  obtain⟨h1,h2⟩:=h
  obtain h1:u=v:=h1
  subst h1
  exact⟨ha,h2⟩
 |x::c,u::vs,j+1,v,a,h,hj,ha=>⟨h.1,Fit.set (j:=j) h.2 (by simpa using hj) ha⟩
theorem CellsOf.ptr:CellsOf (.ptr c) [.ptr c]:=λ M w u h=>⟨[u],by obtain⟨b,off,h1,_⟩:=h;rw[h1];rfl,⟨h,trivial⟩⟩
theorem OneC.ptr {c':List AV} (hc:OneC c'):OneC (.ptr c::c'):=OneC.cons (λ M w u h=>by obtain⟨b,off,h1,_⟩:=h;rw[h1];rfl) hc
theorem CellsOf.fn {ι δ:Type} {args:ι->List AV} {f:ι->Option δ} {res:δ->AV}:CellsOf (.fn P args f res) [.fn P args f res]:=λ M w v h=>⟨[v],by obtain⟨k,fn,caps,avs,h1,_⟩:=h;rw[h1];rfl,⟨h,trivial⟩⟩
theorem OneC.fn {ι δ:Type} {args:ι->List AV} {f:ι->Option δ} {res:δ->AV} {c':List AV} (hc:OneC c'):OneC (.fn P args f res::c'):=OneC.cons (λ M w u h=>by obtain⟨k,fn,caps,avs,h1,_⟩:=h;rw[h1];rfl) hc
theorem AV.ext' {x y:AV} (h: ∀M w v,x.p M w v↔y.p M w v):x=y:=by
 cases x with|mk p k=>cases y with|mk q k'=>
 have:p=q:=by funext M w v;exact propext (h M w v)
 subst this
 rfl
end
end
noncomputable section
open Go.RowKit
mutual
def ndA:Nd->AV
 | .nil=> .exact (.pointer none)
 | .mk op n kids=> .ptr [.exact (.int .i64 op), .exact (.int .i64 n), .row 1 (λ a=>[a]) (ndAs kids)]
def ndAs:List Nd->List AV
 |[]=>[]
 |k::l=>ndA k::ndAs l
end
attribute [irreducible] ndA
end
noncomputable section
open Go.RowKit
section
variable {P:Program} {E:Env} {af:AF} {σ ρ:Items} {d:Option Tmp} {ty t:TypeId} {pos:String} {after:Array Edge} {g:Option (Nat×Bool)} {α:Type} {n:Nat} {enc:α->List AV} {xs ys:List α} {v:Value}
theorem op_clipO {x hi m:Operand} {e:TypeId} {i:Int} {k1 k2:IntKind} {K:AF->Items->Prop} (hB:sliceB P t n=true) (hx:af.ev x= .exact v) (hhi:af.ev hi= .exact (.int k1 i)) (hm:af.ev m= .exact (.int k2 i)) (hi':i=xs.length)
  (hk: ∀v',K (af.put d (.exact v')) (vecO P e n enc v' xs::ρ)):opB P ⟨d, .slice t x none (some hi) (some m),ty,pos,after,g⟩ af (vecT P e n enc v xs::ρ) K:=by
 subst hi'
 refine⟨λ a s=> ∃v',a= .exact v'/\s=vecO P e n enc v' xs::ρ,λ F w ev hg h=> ?_,λ av s ⟨v',e1,e2⟩=>by subst e1 e2;exact hk v'⟩
 have e1:=opnd h (x:=x) (by simp[Op.operands]) hx
 obtain⟨us,hown,hfit⟩:=hg.items _ List.mem_cons_self
 have hv: ∃A c,v= .slice A xs.length c/\xs.length≤c:=by
  rcases hown.2 with⟨rfl,h0⟩|⟨g,cap,cur,rfl,_,_,hc,_⟩
  .exact⟨none,0,by rw[h0],by omega⟩
  .exact⟨_,_,rfl,hc⟩
 obtain⟨A,c,rfl,hc⟩:=hv
 obtain⟨e',hu,hs⟩:=znd hB
 have em:=opnd h (x:=m) (by simp[Op.operands]) hm
 have eh:=opnd h (x:=hi) (by simp[Op.operands]) hhi
 have hrun:(execOp ev ⟨d, .slice t x none (some hi) (some m),ty,pos,after,g⟩).run P w= .ok (.value (.slice A xs.length xs.length)) w:=by
  have hb:(Instr.sliceBounds true xs.length c none (some (ev hi)) (some (ev m))).run P w= .ok (0,xs.length,xs.length) w:=by
   unfold Instr.sliceBounds
   simp[Instr.sliceBound,asIntOf,em,eh,hc,go_sem]
  unfold execOp
  simp only[Instr.sliceAt,Instr.slice,e1,Sem.run_bind,zdk hu,Result.andThen_ok,Option.map_some,Option.map_none,hb,zng hs,Sem.run_pure,Nat.sub_zero,Nat.zero_mul]
  have hA:(if xs.length=0 then A else A.map (·.add 0))=A:=by
   split
   .rfl
   .cases A with
    |none=>rfl
    |some a=>simp[Addr.add]
  rw[hA]
 rw[hrun]
 have hown': ∀k,Items.own (vecO P e n enc (.slice A xs.length xs.length) xs::ρ) k↔Items.own (vecT P e n enc (.slice A xs.length c) xs::ρ) k:=λ k=>by
  rw[zcc,zcc];cases A <;>simp[vecO,vecT,vecI,Value.ownBlock]
 have hM: ∀k,k<w.heap.size->both F (Items.own (vecO P e n enc (.slice A xs.length xs.length) xs::ρ)) k->both F (Items.own (vecT P e n enc (.slice A xs.length c) xs::ρ)) k:=λ k _ h=>h.imp id (hown' k).1
 refine⟨_,_,⟨_,rfl,rfl⟩,⟨hg.fr,λ k h=>hg.own k ((hown' k).1 h), ?_,λ it hi=> ?_⟩,Keeps.refl _ _,λ k h _=>(hown' k).1 h,rfl⟩
 .have:=hg.nodup
  rw[List.flatMap_cons]at this⊢
  cases A <;>exact this
 .rcases List.mem_cons.1 hi with rfl|hi
  .refine⟨us,⟨hown.1, ?_⟩,hfit.keep (Keeps.refl _ _) hM⟩
   rcases hown.2 with⟨h1,h0⟩|⟨g,cap,cur,h1,_,h2,h3,h4,h5,h6⟩
   .injection h1 with q1 q2 q3
    subst q1
    exact .inl ⟨by rw[h0],h0⟩
   .injection h1 with q1 q2 q3
    subst q1 q3
    exact .inr ⟨g,0,xs.length,cur,rfl,h2,Nat.le_refl _,Nat.le_trans h3 h4,by rw[h5,Nat.zero_add];exact Nat.mul_le_mul_right _ h3,by simpa using h6⟩
  .exact it.keep (Keeps.refl _ _) hM (hg.items it (List.mem_cons_of_mem _ hi))
theorem Pure.ofOwnO {f:FuncId} {args:List AV} {α:Type} {n:Nat} {enc:α->List AV} {xs:List α} (he: ∀x,(enc x).length=n) (h:Fun P f args [] (λ a s=> ∃v,a= .exact v/\s=[vecO P t n enc v xs])):Pure P f args (.row n enc xs):=by
 intro M w vs hM hfit
 have hown: ∀k, ¬Items.own [] k:=λ k hk=>by simp[Items.own]at hk
 refine(h M w vs ⟨hM,λ k hk=>(hown k hk).elim,List.nodup_nil,λ it hi=>by cases hi⟩ (hfit.keep (Keeps.refl _ _) (λ k _ hk=>hk.elim id (λ h=>(hown k h).elim)))).mono ?_
 rintro e w' ⟨v,hev,av,σ',⟨v',rfl,rfl⟩,hg,hk,hn,hp⟩
 obtain rfl:v=v':=hp
 refine⟨v,hev,hk.mono (λ k _ ho=>(hown k ho).elim), ?_⟩
 refine vecO_row (λ k hkb hMk=> ?_) he (hg.items _ List.mem_cons_self) (λ k _ hk=> .inl hk)
 exact(hg.own k (List.mem_flatMap.2 ⟨_,List.mem_cons_self,by simp[vecO,hkb]⟩)).2 hMk
end
end
noncomputable section
open Go.RowKit
section
variable {P:Program} {E:Env} {af:AF} {σ ρ:Items} {d:Option Tmp} {ty t:TypeId} {pos:String} {after:Array Edge} {g:Option (Nat×Bool)} {α:Type} {n:Nat} {enc:α->List AV} {xs ys:List α} {v:Value}
theorem vecO_full {M:BSet} {w:World} (h:(vecO P t n enc v xs).p M w) (hx:xs≠[]): ∃b q c cur vs,v= .slice (some ⟨b,q,none⟩) xs.length c/\w.heap[b]?=some (.cells cur (elemOfT P t) (0,0))/\xs.length≤c/\c≤maxLen/\q+c*n≤cur.size/\(cur.toList.drop q).take (xs.length*n)=vs/\Fit M w (xs.flatMap enc) vs:=by
 obtain⟨us,hown,hfit⟩:=h
 rcases hown.2 with⟨rfl,h0⟩|⟨g,o,cap,cur,rfl,h1,h2,h3,h4,h5⟩
 .exact absurd (List.length_eq_zero_iff.1 h0) hx
 .exact⟨g,o,cap,cur,us,rfl,h1,h2,h3,h4,h5,hfit⟩
theorem op_load_O [Inhabited α] {x:Operand} {e:TypeId} {i:Int} {o:Nat} {a:AV} {K:AF->Prop} (hB:loadB P t false 1=true) (he: ∀x,(enc x).length=n) (hx:af.ev x= .eptrO v (i.toNat*n+o)) (h0:0≤i) (h1:i<xs.length) (hc:(enc (gi xs i))[o]?=some a) (hk:K (af.put d a)):
  opR P ⟨d, .load t x,ty,pos,after,g⟩ af (vecO P e n enc v xs::ρ) K:=by
 refine⟨_,λ F w ev hg h=> ?_,hk⟩
 obtain⟨b',q',l',c',hv',e1⟩:=zhq h (x:=x) (by simp[Op.operands]) hx
 obtain⟨b,q,c,us,hv,hfit,hcell⟩:=vecO_cells (hg.items _ List.mem_cons_self) (by rintro rfl;simp at h1;omega)
 rw[hv]at hv'
 injection hv' with g1 _ _
 injection g1 with g1
 injection g1 with g1 g2 _
 subst g1 g2
 obtain⟨hsp,hl⟩:=flat_split (enc:=enc) he (gi_get h0 h1)
 have hat:(xs.flatMap enc)[i.toNat*n+o]?=some a:=by
  rw[hsp,List.append_assoc,List.getElem?_append_right (by omega),hl,Nat.add_sub_cancel_left,List.getElem?_append_left (List.getElem?_eq_some_iff.1 hc).1]
  exact hc
 obtain⟨u,hu,hp⟩:=hfit.at hat
 have hr:(execOp ev ⟨d, .load t x,ty,pos,after,g⟩).run P w= .ok (.value u) w:=by
  unfold execOp
  simp only[e1,Sem.run_bind,run_load1 hB (hcell _ u hu),Result.andThen_ok,Sem.run_pure]
 rw[hr]
 exact⟨Keeps.refl _ _,hp⟩
theorem splc_drop {β:Type} {cur us:List β} {q j:Nat} (h:q+j+us.length≤cur.length):(splc cur (q+j) us).drop q=splc (cur.drop q) j us:=by
 unfold splc
 rw[List.append_assoc,List.drop_append_of_le_length (by simp;omega),List.drop_take,List.append_assoc,List.drop_drop,show q+j - q=j by omega,show q+j+us.length=q+(j+us.length)by omega]
theorem splc_take {β:Type} {cur us:List β} {j m:Nat} (h:j+us.length≤m) (hm:m≤cur.length):(splc cur j us).take m=splc (cur.take m) j us:=by
 unfold splc
 rw[List.take_take,Nat.min_eq_left (by omega),List.drop_take,List.take_append,List.take_of_length_le (by simp;omega)]
 congr 2
 simp;omega
theorem op_store_O [Inhabited α] {x y:Operand} {e:TypeId} {i:Int} {o:Nat} {a:AV} {c2 c':List AV} {z:α} {K:AF->Items->Prop} (he: ∀x,(enc x).length=n) (hx:af.ev x= .eptrO v (i.toNat*n+o)) (h0:0≤i) (h1:i<xs.length) (hy:af.ev y=a) (hc:CellsOf a c2) (hle:LEs c2 c') (ho1:OneC c2) (hs:sizeB P t c'.length=true) (ho:o+c'.length≤n)
  (hz:splc (enc (gi xs i)) o c'=enc z) (hk:K (af.put d undefA) (vecO P e n enc v (xs.set i.toNat z)::ρ)):opB P ⟨d, .store t x y,ty,pos,after,g⟩ af (vecO P e n enc v xs::ρ) K:=by
 refine⟨λ a s=>a=undefA/\s=vecO P e n enc v (xs.set i.toNat z)::ρ,λ F w ev hg h=> ?_,λ av s ⟨e1,e2⟩=>by subst e1 e2;exact hk⟩
 obtain⟨b',q',l',cc,hv',e1⟩:=zhq h (x:=x) (by simp[Op.operands]) hx
 obtain⟨us,e2,hf2⟩:=hc _ w _ (zhq h (x:=y) (by simp[Op.operands]) hy)
 obtain⟨b,q,c,cur,vs,hv,hb,hnc,hcm,hcs,htk,hfit⟩:=vecO_full (hg.items _ List.mem_cons_self) (by rintro rfl;simp at h1;omega)
 rw[hv]at hv'
 injection hv' with g1 _ _
 injection g1 with g1
 injection g1 with g1 g2 _
 subst g1 g2
 have hf3:=LE_fit hle hf2
 have hlen:us.length=c'.length:=hf3.length.symm
 have hbd:i.toNat*n+o+us.length≤xs.length*n:=by
  have:(i.toNat+1)*n≤xs.length*n:=Nat.mul_le_mul_right _ (by omega)
  rw[Nat.add_mul]at this
  omega
 have hcn:xs.length*n≤c*n:=Nat.mul_le_mul_right _ hnc
 have hr:(execOp ev ⟨d, .store t x y,ty,pos,after,g⟩).run P w= .ok .skip (w.setRow b (splc cur.toList (q+(i.toNat*n+o)) us).toArray):=by
  unfold execOp
  have hst:=run_storeAt (P:=P) (t:=t) (w:=w) (b:=b) (o:=q+(i.toNat*n+o)) (u:=ev y) (cur:=cur.toList) (us:=us) (bt:=elemOfT P e) (by rw[hlen];exact hs) (by simpa using hb) e2 (by simp;omega) (ho1.fit hf2)
  simp only[e1,Sem.run_bind,hst,Result.andThen_ok,Sem.run_pure]
 rw[hr]
 have hblt:=(Array.getElem?_eq_some_iff.1 hb).1
 have hob:v.ownBlock=some b:=by rw[hv];rfl
 have hk:Keeps (λ k=>k∈(vecO P e n enc v xs).own) w (w.setRow b (splc cur.toList (q+(i.toNat*n+o)) us).toArray):=⟨rfl,rfl,rfl,Nat.le_refl _,by simp,λ k hlt hn=>by
  have hne:k≠b:=λ e=>hn (by simp[vecO,hob,e])
  simp[World.setRow,Array.getElem?_modify,Ne.symm hne]⟩
 have hfs:=Fit.spl (i.toNat*n+o) hfit hf3
 rw[set_flat he h0 h1 hz ho]at hfs
 have hcurl:cur.toList.length=cur.size:=by simp
 have hvs:((splc cur.toList (q+(i.toNat*n+o)) us).drop q).take (xs.length*n)=splc vs (i.toNat*n+o) us:=by
  rw[splc_drop (by omega),splc_take hbd (by simp;omega),htk]
 have hsize:(splc cur.toList (q+(i.toNat*n+o)) us).length=cur.size:=by unfold splc;simp;omega
 obtain⟨g1,g2,g3⟩:=zhy (it':=vecO P e n enc v (xs.set i.toNat z)) hg hk (λ k hk'=>⟨by simp[vecO,hob]at hk';subst hk';simpa using hblt,λ _=>by simpa[vecO]using hk'⟩) (by simp[vecO,hob])
  (λ hkk hMM=>⟨splc vs (i.toNat*n+o) us,⟨by rw[←hvs];simp[hsize];omega, .inr ⟨b,q,c,(splc cur.toList (q+(i.toNat*n+o)) us).toArray,by rw[hv];simp,setRow_heap w b cur _ _ _ hb,by simpa using hnc,hcm,by simp only[List.size_toArray];rw[hsize];exact hcs,by simpa using hvs⟩⟩,hfs.keep hkk hMM⟩)
 exact⟨_,_,⟨rfl,rfl⟩,g1,g2,g3,rfl⟩
end
end
noncomputable section
open Go.RowKit Go.Lib
def sitI (b:Nat) (s:List UInt8) (pos:Nat):Item where
 own:=[b]
 p:=λ _ w=>w.heap[b]?=some (.stringIter (bs s) pos)
 keep:=λ {M M' w w'} hk _ h1=>by
  rw[hk.block b (Array.getElem?_eq_some_iff.1 h1).1 (λ h=>h.2 (by simp))]
  exact h1
def AV.sitn (s:List UInt8) (pos:Nat):AV:=⟨λ _ _ v=>if pos<s.length then∃r,v= .tuple #[.bool true, .int .i64 pos, .int .i32 r]else v= .tuple #[.bool false],λ _ _ h=>h⟩
section
variable {P:Program} {E:Env} {af:AF} {σ ρ:Items} {d:Option Tmp} {ty t:TypeId} {pos:String} {after:Array Edge} {g:Option (Nat×Bool)} {s:List UInt8} {q b:Nat}
theorem op_rangeS {x:Operand} {K:AF->Items->Prop} (ht:P.underlying t=some .string) (hx:af.ev x= .exact (.string (bs s))) (hk: ∀b,K (af.put d (pA b 0)) (sitI b s 0::σ)):opB P ⟨d, .range t x,ty,pos,after,g⟩ af σ K:=by
 refine⟨λ a τ=> ∃b,a=pA b 0/\τ=sitI b s 0::σ,λ F w ev hg h=> ?_,λ av τ ⟨b,e1,e2⟩=>by subst e1 e2;exact hk b⟩
 have e1:=opnd h (x:=x) (by simp[Op.operands]) hx
 have hrun:(execOp ev ⟨d, .range t x,ty,pos,after,g⟩).run P w= .ok (.value (.pointer (some ⟨w.heap.size,0,none⟩))) (w.alloc (.stringIter (bs s) 0)):=by
  have hr:=run_range_string w t (bs s) ht
  simp[execOp,e1,hr,Result.andThen]
  rfl
 rw[hrun]
 exact out_new (it:=sitI w.heap.size s 0) hg rfl (λ M hM=>heap_alloc_new w _) (λ M=>rfl) ⟨_,rfl,rfl⟩
theorem op_nextS {x:Operand} {K:AF->Items->Prop} (hx:af.ev x=pA b 0) (hk:K (af.put d (.sitn s q)) (sitI b s (sNx s q)::ρ)):opB P ⟨d, .next x true,ty,pos,after,g⟩ af (sitI b s q::ρ) K:=by
 refine⟨λ a τ=>a= .sitn s q/\τ=sitI b s (sNx s q)::ρ,λ F w ev hg h=> ?_,λ av τ ⟨e1,e2⟩=>by subst e1 e2;exact hk⟩
 have e1:ev x= .pointer (some ⟨b,0,none⟩):=opnd h (x:=x) (by simp[Op.operands]) hx
 have hb:w.heap[b]?=some (.stringIter (bs s) q):=hg.items (sitI b s q) List.mem_cons_self
 have hlt:b<w.heap.size:=(Array.getElem?_eq_some_iff.1 hb).1
 have hsz:(bs s).size=s.length:=by simp[ByteArray.size]
 by_cases hp:q<s.length
 .have hrun:(execOp ev ⟨d, .next x true,ty,pos,after,g⟩).run P w= .ok (.value (.tuple #[.bool true, .int .i64 q, .int .i32 (Utf8.decode (bs s) q).1])) (w.iterAt b (bs s) (q+(Utf8.decode (bs s) q).2)):=by
   simp[execOp,e1,run_next_any_at w b (bs s) q ty hb (by omega),Result.andThen]
  rw[hrun]
  have en:sNx s q=q+(Utf8.decode (bs s) q).2:=by unfold sNx;rw[if_pos hp]
  have hk':Keeps (λ k=>k∈(sitI b s q).own) w (w.iterAt b (bs s) (q+(Utf8.decode (bs s) q).2)):=⟨rfl,rfl,rfl,Nat.le_refl _,by rw[iterAt_size];exact Nat.le_refl _,λ k hlt hn=>iterAt_other w b k _ _ (λ e=>hn (by subst e;simp[sitI]))⟩
  obtain⟨g1,g2,g3⟩:=zhy (it':=sitI b s (sNx s q)) hg hk' (λ k hk=>⟨by
    have:k=b:=by simpa[sitI]using hk
    subst this;rw[iterAt_size];exact hlt,λ _=>hk⟩) (by simp[sitI]) (λ _ _=>by
     show(w.iterAt b (bs s) _).heap[b]?=_
     rw[en];exact iterAt_heap w b (bs s) q _ hb)
  exact⟨_,_,⟨rfl,rfl⟩,g1,g2,g3,by
   show if q<s.length then _ else _
   rw[if_pos hp];exact⟨_,rfl⟩⟩
 .have hrun:(execOp ev ⟨d, .next x true,ty,pos,after,g⟩).run P w= .ok (.value (.tuple #[.bool false])) w:=by
   simp[execOp,e1,run_next_end_at w b (bs s) q ty hb (by omega),Result.andThen]
  rw[hrun]
  have en:sNx s q=q:=by unfold sNx;rw[if_neg hp]
  obtain⟨g1,g2,g3⟩:=zhy (it':=sitI b s (sNx s q)) hg ((Keeps.refl noB w).mono (λ _ _ h=>h.elim)) (λ k hk=>⟨by
    have:k=b:=by simpa[sitI]using hk
    subst this;exact hlt,λ _=>hk⟩) (by simp[sitI]) (λ _ _=>by
     show w.heap[b]?=_
     rw[en];exact hb)
  exact⟨_,_,⟨rfl,rfl⟩,g1,g2,g3,by
   show if q<s.length then _ else _
   rw[if_neg hp]⟩
theorem op_sit0 {x:Operand} {K:AF->Prop} (hx:af.ev x= .sitn s q) (hk:K (af.put d (.exact (.bool (decide (q<s.length)))))):opA P ⟨d, .extract x 0,ty,pos,after,g⟩ af K:=by
 refine⟨_,λ M w ev _ h=> ?_,hk⟩
 have e0:=zhq h (x:=x) (by simp[Op.operands]) hx
 by_cases hp:q<s.length
 .have e0: ∃r,ev x= .tuple #[.bool true, .int .i64 q, .int .i32 r]:=by
   have e1:if q<s.length then∃r,ev x= .tuple #[.bool true, .int .i64 q, .int .i32 r]else ev x= .tuple #[.bool false]:=e0
   rwa [if_pos hp]at e1
  obtain⟨r,e1⟩:=e0
  simp[execOp,Instr.extract,e1,go_sem,UponQ,hp]
  exact⟨Keeps.refl _ _,rfl⟩
 .have e1:ev x= .tuple #[.bool false]:=by
   have e1:if q<s.length then∃r,ev x= .tuple #[.bool true, .int .i64 q, .int .i32 r]else ev x= .tuple #[.bool false]:=e0
   rwa [if_neg hp]at e1
  simp[execOp,Instr.extract,e1,go_sem,UponQ,hp]
  exact⟨Keeps.refl _ _,rfl⟩
theorem op_sit1 {x:Operand} {K:AF->Prop} (hx:af.ev x= .sitn s q) (hq:q<s.length) (hk:K (af.put d (.exact (.int .i64 (q:Int))))):opA P ⟨d, .extract x 1,ty,pos,after,g⟩ af K:=by
 refine⟨_,λ M w ev _ h=> ?_,hk⟩
 have e0:=zhq h (x:=x) (by simp[Op.operands]) hx
 have e1:if q<s.length then∃r,ev x= .tuple #[.bool true, .int .i64 q, .int .i32 r]else ev x= .tuple #[.bool false]:=e0
 rw[if_pos hq]at e1
 obtain⟨r,e1⟩:=e1
 simp[execOp,Instr.extract,e1,go_sem,UponQ]
 exact⟨Keeps.refl _ _,rfl⟩
end
end
noncomputable section
open Go.RowKit Go.Sort
theorem cmpLays1_pure {P:Program} {g:Nat} {α:Type} [Inhabited α] {e:α->Value} {cf:α->α->Int} {blk off size:Nat} {w:World}
  (h: ∀x y,Pure P g [.exact (e x), .exact (e y)] (.exact (.int .i64 (cf x y)))):CmpLays1 P g #[] e cf blk off size w:=λ m os dk hs x y=>by
 have:=h x y noB (sortWorld e w blk off m dk os) [e x,e y] (λ _ hk=>hk.elim) ⟨rfl,rfl,trivial⟩
 exact this.mono λ e w' ⟨v,e1,hk,e3⟩=>⟨by rw[e1];exact congrArg _ e3,keeps_grow hk⟩
theorem CmpOk.swo {α:Type} {c:α->α->Option Int} (h:CmpOk c):SWO (ltOf (cfOf c)):=⟨h.irrefl,h.trans,h.ntrans⟩
section
variable {α:Type} [Inhabited α] {e:α->Value} {P:Program}
theorem take_putCells1 (D:Array α) (cur:Array Value) (h:D.size≤cur.size):(putCells e 0 D cur).toList.take D.size=D.toList.map e:=by
 apply List.ext_getElem?
 intro j
 by_cases hj:j<D.size
 .rw[List.getElem?_take_of_lt hj,Array.getElem?_toList]
  simp[putCells,hj,show j<cur.size by omega]
 .rw[List.getElem?_take_eq_none (by omega),List.getElem?_eq_none (by simp;omega)]
theorem sort1_fun {f:Nat} {rs:List Value} {S:List α->List α} (hS: ∀zs,(S zs).length=zs.length) {encA:α->List AV} (hA: ∀x,encA x=[.exact (e x)])
  (hC: ∀(b c:Nat) (zs:List α) (w:World),zs≠[]->Go.Sort.Holds e w b 0 zs.toArray->b<w.heap.size->zs.length<4611686018427387904->
   Calls P f (.slice (some ⟨b,0,none⟩) zs.length c::rs).toArray w λ x w'=>x= .returned (.tuple #[])/\ ∃n os,w'=sortWorld e w b 0 n (S zs).toArray os)
  (hN: ∀(p:Option Addr) (c:Nat) (w:World),Calls P f (.slice p 0 c::rs).toArray w λ x w'=>x= .returned (.tuple #[])/\w'=w)
  (v:Value) (xs:List α) (hl:xs.length<4611686018427387904) (t:TypeId):
  Fun P f (.exact v::rs.map AV.exact) [vecT P t 1 encA v xs] (λ a s=>a= .tup []/\s=[vecT P t 1 encA v (S xs)]):=by
 intro F w vs hg hfit
 have hS0:S []=[]:=List.length_eq_zero_iff.1 (hS [])
 match vs,hfit with
 |v'::us,⟨e1,e2⟩=>
 have e3:us=rs:=fit_ex_eq e2
 have e4:v'=v:=e1
 clear e1 e2
 subst e3 e4
 by_cases hx:xs=[]
 .subst hx
  obtain⟨us,hown,hf⟩:=hg.items _ List.mem_cons_self
  have hv: ∃p cap,v'= .slice p 0 cap:=by
   rcases hown.2 with⟨rfl,_⟩|⟨q,cap,cur,rfl,_⟩
   .exact⟨none,0,rfl⟩
   .exact⟨_,cap,rfl⟩
  obtain⟨p,cap,rfl⟩:=hv
  refine(hN p cap w).mono λ x w' ⟨he,hw⟩=> ?_
  subst hw
  refine⟨_,he,_,_,⟨rfl,rfl⟩, ?_,(Keeps.refl noB w').mono (λ _ _ h=>h.elim), ?_,⟨[],rfl,trivial⟩⟩
  .rw[hS0];exact hg
  .rw[hS0];exact λ _ h _=>h
 .obtain⟨b,c,cur,us,hv,hb,hnc,hcm,hcs,htk,hf⟩:=vec_cells (hg.items _ List.mem_cons_self) hx
  subst hv
  have hflat: ∀ys:List α,ys.flatMap encA=(ys.map e).map AV.exact:=by
   intro ys
   induction ys with
   |nil=>rfl
   |cons y ys ih=>rw[List.flatMap_cons,List.map_cons,List.map_cons,ih,hA];rfl
  rw[hflat]at hf
  have hus:=fit_ex_eq hf
  subst hus
  rw[Nat.mul_one]at htk hcs
  have hH:Go.Sort.Holds e w b 0 xs.toArray:=by
   intro j hj
   have hj':j<xs.length:=by simpa using hj
   constructor
   .rw[cell_of_row _ b _ _ _ (0,0) hb,Nat.zero_add]
    have e4:(cur.toList.take xs.length)[j]?=(xs.map e)[j]?:=by rw[htk]
    rw[List.getElem?_take_of_lt hj',List.getElem?_map,List.getElem?_eq_getElem hj']at e4
    rw[getElem!_pos xs.toArray j (by simpa using hj')]
    simpa using e4
   .simp[World.frozen?,hb]
  have hblt:=(Array.getElem?_eq_some_iff.1 hb).1
  refine(hC b c xs w hx hH hblt hl).mono λ x w' ⟨he,n,os,hw⟩=> ?_
  generalize hys:S xs=ys at hw⊢
  have hyl:ys.length=xs.length:=by rw[←hys];exact hS xs
  subst hw
  have hheap:(sortWorld e w b 0 n ys.toArray os).heap[b]?=some (.cells (putCells e 0 ys.toArray cur) (elemOfT P t) (0,0)):=by
   unfold sortWorld
   rw[heap_grow_old _ _ (by simpa using hblt)]
   simp[putRow,mapBlock,Sort.ahead,Array.getElem?_modify,hb,onCells]
  have hkp:Keeps (λ q=>q∈(vecT P t 1 encA (.slice (some ⟨b,0,none⟩) xs.length c) xs).own) w (sortWorld e w b 0 n ys.toArray os):=by
   refine⟨rfl,rfl,rfl,Nat.le_add_right _ _, ?_,λ q hlt hn=> ?_⟩
   .simp[sortWorld,grow]
   .have hne:q≠b:=λ e=>hn (by simp[vecT,vecI,Value.ownBlock,e])
    unfold sortWorld
    rw[heap_grow_old _ _ (by simpa using hlt)]
    simp[putRow,mapBlock,Sort.ahead,Array.getElem?_modify,Ne.symm hne]
  have hown:(sortWorld e w b 0 n ys.toArray os).ownsRow 0 (elemOfT P t) 1 (.slice (some ⟨b,0,none⟩) xs.length c) ys.length (ys.map e):=by
   refine⟨by simp, .inr ⟨b,c,_,by rw[hyl],Nat.zero_le _,hheap,by rw[hyl];exact hnc,hcm,by simp[putCells,hcs], ?_⟩⟩
   have:=take_putCells1 (e:=e) ys.toArray cur (by simp[hyl];omega)
   simpa using this
  obtain⟨g1,g2,g3⟩:=zhy (it':=vecT P t 1 encA (.slice (some ⟨b,0,none⟩) xs.length c) ys) hg hkp (λ q hq=>⟨by simp[vecT,vecI,Value.ownBlock]at hq;subst hq;simpa[sortWorld,grow]using Nat.lt_of_lt_of_le hblt (Nat.le_add_right _ _),λ _=>hq⟩) (by simp[vecT,vecI,Value.ownBlock])
   (λ hkk hMM=>⟨ys.map e,hown,by rw[hflat];exact ex_fit_ex _⟩)
  exact⟨_,he,_,_,⟨rfl,rfl⟩,g1,g2,g3,⟨[],rfl,trivial⟩⟩
theorem sortInts_fun {ρ:Go.Shelf.Ren} (L:SlLaysM.n5 P ρ) {encA:Int->List AV} (hA: ∀x,encA x=[.exact (.int .i64 x)]) (v:Value) (xs:List Int) (hl:xs.length<4611686018427387904) (t:TypeId):
  Fun P (ρ.f 5) [.exact v] [vecT P t 1 encA v xs] (λ a s=>a= .tup []/\s=[vecT P t 1 encA v (xs.mergeSort λ x y=>decide (x≤y))]):=
 sort1_fun (rs:=[]) (S:=λ zs=>zs.mergeSort λ x y=>decide (x≤y)) (λ _=>List.length_mergeSort _) hA (λ b c zs w _ hH hb hz=>AnyM.slices_Sort_int L b 0 c zs w hH hb hz) (λ p c w=>AnyM.slices_Sort_int_none L p c w) v xs hl t
theorem sortFunc1_fun {ρ:Go.Shelf.Ren} (L:SlLaysF.n6 P ρ) (L0:SlLaysF0.n6 P ρ) {encA:α->List AV} (hA: ∀x,encA x=[.exact (e x)]) (h1:OneCell e) (cf:α->α->Int) (hO:SWO (ltOf cf)) (hT: ∀x y,(ltOf cf) x y=false->(ltOf cf) y x=false->x=y) (g:Nat) (eg: ∀args w,(callFunc g args).run P w= .ok (.enter g args) w)
  (hcmp: ∀x y,Pure P g [.exact (e x), .exact (e y)] (.exact (.int .i64 (cf x y)))) (v:Value) (xs:List α) (hl:xs.length<4611686018427387904) (t:TypeId):
  Fun P (ρ.f 6) [.exact v, .exact (.func (.func g) #[] #[])] [vecT P t 1 encA v xs] (λ a s=>a= .tup []/\s=[vecT P t 1 encA v (xs.mergeSort λ x y=> !(ltOf cf) y x)]):=
 sort1_fun (rs:=[.func (.func g) #[] #[]]) (S:=λ zs=>zs.mergeSort λ x y=> !(ltOf cf) y x) (λ _=>List.length_mergeSort _) hA
  (λ b c zs w _ hH hb hz=>by
   have:=Any.slices_SortFunc_total L e h1 cf hO g #[] b 0 c zs.toArray w eg (cmpLays1_pure hcmp) hH hb (by simpa using hz) hT
   simpa using this) (λ p c w=>AnyF.slices_SortFunc_none L0 p c (.func (.func g) #[] #[]) w) v xs hl t
theorem m_sortI_ok {ρ:Go.Shelf.Ren} (L:SlLaysM.n5 P ρ) {encA:Int->List AV} (hA: ∀x,encA x=[.exact (.int .i64 x)]) (t:TypeId) {v:Value} (xs r:List Int) (h:m_sortI xs=some r):
  Fun P (ρ.f 5) [.exact v] [vecT P t 1 encA v xs] (λ a s=>a= .tup []/\s=[vecT P t 1 encA v r]):=by
 obtain⟨h1,h2⟩:=zag h
 cases h2
 exact sortInts_fun L hA v xs h1 t
theorem m_sortby1_ok {ρ:Go.Shelf.Ren} (L:SlLaysF.n6 P ρ) (L0:SlLaysF0.n6 P ρ) {encA:α->List AV} (hA: ∀x,encA x=[.exact (e x)]) (h1:OneCell e) (g:Nat) (eg: ∀args w,(callFunc g args).run P w= .ok (.enter g args) w) (t:TypeId) {c:α->α->Option Int}
  (hc: ∀x y r,c x y=some r->Pure P g [.exact (e x), .exact (e y)] (.exact (.int .i64 r))) {v:Value} (xs r:List α) (h:m_sortby c xs=some r):
  Fun P (ρ.f 6) [.exact v, .exact (.func (.func g) #[] #[])] [vecT P t 1 encA v xs] (λ a s=>a= .tup []/\s=[vecT P t 1 encA v r]):=by
 obtain⟨hl,ho,rfl⟩:=m_sortby_some h
 exact sortFunc1_fun L L0 hA h1 (cfOf c) ho.swo ho.total g eg (λ x y=>by
  obtain⟨r,hr⟩:=ho.all x y
  have:cfOf c x y=r:=by unfold cfOf;rw[hr];rfl
  rw[this];exact hc x y r hr) v xs hl t
theorem m_sortbyK_ok {ρ:Go.Shelf.Ren} (L:SlLaysF0.n6 P ρ) {k:Nat} {enc:α->List Value} (aE: ∀w,(isAgg (ρ.t 24)).run P w= .ok true w) (zE: ∀w,(Go.sizeOf (ρ.t 24)).run P w= .ok k w) {encA:α->List AV} (hA: ∀x,encA x=(enc x).map AV.exact) (hk: ∀x,(enc x).length=k)
  (h1: ∀x, ∀v∈enc x,v.oneCell'=true) (g:Nat) (eg: ∀args w,(callFunc g args).run P w= .ok (.enter g args) w) (t:TypeId) {c:α->α->Option Int}
  (hc: ∀x y r,c x y=some r->Pure P g [.agg (encA x), .agg (encA y)] (.exact (.int .i64 r))) {v:Value} (xs r:List α) (h:m_sortby c xs=some r):
  Fun P (ρ.f 6) [.exact v, .exact (.func (.func g) #[] #[])] [vecT P t k encA v xs] (λ a s=>a= .tup []/\s=[vecT P t k encA v r]):=by
 obtain⟨hl,ho,rfl⟩:=m_sortby_some h
 exact sortFunc_fun L aE zE hA hk h1 (cfOf c) ho.swo ho.total g eg (λ x y=>by
  obtain⟨r,hr⟩:=ho.all x y
  have:cfOf c x y=r:=by unfold cfOf;rw[hr];rfl
  rw[this];exact hc x y r hr) v xs hl t
end
end
end Go.Proofs.YtloigebekdkijaaGreat
