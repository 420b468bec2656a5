/- Parts, merged. -/
import Derived.Test.YtloigebekdkijaaGreatQC4
import Derived.Test.YtloigebekdkijaaGreatQC1
namespace Go.Proofs.YtloigebekdkijaaGreat
open _root_.Go.Proofs.Tryz
noncomputable section
open Go.RowKit
abbrev zaa (x:List UInt8):List AV:=[.exact (.string (bs x))]
theorem zbd (x:List UInt8):(zaa x).length=1:=rfl
theorem zcr (x:List UInt8):OneC (zaa x):=(OneC.str OneC.nil)
abbrev zbf (x:Int):List AV:=[.exact (.int .i64 x)]
theorem zgy (x:Int):(zbf x).length=1:=rfl
theorem oc_c_int (x:Int):OneC (zbf x):=(OneC.int OneC.nil)
abbrev c_cspcheckgen_Choices (x:(List Int)×Int):List AV:=[.row 1 zbf x.1, .exact (.int .i64 x.2)]
abbrev zit (x:UInt8):List AV:=[.exact (.int .u8 (UInt8.toNat x:Int))]
theorem len_c_uint8 (x:UInt8):(zit x).length=1:=rfl
theorem oc_c_uint8 (x:UInt8):OneC (zit x):=(OneC.int OneC.nil)
abbrev zak (x:Int×Int):List AV:=[.exact (.int .i64 x.1), .exact (.int .i64 x.2)]
theorem zco (x:Int×Int):(zak x).length=2:=rfl
theorem ziq (x:Int×Int):OneC (zak x):=(OneC.int (OneC.int OneC.nil))
abbrev zal (x:Int×Int):List AV:=[.exact (.int .i64 x.1), .exact (.int .i64 x.2)]
theorem len_c_api_Above (x:Int×Int):(zal x).length=2:=rfl
theorem zmz (x:Int×Int):OneC (zal x):=(OneC.int (OneC.int OneC.nil))
abbrev zam (x:Int×(List UInt8)):List AV:=[.exact (.int .i64 x.1), .exact (.string (bs x.2))]
theorem zbw (x:Int×(List UInt8)):(zam x).length=2:=rfl
theorem zfm (x:Int×(List UInt8)):OneC (zam x):=(OneC.int (OneC.str OneC.nil))
theorem heq_c_api_Offer (x0 y0:Int) (x1 y1:List UInt8) (w:World):(Op.equal 34 (.agg #[.int .i64 x0, .string (bs x1)]) (.agg #[.int .i64 y0, .string (bs y1)])).run Tryz.prog w= .ok (decide (x0=y0/\x1=y1)) w:=by
  have s0:(sizeOf 3).run Tryz.prog w= .ok 1 w:=by kernel_rfl
  have s1:(sizeOf 22).run Tryz.prog w= .ok 1 w:=by kernel_rfl
  have e0: ∀a b:Int,(Op.equalIn 9999 3 (.int .i64 a) (.int .i64 b)).run Tryz.prog w= .ok (a ==b) w:=λ a b=>run_equalIn_int w 9998 3 .i64 .i64 a b underlying3
  have e1: ∀a b:List UInt8,(Op.equalIn 9999 22 (.string (bs a)) (.string (bs b))).run Tryz.prog w= .ok (a ==b) w:=λ a b=>by
    rw[run_equalIn_string w 9998 22 (bs a) (bs b) underlying22,bs_toList,bs_toList]
  rw[Op.equal,Op.maxDepth,show(10000:Nat)=9999+1 from rfl]
  rw[show Op.equalIn (9999+1) 34 (.agg #[.int .i64 x0, .string (bs x1)]) (.agg #[.int .i64 y0, .string (bs y1)])=_ from by rw[Op.equalIn]]
  simp only[Sem.run_bind,run_underlying underlying34,Result.andThen_ok,s0,s1]
  have p0: ∀(a:Int) (b:List UInt8) (w:World),(part 3 #[.int .i64 a, .string (bs b)] 0).run Tryz.prog w= .ok (.int .i64 a) w:=λ a b w=>run_part1 (by kernel_rfl) rfl
  have p1: ∀(a:Int) (b:List UInt8) (w:World),(part 22 #[.int .i64 a, .string (bs b)] 1).run Tryz.prog w= .ok (.string (bs b)) w:=λ a b w=>run_part1 (by kernel_rfl) rfl
  simp[p0,p1,e0,e1]
  by_cases h1:x0=y0 <;>by_cases h2:x1=y1 <;>simp[h1,h2]
theorem eq_c_api_Offer (a b:Int×List UInt8) {M:BSet} {w:World} {vs us:List Value} (h1:Fit M w (zam a) vs) (h2:Fit M w (zam b) us):(Op.equal 34 (.agg vs.toArray) (.agg us.toArray)).run Tryz.prog w= .ok (decide (a=b)) w:=by
  match vs,h1 with
  |[u0,u1],⟨g0,g1,_⟩=>
    match us,h2 with
    |[v0,v1],⟨k0,k1,_⟩=>
      obtain rfl:u0=_:=g0
      obtain rfl:u1=_:=g1
      obtain rfl:v0=_:=k0
      obtain rfl:v1=_:=k1
      show(Op.equal 34 (.agg #[.int .i64 a.1, .string (bs a.2)]) (.agg #[.int .i64 b.1, .string (bs b.2)])).run Tryz.prog w=_
      rw[heq_c_api_Offer]
      congr 1
      simp[Prod.ext_iff]
theorem heq_c_api_Pair (x0 x1 y0 y1:Int) (w:World):(Op.equal 60 (.agg #[.int .i64 x0, .int .i64 x1]) (.agg #[.int .i64 y0, .int .i64 y1])).run Tryz.prog w= .ok (decide (x0=y0/\x1=y1)) w:=by
  have s0:(sizeOf 3).run Tryz.prog w= .ok 1 w:=by kernel_rfl
  have s1:(sizeOf 3).run Tryz.prog w= .ok 1 w:=by kernel_rfl
  have e0: ∀a b:Int,(Op.equalIn 9999 3 (.int .i64 a) (.int .i64 b)).run Tryz.prog w= .ok (a ==b) w:=λ a b=>run_equalIn_int w 9998 3 .i64 .i64 a b underlying3
  have e1: ∀a b:Int,(Op.equalIn 9999 3 (.int .i64 a) (.int .i64 b)).run Tryz.prog w= .ok (a ==b) w:=λ a b=>run_equalIn_int w 9998 3 .i64 .i64 a b underlying3
  rw[Op.equal,Op.maxDepth,show(10000:Nat)=9999+1 from rfl]
  rw[show Op.equalIn (9999+1) 60 (.agg #[.int .i64 x0, .int .i64 x1]) (.agg #[.int .i64 y0, .int .i64 y1])=_ from by rw[Op.equalIn]]
  simp only[Sem.run_bind,run_underlying underlying60,Result.andThen_ok,s0,s1]
  have p0: ∀(a b:Int) (w:World),(part 3 #[.int .i64 a, .int .i64 b] 0).run Tryz.prog w= .ok (.int .i64 a) w:=λ a b w=>run_part1 (by kernel_rfl) rfl
  have p1: ∀(a b:Int) (w:World),(part 3 #[.int .i64 a, .int .i64 b] 1).run Tryz.prog w= .ok (.int .i64 b) w:=λ a b w=>run_part1 (by kernel_rfl) rfl
  simp[p0,p1,e0,e1]
  by_cases h1:x0=y0 <;>by_cases h2:x1=y1 <;>simp[h1,h2]
theorem eq_c_api_Pair (a b:Int×Int) {M:BSet} {w:World} {vs us:List Value} (h1:Fit M w (zak a) vs) (h2:Fit M w (zak b) us):(Op.equal 60 (.agg vs.toArray) (.agg us.toArray)).run Tryz.prog w= .ok (decide (a=b)) w:=eq_pair heq_c_api_Pair a b h1 h2
theorem heq_c_api_Above (x0 x1 y0 y1:Int) (w:World):(Op.equal 58 (.agg #[.int .i64 x0, .int .i64 x1]) (.agg #[.int .i64 y0, .int .i64 y1])).run Tryz.prog w= .ok (decide (x0=y0/\x1=y1)) w:=by
  have s0:(sizeOf 3).run Tryz.prog w= .ok 1 w:=by kernel_rfl
  have s1:(sizeOf 3).run Tryz.prog w= .ok 1 w:=by kernel_rfl
  have e0: ∀a b:Int,(Op.equalIn 9999 3 (.int .i64 a) (.int .i64 b)).run Tryz.prog w= .ok (a ==b) w:=λ a b=>run_equalIn_int w 9998 3 .i64 .i64 a b underlying3
  have e1: ∀a b:Int,(Op.equalIn 9999 3 (.int .i64 a) (.int .i64 b)).run Tryz.prog w= .ok (a ==b) w:=λ a b=>run_equalIn_int w 9998 3 .i64 .i64 a b underlying3
  rw[Op.equal,Op.maxDepth,show(10000:Nat)=9999+1 from rfl]
  rw[show Op.equalIn (9999+1) 58 (.agg #[.int .i64 x0, .int .i64 x1]) (.agg #[.int .i64 y0, .int .i64 y1])=_ from by rw[Op.equalIn]]
  simp only[Sem.run_bind,run_underlying underlying58,Result.andThen_ok,s0,s1]
  have p0: ∀(a b:Int) (w:World),(part 3 #[.int .i64 a, .int .i64 b] 0).run Tryz.prog w= .ok (.int .i64 a) w:=λ a b w=>run_part1 (by kernel_rfl) rfl
  have p1: ∀(a b:Int) (w:World),(part 3 #[.int .i64 a, .int .i64 b] 1).run Tryz.prog w= .ok (.int .i64 b) w:=λ a b w=>run_part1 (by kernel_rfl) rfl
  simp[p0,p1,e0,e1]
  by_cases h1:x0=y0 <;>by_cases h2:x1=y1 <;>simp[h1,h2]
theorem eq_c_api_Above (a b:Int×Int) {M:BSet} {w:World} {vs us:List Value} (h1:Fit M w (zal a) vs) (h2:Fit M w (zal b) us):(Op.equal 58 (.agg vs.toArray) (.agg us.toArray)).run Tryz.prog w= .ok (decide (a=b)) w:=eq_pair heq_c_api_Above a b h1 h2
end
noncomputable section
open Go.RowKit Go.Sort
set_option maxRecDepth 100000
def lay0_ren:Go.Shelf.Ren:=⟨λ|6=>174|14=>197|15=>111|20=>204|21=>205|22=>206|23=>207|24=>208|25=>209|26=>210|27=>211|28=>148|29=>149|46=>221|47=>181|48=>182|49=>222|50=>223|57=>229|n=>n,λ|0=>0|3=>3|4=>4|5=>5|9=>9|22=>25|24=>58|25=>154|39=>92|45=>128|46=>129|50=>124|53=>136|55=>102|66=>158|70=>162|76=>173|77=>174|n=>n,λ n=>n⟩
theorem lay0:Go.Proofs.SlLaysF0.n6 Tryz.prog lay0_ren where
  mixed:=by kernel_rfl
  f6:=⟨Tryz.f174.name,by kernel_rfl,func174.trans (congrArg some (by kernel_rfl))⟩
  f14:=⟨Tryz.f197.name,by kernel_rfl,func197.trans (congrArg some (by kernel_rfl))⟩
  f15:=func111.trans (congrArg some (by kernel_rfl))
  f20:=⟨Tryz.f204.name,by kernel_rfl,func204.trans (congrArg some (by kernel_rfl))⟩
  f21:=⟨Tryz.f205.name,by kernel_rfl,func205.trans (congrArg some (by kernel_rfl))⟩
  f22:=⟨Tryz.f206.name,by kernel_rfl,func206.trans (congrArg some (by kernel_rfl))⟩
  f23:=⟨Tryz.f207.name,by kernel_rfl,func207.trans (congrArg some (by kernel_rfl))⟩
  f24:=⟨Tryz.f208.name,by kernel_rfl,func208.trans (congrArg some (by kernel_rfl))⟩
  f25:=⟨Tryz.f209.name,by kernel_rfl,func209.trans (congrArg some (by kernel_rfl))⟩
  f26:=⟨Tryz.f210.name,by kernel_rfl,func210.trans (congrArg some (by kernel_rfl))⟩
  f27:=⟨Tryz.f211.name,by kernel_rfl,func211.trans (congrArg some (by kernel_rfl))⟩
  f28:=func148.trans (congrArg some (by kernel_rfl))
  f29:=func149.trans (congrArg some (by kernel_rfl))
  f46:=⟨Tryz.f221.name,by kernel_rfl,func221.trans (congrArg some (by kernel_rfl))⟩
  f47:=func181.trans (congrArg some (by kernel_rfl))
  f48:=func182.trans (congrArg some (by kernel_rfl))
  f49:=⟨Tryz.f222.name,by kernel_rfl,func222.trans (congrArg some (by kernel_rfl))⟩
  f50:=⟨Tryz.f223.name,by kernel_rfl,func223.trans (congrArg some (by kernel_rfl))⟩
  f57:=⟨Tryz.f229.name,by kernel_rfl,func229.trans (congrArg some (by kernel_rfl))⟩
  t0:=underlying0
  a0:=Tryz.isAgg0
  z0:=Tryz.sizeOf0
  v0:=zeroValue0
  t3:=underlying3
  a3:=Tryz.isAgg3
  z3:=Tryz.sizeOf3
  v3:=zeroValue3
  t4:=underlying4
  a4:=Tryz.isAgg4
  z4:=Tryz.sizeOf4
  v4:=zeroValue4
  t5:=underlying5
  a5:=Tryz.isAgg5
  z5:=Tryz.sizeOf5
  v5:=zeroValue5
  t9:=underlying9
  a9:=Tryz.isAgg9
  z9:=Tryz.sizeOf9
  v9:=zeroValue9
  t22:=underlying25
  a22:=Tryz.isAgg25
  z22:=Tryz.sizeOf25
  v22:=zeroValue25
  t25:=underlying154
  a25:=Tryz.isAgg154
  z25:=Tryz.sizeOf154
  v25:=zeroValue154
  t39:=underlying92
  a39:=Tryz.isAgg92
  z39:=Tryz.sizeOf92
  v39:=zeroValue92
  t45:=underlying128
  a45:=Tryz.isAgg128
  z45:=Tryz.sizeOf128
  v45:=zeroValue128
  t46:=underlying129
  a46:=Tryz.isAgg129
  z46:=Tryz.sizeOf129
  v46:=zeroValue129
  t50:=underlying124
  a50:=Tryz.isAgg124
  z50:=Tryz.sizeOf124
  v50:=zeroValue124
  t53:=underlying136
  a53:=Tryz.isAgg136
  z53:=Tryz.sizeOf136
  v53:=zeroValue136
  t55:=underlying102
  a55:=Tryz.isAgg102
  z55:=Tryz.sizeOf102
  v55:=zeroValue102
  t66:=underlying158
  a66:=Tryz.isAgg158
  z66:=Tryz.sizeOf158
  v66:=zeroValue158
  t70:=underlying162
  a70:=Tryz.isAgg162
  z70:=Tryz.sizeOf162
  v70:=zeroValue162
  t76:=underlying173
  a76:=Tryz.isAgg173
  z76:=Tryz.sizeOf173
  v76:=zeroValue173
  t77:=underlying174
  a77:=Tryz.isAgg174
  z77:=Tryz.sizeOf174
  v77:=zeroValue174
theorem m_sort_api_Above_ok (hc: ∀(x y:Int×Int) (r:Int),zes x y=some r->Pure Tryz.prog 175 [(.agg (zal x)),(.agg (zal y))] (.exact (.int .i64 r))) {w0:Value} (a0 r:List (Int×Int)) (h:m_sortby zes a0=some r):Fun Tryz.prog 174 [.exact w0, .exact (.func (.func 175) #[] #[])] [vecT Tryz.prog 25 2 zal w0 a0] (λ a s=>a= .tup []/\s=[vecT Tryz.prog 25 2 zal w0 r]):=
  m_sortbyK_ok (enc:=(λ x:Int×Int=>[(.int .i64 x.1),(.int .i64 x.2)])) lay0 Tryz.isAgg58 Tryz.sizeOf58 (λ _=>rfl) (λ _=>rfl) (λ x v hv=>by simp at hv;rcases hv with rfl|rfl <;>rfl) 175 (λ args w=>by exact enters_of func175 (by kernel_rfl) rfl args w) 25 hc a0 r h
def lay1_ren:Go.Shelf.Ren:=⟨λ|6=>77|14=>116|15=>111|20=>151|21=>152|22=>153|23=>154|24=>155|25=>156|26=>157|27=>158|28=>148|29=>149|46=>185|47=>181|48=>182|49=>186|50=>187|57=>200|n=>n,λ|0=>0|3=>3|4=>4|5=>5|9=>9|22=>27|24=>34|25=>95|39=>92|45=>128|46=>129|50=>124|53=>136|55=>102|66=>158|70=>162|76=>173|77=>174|n=>n,λ n=>n⟩
theorem lay1:Go.Proofs.SlLaysF0.n6 Tryz.prog lay1_ren where
  mixed:=by kernel_rfl
  f6:=⟨Tryz.f77.name,by kernel_rfl,func77.trans (congrArg some (by kernel_rfl))⟩
  f14:=⟨Tryz.f116.name,by kernel_rfl,func116.trans (congrArg some (by kernel_rfl))⟩
  f15:=func111.trans (congrArg some (by kernel_rfl))
  f20:=⟨Tryz.f151.name,by kernel_rfl,func151.trans (congrArg some (by kernel_rfl))⟩
  f21:=⟨Tryz.f152.name,by kernel_rfl,func152.trans (congrArg some (by kernel_rfl))⟩
  f22:=⟨Tryz.f153.name,by kernel_rfl,func153.trans (congrArg some (by kernel_rfl))⟩
  f23:=⟨Tryz.f154.name,by kernel_rfl,func154.trans (congrArg some (by kernel_rfl))⟩
  f24:=⟨Tryz.f155.name,by kernel_rfl,func155.trans (congrArg some (by kernel_rfl))⟩
  f25:=⟨Tryz.f156.name,by kernel_rfl,func156.trans (congrArg some (by kernel_rfl))⟩
  f26:=⟨Tryz.f157.name,by kernel_rfl,func157.trans (congrArg some (by kernel_rfl))⟩
  f27:=⟨Tryz.f158.name,by kernel_rfl,func158.trans (congrArg some (by kernel_rfl))⟩
  f28:=func148.trans (congrArg some (by kernel_rfl))
  f29:=func149.trans (congrArg some (by kernel_rfl))
  f46:=⟨Tryz.f185.name,by kernel_rfl,func185.trans (congrArg some (by kernel_rfl))⟩
  f47:=func181.trans (congrArg some (by kernel_rfl))
  f48:=func182.trans (congrArg some (by kernel_rfl))
  f49:=⟨Tryz.f186.name,by kernel_rfl,func186.trans (congrArg some (by kernel_rfl))⟩
  f50:=⟨Tryz.f187.name,by kernel_rfl,func187.trans (congrArg some (by kernel_rfl))⟩
  f57:=⟨Tryz.f200.name,by kernel_rfl,func200.trans (congrArg some (by kernel_rfl))⟩
  t0:=underlying0
  a0:=Tryz.isAgg0
  z0:=Tryz.sizeOf0
  v0:=zeroValue0
  t3:=underlying3
  a3:=Tryz.isAgg3
  z3:=Tryz.sizeOf3
  v3:=zeroValue3
  t4:=underlying4
  a4:=Tryz.isAgg4
  z4:=Tryz.sizeOf4
  v4:=zeroValue4
  t5:=underlying5
  a5:=Tryz.isAgg5
  z5:=Tryz.sizeOf5
  v5:=zeroValue5
  t9:=underlying9
  a9:=Tryz.isAgg9
  z9:=Tryz.sizeOf9
  v9:=zeroValue9
  t22:=underlying27
  a22:=Tryz.isAgg27
  z22:=Tryz.sizeOf27
  v22:=zeroValue27
  t25:=underlying95
  a25:=Tryz.isAgg95
  z25:=Tryz.sizeOf95
  v25:=zeroValue95
  t39:=underlying92
  a39:=Tryz.isAgg92
  z39:=Tryz.sizeOf92
  v39:=zeroValue92
  t45:=underlying128
  a45:=Tryz.isAgg128
  z45:=Tryz.sizeOf128
  v45:=zeroValue128
  t46:=underlying129
  a46:=Tryz.isAgg129
  z46:=Tryz.sizeOf129
  v46:=zeroValue129
  t50:=underlying124
  a50:=Tryz.isAgg124
  z50:=Tryz.sizeOf124
  v50:=zeroValue124
  t53:=underlying136
  a53:=Tryz.isAgg136
  z53:=Tryz.sizeOf136
  v53:=zeroValue136
  t55:=underlying102
  a55:=Tryz.isAgg102
  z55:=Tryz.sizeOf102
  v55:=zeroValue102
  t66:=underlying158
  a66:=Tryz.isAgg158
  z66:=Tryz.sizeOf158
  v66:=zeroValue158
  t70:=underlying162
  a70:=Tryz.isAgg162
  z70:=Tryz.sizeOf162
  v70:=zeroValue162
  t76:=underlying173
  a76:=Tryz.isAgg173
  z76:=Tryz.sizeOf173
  v76:=zeroValue173
  t77:=underlying174
  a77:=Tryz.isAgg174
  z77:=Tryz.sizeOf174
  v77:=zeroValue174
theorem m_sort_api_Offer_ok (hc: ∀(x y:Int×(List UInt8)) (r:Int),zdg x y=some r->Pure Tryz.prog 78 [(.agg (zam x)),(.agg (zam y))] (.exact (.int .i64 r))) {w0:Value} (a0 r:List (Int×(List UInt8))) (h:m_sortby zdg a0=some r):Fun Tryz.prog 77 [.exact w0, .exact (.func (.func 78) #[] #[])] [vecT Tryz.prog 27 2 zam w0 a0] (λ a s=>a= .tup []/\s=[vecT Tryz.prog 27 2 zam w0 r]):=
  m_sortbyK_ok (enc:=(λ x:Int×(List UInt8)=>[(.int .i64 x.1),(.string (bs x.2))])) lay1 Tryz.isAgg34 Tryz.sizeOf34 (λ _=>rfl) (λ _=>rfl) (λ x v hv=>by simp at hv;rcases hv with rfl|rfl <;>rfl) 78 (λ args w=>by exact enters_of func78 (by kernel_rfl) rfl args w) 27 hc a0 r h
def lay2_ren:Go.Shelf.Ren:=⟨λ|6=>193|14=>203|15=>111|20=>213|21=>214|22=>215|23=>216|24=>217|25=>218|26=>219|27=>220|28=>148|29=>149|46=>226|47=>181|48=>182|49=>227|50=>228|57=>230|n=>n,λ|0=>0|3=>3|4=>4|5=>5|9=>9|22=>26|24=>22|25=>90|39=>92|45=>128|46=>129|50=>124|53=>136|55=>102|66=>158|70=>162|76=>173|77=>174|n=>n,λ n=>n⟩
theorem lay2:Go.Proofs.SlLaysF.n6 Tryz.prog lay2_ren where
  mixed:=by kernel_rfl
  f6:=⟨Tryz.f193.name,by kernel_rfl,func193.trans (congrArg some (by kernel_rfl))⟩
  f14:=⟨Tryz.f203.name,by kernel_rfl,func203.trans (congrArg some (by kernel_rfl))⟩
  f15:=func111.trans (congrArg some (by kernel_rfl))
  f20:=⟨Tryz.f213.name,by kernel_rfl,func213.trans (congrArg some (by kernel_rfl))⟩
  f21:=⟨Tryz.f214.name,by kernel_rfl,func214.trans (congrArg some (by kernel_rfl))⟩
  f22:=⟨Tryz.f215.name,by kernel_rfl,func215.trans (congrArg some (by kernel_rfl))⟩
  f23:=⟨Tryz.f216.name,by kernel_rfl,func216.trans (congrArg some (by kernel_rfl))⟩
  f24:=⟨Tryz.f217.name,by kernel_rfl,func217.trans (congrArg some (by kernel_rfl))⟩
  f25:=⟨Tryz.f218.name,by kernel_rfl,func218.trans (congrArg some (by kernel_rfl))⟩
  f26:=⟨Tryz.f219.name,by kernel_rfl,func219.trans (congrArg some (by kernel_rfl))⟩
  f27:=⟨Tryz.f220.name,by kernel_rfl,func220.trans (congrArg some (by kernel_rfl))⟩
  f28:=func148.trans (congrArg some (by kernel_rfl))
  f29:=func149.trans (congrArg some (by kernel_rfl))
  f46:=⟨Tryz.f226.name,by kernel_rfl,func226.trans (congrArg some (by kernel_rfl))⟩
  f47:=func181.trans (congrArg some (by kernel_rfl))
  f48:=func182.trans (congrArg some (by kernel_rfl))
  f49:=⟨Tryz.f227.name,by kernel_rfl,func227.trans (congrArg some (by kernel_rfl))⟩
  f50:=⟨Tryz.f228.name,by kernel_rfl,func228.trans (congrArg some (by kernel_rfl))⟩
  f57:=⟨Tryz.f230.name,by kernel_rfl,func230.trans (congrArg some (by kernel_rfl))⟩
  t0:=underlying0
  a0:=Tryz.isAgg0
  z0:=Tryz.sizeOf0
  v0:=zeroValue0
  t3:=underlying3
  a3:=Tryz.isAgg3
  z3:=Tryz.sizeOf3
  v3:=zeroValue3
  t4:=underlying4
  a4:=Tryz.isAgg4
  z4:=Tryz.sizeOf4
  v4:=zeroValue4
  t5:=underlying5
  a5:=Tryz.isAgg5
  z5:=Tryz.sizeOf5
  v5:=zeroValue5
  t9:=underlying9
  a9:=Tryz.isAgg9
  z9:=Tryz.sizeOf9
  v9:=zeroValue9
  t22:=underlying26
  a22:=Tryz.isAgg26
  z22:=Tryz.sizeOf26
  v22:=zeroValue26
  a24:=Tryz.isAgg22
  z24:=Tryz.sizeOf22
  t25:=underlying90
  a25:=Tryz.isAgg90
  z25:=Tryz.sizeOf90
  v25:=zeroValue90
  t39:=underlying92
  a39:=Tryz.isAgg92
  z39:=Tryz.sizeOf92
  v39:=zeroValue92
  t45:=underlying128
  a45:=Tryz.isAgg128
  z45:=Tryz.sizeOf128
  v45:=zeroValue128
  t46:=underlying129
  a46:=Tryz.isAgg129
  z46:=Tryz.sizeOf129
  v46:=zeroValue129
  t50:=underlying124
  a50:=Tryz.isAgg124
  z50:=Tryz.sizeOf124
  v50:=zeroValue124
  t53:=underlying136
  a53:=Tryz.isAgg136
  z53:=Tryz.sizeOf136
  v53:=zeroValue136
  t55:=underlying102
  a55:=Tryz.isAgg102
  z55:=Tryz.sizeOf102
  v55:=zeroValue102
  t66:=underlying158
  a66:=Tryz.isAgg158
  z66:=Tryz.sizeOf158
  v66:=zeroValue158
  t70:=underlying162
  a70:=Tryz.isAgg162
  z70:=Tryz.sizeOf162
  v70:=zeroValue162
  t76:=underlying173
  a76:=Tryz.isAgg173
  z76:=Tryz.sizeOf173
  v76:=zeroValue173
  t77:=underlying174
  a77:=Tryz.isAgg174
  z77:=Tryz.sizeOf174
  v77:=zeroValue174
theorem m_sort_api_Value_ok (hc: ∀(x y:List UInt8) (r:Int),zgx x y=some r->Pure Tryz.prog 119 [(.exact (.string (bs x))),(.exact (.string (bs y)))] (.exact (.int .i64 r))) {w0:Value} (a0 r:List (List UInt8)) (h:m_sortby zgx a0=some r):Fun Tryz.prog 193 [.exact w0, .exact (.func (.func 119) #[] #[])] [vecT Tryz.prog 26 1 zaa w0 a0] (λ a s=>a= .tup []/\s=[vecT Tryz.prog 26 1 zaa w0 r]):=
  m_sortby1_ok (e:=λ x:List UInt8=>(.string (bs x))) lay2 { lay2 with } (λ _=>rfl) (λ _=>rfl) 119 (λ args w=>by exact enters_of func119 (by kernel_rfl) rfl args w) 26 hc a0 r h
def lay3_ren:Go.Shelf.Ren:=⟨λ|5=>68|7=>110|8=>111|10=>139|11=>140|12=>141|13=>142|14=>143|15=>144|16=>145|17=>146|18=>147|19=>148|20=>149|30=>180|31=>181|32=>182|33=>183|34=>184|35=>159|40=>199|n=>n,λ|0=>0|3=>3|4=>4|5=>5|9=>9|22=>23|23=>23|25=>3|32=>92|35=>128|36=>129|41=>124|44=>136|46=>102|53=>158|57=>162|63=>173|64=>174|n=>n,λ n=>n⟩
theorem lay3:Go.Proofs.SlLaysM.n5 Tryz.prog lay3_ren where
  mixed:=by kernel_rfl
  f5:=⟨Tryz.f68.name,by kernel_rfl,func68.trans (congrArg some (by kernel_rfl))⟩
  f7:=⟨Tryz.f110.name,by kernel_rfl,func110.trans (congrArg some (by kernel_rfl))⟩
  f8:=func111.trans (congrArg some (by kernel_rfl))
  f10:=⟨Tryz.f139.name,by kernel_rfl,func139.trans (congrArg some (by kernel_rfl))⟩
  f11:=⟨Tryz.f140.name,by kernel_rfl,func140.trans (congrArg some (by kernel_rfl))⟩
  f12:=⟨Tryz.f141.name,by kernel_rfl,func141.trans (congrArg some (by kernel_rfl))⟩
  f13:=⟨Tryz.f142.name,by kernel_rfl,func142.trans (congrArg some (by kernel_rfl))⟩
  f14:=⟨Tryz.f143.name,by kernel_rfl,func143.trans (congrArg some (by kernel_rfl))⟩
  f15:=⟨Tryz.f144.name,by kernel_rfl,func144.trans (congrArg some (by kernel_rfl))⟩
  f16:=⟨Tryz.f145.name,by kernel_rfl,func145.trans (congrArg some (by kernel_rfl))⟩
  f17:=⟨Tryz.f146.name,by kernel_rfl,func146.trans (congrArg some (by kernel_rfl))⟩
  f18:=⟨Tryz.f147.name,by kernel_rfl,func147.trans (congrArg some (by kernel_rfl))⟩
  f19:=func148.trans (congrArg some (by kernel_rfl))
  f20:=func149.trans (congrArg some (by kernel_rfl))
  f30:=⟨Tryz.f180.name,by kernel_rfl,func180.trans (congrArg some (by kernel_rfl))⟩
  f31:=func181.trans (congrArg some (by kernel_rfl))
  f32:=func182.trans (congrArg some (by kernel_rfl))
  f33:=⟨Tryz.f183.name,by kernel_rfl,func183.trans (congrArg some (by kernel_rfl))⟩
  f34:=⟨Tryz.f184.name,by kernel_rfl,func184.trans (congrArg some (by kernel_rfl))⟩
  f35:=⟨Tryz.f159.name,by kernel_rfl,func159.trans (congrArg some (by kernel_rfl))⟩
  f40:=⟨Tryz.f199.name,by kernel_rfl,func199.trans (congrArg some (by kernel_rfl))⟩
  t0:=underlying0
  a0:=Tryz.isAgg0
  z0:=Tryz.sizeOf0
  v0:=zeroValue0
  t3:=underlying3
  a3:=Tryz.isAgg3
  z3:=Tryz.sizeOf3
  v3:=zeroValue3
  t4:=underlying4
  a4:=Tryz.isAgg4
  z4:=Tryz.sizeOf4
  v4:=zeroValue4
  t5:=underlying5
  a5:=Tryz.isAgg5
  z5:=Tryz.sizeOf5
  v5:=zeroValue5
  t9:=underlying9
  a9:=Tryz.isAgg9
  z9:=Tryz.sizeOf9
  v9:=zeroValue9
  t22:=underlying23
  a22:=Tryz.isAgg23
  z22:=Tryz.sizeOf23
  v22:=zeroValue23
  t23:=underlying23
  a23:=Tryz.isAgg23
  z23:=Tryz.sizeOf23
  v23:=zeroValue23
  t25:=underlying3
  a25:=Tryz.isAgg3
  z25:=Tryz.sizeOf3
  v25:=zeroValue3
  t32:=underlying92
  a32:=Tryz.isAgg92
  z32:=Tryz.sizeOf92
  v32:=zeroValue92
  t35:=underlying128
  a35:=Tryz.isAgg128
  z35:=Tryz.sizeOf128
  v35:=zeroValue128
  t36:=underlying129
  a36:=Tryz.isAgg129
  z36:=Tryz.sizeOf129
  v36:=zeroValue129
  t41:=underlying124
  a41:=Tryz.isAgg124
  z41:=Tryz.sizeOf124
  v41:=zeroValue124
  t44:=underlying136
  a44:=Tryz.isAgg136
  z44:=Tryz.sizeOf136
  v44:=zeroValue136
  t46:=underlying102
  a46:=Tryz.isAgg102
  z46:=Tryz.sizeOf102
  v46:=zeroValue102
  t53:=underlying158
  a53:=Tryz.isAgg158
  z53:=Tryz.sizeOf158
  v53:=zeroValue158
  t57:=underlying162
  a57:=Tryz.isAgg162
  z57:=Tryz.sizeOf162
  v57:=zeroValue162
  t63:=underlying173
  a63:=Tryz.isAgg173
  z63:=Tryz.sizeOf173
  v63:=zeroValue173
  t64:=underlying174
  a64:=Tryz.isAgg174
  z64:=Tryz.sizeOf174
  v64:=zeroValue174
theorem m_sort_int_ok {w0:Value} (a0 r:List Int) (h:m_sortI a0=some r):Fun Tryz.prog 68 [.exact w0] [vecT Tryz.prog 23 1 zbf w0 a0] (λ a s=>a= .tup []/\s=[vecT Tryz.prog 23 1 zbf w0 r]):=m_sortI_ok lay3 (λ _=>rfl) 23 a0 r h
end
noncomputable section
open Go.RowKit
attribute [local irreducible] AV.exact AV.top AV.row AV.ptr AV.agg AV.tup AV.eptr AV.fn AV.nilq AV.nilqn opA opB opM opR Quiet Loud Reads wpG awp den Sub SubU Pure Fun vecI vecT boxI CellsAll CellsOf OneC LEs LEss
set_option maxRecDepth 100000
section
variable {P:Program} {ops:Array Oper} {E:Env} {n:Nat} {af:AF} {σ:Items} {K:AF->Items->Prop} {rest:List Oper} {dst:Option Tmp} {ty0:TypeId} {pos0:String} {after0:Array Edge} {ks:List KFr}
abbrev AV.xi (n:Int):AV:= .exact (.int .i64 n)
abbrev AV.xb (b:Bool):AV:= .exact (.bool b)
abbrev AV.xs (s:List UInt8):AV:= .exact (.string (bs s))
abbrev pt (x:AF) (k:Nat) (a:AV):AF:=AF.put x (some k) a
theorem lq {x y:AF} {d:Nat} {av:AV} (h1:x d=av) (h2:AF.le x y):AF.le x (y.put (some d) av):=AF.le_put (AV.le_eq h1) h2
theorem l4 {x y:AF} {d1 d2 d3 d4:Nat} {a1 a2 a3 a4:AV} (h1:x d1=a1) (h2:x d2=a2) (h3:x d3=a3) (h4:x d4=a4) (h:AF.le x y):AF.le x ((((y.put (some d4) a4).put (some d3) a3).put (some d2) a2).put (some d1) a1):=lq h1 (lq h2 (lq h3 (lq h4 h)))
theorem gq {m:Mode} {op:Op} (h:opA P ⟨dst,op,ty0,pos0,after0,none⟩ af (λ af'=>wpG m P ops K rest af' σ)) (hq:m.q ⟨dst,op,ty0,pos0,after0,none⟩=true:=by rfl):wpG m P ops K (⟨dst,op,ty0,pos0,after0,none⟩::rest) af σ:=G_q hq h
theorem lf {a:AV}:AV.le a a:=AV.le_refl a
theorem ln:LEs [] []:=LEs.nil
theorem lc {x y:AV} {xs ys:List AV} (h:AV.le x y) (h':LEs xs ys):LEs (x::xs) (y::ys):=LEs.cons h h'
theorem oi {α:Type} {a b:α} (h:some a=some b):a=b:=Option.some.inj h
theorem lt0 {x:AF}:AF.le x (λ _=> .top):=AF.le_top x
theorem so {af':AF} (h:AF.le af af'):Sub E n af σ af' σ:=Sub.of_le h
theorem s1 {d1:Nat} {a1:AV} (h1:af d1=a1):Sub E n af σ (AF.put (λ _=> .top) (some d1) a1) σ:=so (lq h1 lt0)
theorem s2 {d1 d2:Nat} {a1 a2:AV} (h1:af d1=a1) (h2:af d2=a2):Sub E n af σ (AF.put (AF.put (λ _=> .top) (some d2) a2) (some d1) a1) σ:=so (lq h1 (lq h2 lt0))
theorem s3 {d1 d2 d3:Nat} {a1 a2 a3:AV} (h1:af d1=a1) (h2:af d2=a2) (h3:af d3=a3):Sub E n af σ (AF.put (AF.put (AF.put (λ _=> .top) (some d3) a3) (some d2) a2) (some d1) a1) σ:=so (lq h1 (lq h2 (lq h3 lt0)))
theorem s4 {d1 d2 d3 d4:Nat} {a1 a2 a3 a4:AV} (h1:af d1=a1) (h2:af d2=a2) (h3:af d3=a3) (h4:af d4=a4):Sub E n af σ ((((AF.put (λ _=> .top) (some d4) a4).put (some d3) a3).put (some d2) a2).put (some d1) a1) σ:=so (l4 h1 h2 h3 h4 lt0)
theorem gn {m:Mode} {j:Nat} {want:Bool} {dg:Tmp} {op:Op} (h:wpG m P ops K rest (af.put dst undefA) σ) (hj:(ops[j]?).bind (·.dst)=some dg:=by exact rfl) (hv:af dg= .exact (.bool (!want)):=by exact rfl):wpG m P ops K (⟨dst,op,ty0,pos0,after0,some (j,want)⟩::rest) af σ:=G_n hj hv h
theorem gy {m:Mode} {j:Nat} {want:Bool} {dg:Tmp} {op:Op} (h:opA P ⟨dst,op,ty0,pos0,after0,some (j,want)⟩ af (λ af'=>wpG m P ops K rest af' σ)) (hj:(ops[j]?).bind (·.dst)=some dg:=by exact rfl) (hv:af dg= .exact (.bool want):=by exact rfl) (hq:m.q ⟨dst,op,ty0,pos0,after0,some (j,want)⟩=true:=by exact rfl):wpG m P ops K (⟨dst,op,ty0,pos0,after0,some (j,want)⟩::rest) af σ:=Gy_q hj hv hq h
section
variable {kp:Items} {rest:List (Nat×Nat)} {i:Nat} {op:Op}
theorem pq (hi:ops[i]?=some ⟨dst,op,ty0,pos0,after0,none⟩) (h:opA P ⟨dst,op,ty0,pos0,after0,none⟩ af (λ af'=>wpP P ops kp K rest af' σ)):wpP P ops kp K ((0,i)::rest) af σ:=P_q zdf hi h
variable {j:Nat} {want:Bool} {dg:Tmp}
theorem py (hi:ops[i]?=some ⟨dst,op,ty0,pos0,after0,some (j,want)⟩) (h:opA P ⟨dst,op,ty0,pos0,after0,some (j,want)⟩ af (λ af'=>wpP P ops kp K rest af' σ)) (hj:(ops[j]?).bind (·.dst)=some dg:=by exact rfl) (hv:af dg= .exact (.bool want):=by exact rfl):wpP P ops kp K ((0,i)::rest) af σ:=Py_q zdf hi hj hv h
theorem pn (hi:ops[i]?=some ⟨dst,op,ty0,pos0,after0,some (j,want)⟩) (h:wpP P ops kp K rest (af.put dst undefA) σ) (hj:(ops[j]?).bind (·.dst)=some dg:=by exact rfl) (hv:af dg= .exact (.bool (!want)):=by exact rfl):wpP P ops kp K ((0,i)::rest) af σ:=P_n zdf hi hj hv h
theorem pu (hi:ops[i]?=some ⟨dst,op,ty0,pos0,after0,some (j,want)⟩) (h:wpP P ops kp K rest (af.put dst undefA) σ) (hj:(ops[j]?).bind (·.dst)=some dg:=by exact rfl) (hv:af dg=undefA:=by exact rfl):wpP P ops kp K ((0,i)::rest) af σ:=P_u zdf hi hj hv h
end
theorem gc {m:Mode} {c:Code} (h:awp P E n c (den P E n ks) af σ):wpG m P ops (den P E n (kC c::ks) .normal) [] af σ:=zay (zad h)
theorem sr {y:Code} {id:Nat} {l:List Oper} {draw:Bool} (h:wpG .free P l.toArray (den P E n (kC y::ks) .normal) l af σ) (hm:P.follows .mixedOrders=true:=by exact hmixP) (hB:regB .free l n draw=true:=by kernel_rfl):awp P E n (.seq (.region id l.toArray draw) y) (den P E n ks) af σ:=zau (zfy .free hm hB h)
theorem gd {m:Mode} {y:Code} {id:Nat} {l:List Oper} {draw:Bool} (h:wpG .free P l.toArray (den P E n (kC y::ks) .normal) l af σ) (hm:P.follows .mixedOrders=true:=by exact hmixP) (hB:regB .free l n draw=true:=by kernel_rfl):wpG m P ops (den P E n (kC (.seq (.region id l.toArray draw) y)::ks) .normal) [] af σ:=zay (zad (sr h hm hB))
theorem qm {x:Operand} (av:AV) (h:af.ev x=av) (hk:wpG .free P ops K rest (af.put dst av) σ):wpG .free P ops K (⟨dst, .move x,ty0,pos0,after0,none⟩::rest) af σ:=G_q rfl (zae h hk)
theorem qa {x:Operand} (av:AV) (h:af.ev x=av) (hk:wpG .free P ops K rest (af.put dst av) σ):wpG .free P ops K (⟨dst, .assign x,ty0,pos0,after0,none⟩::rest) af σ:=G_q rfl (zba h hk)
theorem kd {c:Operand} {x y:Code} {p:Prop} [Decidable p] {ρ:Type} {a b:Option ρ} {r:ρ} (hc:af.ev c= .exact (.bool (decide p))) (h:(if p then a else b)=some r) (ht:p->a=some r->awp P E n x (den P E n ks) af σ) (hf: ¬p->b=some r->awp P E n y (den P E n ks) af σ):awp P E n (.cond c x y) (den P E n ks) af σ:=k_cond_d hc (λ hp=>ht hp (zdb h hp)) (λ hp=>hf hp (zdc h hp))
theorem kb {c:Operand} {x y:Code} {p:Bool} {ρ:Type} {a b:Option ρ} {r:ρ} (hc:af.ev c= .exact (.bool p)) (h:(if p=true then a else b)=some r) (ht:p=true->a=some r->awp P E n x (den P E n ks) af σ) (hf: ¬p=true->b=some r->awp P E n y (den P E n ks) af σ):awp P E n (.cond c x y) (den P E n ks) af σ:=k_cond_b hc (λ hp=>ht hp (zdb h hp)) (λ hp=>hf hp (zdc h hp))
theorem ke {fn:Func} {post:AV->Items->Prop} (af':AF) (σ':Items) {rs:List ResultVar} (hr:fn.results.toList=rs) (h:Sub E n af σ af' σ') (hp:post (resA rs af') σ'):den P E n (kP (EndA fn E n post)::ks) .ret af σ:=kP_any (endN rs hr h hp)
theorem kr {id:Nat} {l:List Oper} {draw:Bool} (h:wpG .free P l.toArray (den P E n ks .normal) l af σ) (hm:P.follows .mixedOrders=true:=by exact hmixP) (hB:regB .free l n draw=true:=by kernel_rfl):awp P E n (.region id l.toArray draw) (den P E n ks) af σ:=zfy .free hm hB h
end
set_option maxHeartbeats 4000000
theorem m_gen_New_ok (a0:List Int) (r:((List Int)×Int)) (h:m_gen_New a0=some r):Fun Tryz.prog 5 [(.row 1 zbf a0)] [] (λ a s=> ∃z0,a=pA z0 0/\s=[boxI 50 z0 [.row 1 zbf r.1, .exact (.int .i64 r.2)]]):=by
 unfold m_gen_New at h
 refine zan func5 rfl ntmps5 (by simp) rfl (res1 rfl) λ E hE=>zca (sr (qa (.exact (.pointer none)) rfl (gd (qm (.row 1 zbf a0) rfl (gq (op_bld (c':=c_cspcheckgen_Choices (a0,0)) (CellsAll.cons rfl CellsOf.row CellsAll.nil) rfl (lc lf (lc lf ln)) (G_l rfl (op_boxI (c:=[.row 1 zbf ((a0,0).1), .xi ((a0,0).2)]) rfl CellsOf.agg (lc lf (lc lf ln)) (λ b1=>qa (pA b1 0) rfl (gc (zax ?_)))))))))))
 obtain rfl:=oi h
 refine ke (pt AF0 2 (pA b1 0)) [boxI 50 b1 [.row 1 zbf ((a0,0).1), .xi ((a0,0).2)]] rfl (s1 rfl) ⟨b1,rfl,rfl⟩
theorem m_help_Mod_ok (a0:Int) (a1:Int) (r:Int) (h:m_help_Mod a0 a1=some r):Pure Tryz.prog 32 [(.exact (.int .i64 a0)),(.exact (.int .i64 a1))] (.exact (.int .i64 r)):=by
 unfold m_help_Mod at h
 refine Pure.ofFun (zan func32 rfl ntmps32 (by simp) rfl (res1 rfl) λ E hE=>zca (sr (qa (.xi 0) rfl (gd (qm (.xi a0) rfl (gq (zbz (k:= .u64) (by kernel_rfl) rfl rfl (qm (.xi a1) rfl (gq (zbz (k:= .u64) (by kernel_rfl) rfl rfl ?_))))))))))
 obtain⟨n1,h⟩:=zag h
 refine gq (op_rem rfl rfl n1 rfl (gq (zbz (k:= .i64) (by kernel_rfl) rfl rfl (qa (.xi (i64 (Int.tmod (IntKind.u64.wrap (a0)) (IntKind.u64.wrap (a1))))) rfl (gc (zax ?_))))))
 obtain rfl:=oi h
 refine ke (pt AF0 4 (.xi (i64 (Int.tmod (IntKind.u64.wrap (a0)) (IntKind.u64.wrap (a1)))))) [] rfl (s1 rfl) ⟨rfl,rfl⟩
theorem zcp {w0:Nat} (a0:(List Int)×Int) (a1:Int) (r:Int×((List Int)×Int)) (h:zck a0 a1=some r):Fun Tryz.prog 7 [(pA w0 0),(.exact (.int .i64 a1))] [boxI 50 w0 [.row 1 zbf a0.1, .exact (.int .i64 a0.2)]] (λ a s=>a= .exact (.int .i64 r.1)/\s=[boxI 50 w0 [.row 1 zbf r.2.1, .exact (.int .i64 r.2.2)]]):=by
 unfold zck at h
 refine zan func7 rfl ntmps7 (by simp) rfl (res1 rfl) λ E hE=>zca (sr (qa (.xi 0) rfl (gc (zau (zau (zdy [] [(0,0),(0,1),(0,2),(0,4),(0,5),(0,6),(1,3),(1,7),(0,8),(0,9)] hmixP (by kernel_rfl) (pq rfl (zae (av:=pA w0 0) rfl (pq rfl (op_nilCheck rfl (pq rfl (zeq (o:=1) (by kernel_rfl) rfl (pq rfl (zae (av:=pA w0 0) rfl (pq rfl (op_nilCheck rfl (pq rfl (zeq (o:=0) (by kernel_rfl) rfl (P_r rfl (zer (a:= .xi a0.2) (by kernel_rfl) rfl rfl (P_r rfl (zer (a:= .row 1 zbf a0.1) (by kernel_rfl) rfl rfl (pq rfl (zaw (by kernel_rfl) rfl (pq rfl (op_geq rfl rfl (zdu (zad (kd (p:=(List.length a0.1:Int)≤a0.2) rfl h (λ hc h=> ?_) (λ hc h=> ?_))))))))))))))))))))))))))))))
 .refine sr (qa (.xi 0) rfl (gc (zax (zaz ?_))))
  obtain rfl:=oi h
  refine ke (pt AF0 4 (.xi 0)) [boxI 50 w0 [.row 1 zbf a0.1, .xi a0.2]] rfl (s1 rfl) ⟨rfl,rfl⟩
 .refine zaq (zad (sr (qm (pA w0 0) rfl (gq (op_nilCheck rfl (gq (zeq (o:=1) (by kernel_rfl) rfl (G_r rfl (zer (a:= .xi a0.2) (by kernel_rfl) rfl rfl (gq (zbx rfl rfl rfl (gq (op_nilCheck rfl (gq (zeq (o:=1) (by kernel_rfl) rfl (G_l rfl (op_store_box (c':=[.xi (i64 (a0.2+1))]) (c3:=[.row 1 zbf a0.1, .xi (i64 (a0.2+1))]) rfl rfl CellsOf.int (lc lf ln) (OneC.int OneC.nil) (by kernel_rfl) (Nat.le_of_ble_eq_true rfl) rfl (gc (zau (zdy [] [(0,0),(0,1),(0,2),(0,4),(0,5),(0,6),(0,11),(1,3),(1,7),(0,8),(0,9),(0,10),(0,12),(0,13)] hmixP (by kernel_rfl) (pq rfl (zae (av:=pA w0 0) rfl (pq rfl (op_nilCheck rfl (pq rfl (zeq (o:=0) (by kernel_rfl) rfl (pq rfl (zae (av:=pA w0 0) rfl (pq rfl (op_nilCheck rfl (pq rfl (zeq (o:=1) (by kernel_rfl) rfl (pq rfl (zae (av:= .xi a1) rfl (P_r rfl (zer (a:= .row 1 zbf a0.1) (by kernel_rfl) rfl rfl (P_r rfl (zer (a:= .xi (i64 (a0.2+1))) (by kernel_rfl) rfl rfl (pq rfl (zfo rfl rfl rfl ?_))))))))))))))))))))))))))))))))))))))))
  obtain⟨n1,h⟩:=zag h
  refine pq rfl (zaj (by kernel_rfl) rfl rfl n1.1 n1.2 (pq rfl (zap (a:= .xi (gi a0.1 (i64 ((i64 (a0.2+1)) - 1)))) (by kernel_rfl) rfl rfl ?_)))
  obtain⟨y2,b,h⟩:=zac h
  refine pq rfl (zai (m_help_Mod_ok _ _ _ b) func32 (by kernel_rfl) (lc lf (lc lf ln)) (pq rfl (zba (av:= .xi y2) rfl (zdu (zad (zax ?_))))))
  obtain rfl:=oi h
  refine ke (pt AF0 4 (.xi y2)) [boxI 50 w0 [.row 1 zbf a0.1, .xi (i64 (a0.2+1))]] rfl (s1 rfl) ⟨rfl,rfl⟩
theorem m_ref9_eight_ok (a0:Int) (r:(List UInt8)) (h:m_ref9_eight a0=some r):Pure Tryz.prog 57 [(.exact (.int .i64 a0))] (.exact (.string (bs r))):=by
 unfold m_ref9_eight at h
 refine Pure.ofFun (zan func57 rfl ntmps57 (by simp) rfl (res1 rfl) λ E hE=>zca (sr (qa (.xs ([]:List UInt8)) rfl (gd ?_))))
 obtain⟨n1,h⟩:=zag h
 refine G_l rfl (op_make (enc:=zit) (zr:=(0:UInt8)) (by kernel_rfl) rfl rfl n1.1 n1.2 len_c_uint8 zeroValue5 (λ _ _=>(Fit.ex Fit.nil0)) (λ v2=>qa (.exact v2) rfl (gc (zbb h (λ(b:List UInt8)=>(pt AF0 3 (.exact v2))) (λ(b:List UInt8)=>[vecT Tryz.prog 80 1 zit v2 b]) (λ k3 h=> ?_) (λ b h=> ?_)))))
 .refine sr (qa (.xi 0) rfl (gc (zas (k_loop2_0 (m_ref9_eight_L2 a0 k3) (m_ref9_eight_B2 a0 k3) (λ _ _=>rfl) (λ m _ _=>rfl) h (λ(c:List UInt8) (a:Int)=>(pt (pt (pt AF0 0 (.xi a0)) 3 (.exact v2)) 4 (.xi a))) (λ(c:List UInt8) (a:Int)=>[vecT Tryz.prog 80 1 zit v2 c]) ?_ (λ d c a h=> ?_)))))
  .exact s3 rfl rfl rfl
  .unfold m_ref9_eight_B2 at h
   refine zau (sr (qm (.xi a) rfl (gq (zby rfl rfl (gc (kd (p:=a<8) rfl h (λ hc h=> ?_) (λ hc h=> ?_)))))))
   .refine zaq (zad (zau (zas (kr (qm (.exact v2) rfl (qm (.xi a) rfl (gq (zfo rfl rfl rfl (qm (.xi a0) rfl (gq (zbz (k:= .u64) (by kernel_rfl) rfl rfl (qm (.xi a) rfl (gq (op_mul rfl rfl rfl (gq (zbz (k:= .u64) (by kernel_rfl) rfl rfl ?_))))))))))))))))
    obtain⟨n15,h⟩:=zag h
    refine gq (op_shr rfl rfl n15 rfl (gq (zbz (k:= .u8) (r:=(UInt8.toNat (u8i (Int.fdiv (IntKind.u64.wrap (a0)) (2^min (Int.toNat (IntKind.u64.wrap (i64 (8*a)))) IntKind.u64.bits))):Int)) (by kernel_rfl) rfl (u8i_eq _) ?_)))
    obtain⟨n16,h⟩:=zag h
    refine G_r rfl (zce (by kernel_rfl) rfl rfl n16.1 n16.2 (G_l rfl (zjl (i:=i64 (7 - a)) (o:=0) (z:=u8i (Int.fdiv (IntKind.u64.wrap (a0)) (2^min (Int.toNat (IntKind.u64.wrap (i64 (8*a)))) IntKind.u64.bits))) (c':=[.exact (.int .u8 (UInt8.toNat (u8i (Int.fdiv (IntKind.u64.wrap (a0)) (2^min (Int.toNat (IntKind.u64.wrap (i64 (8*a)))) IntKind.u64.bits))):Int))]) (by kernel_rfl) len_c_uint8 rfl n16.1 n16.2 rfl CellsOf.int (lc lf ln) (OneC.int OneC.nil) (by kernel_rfl) (Nat.le_of_ble_eq_true rfl) rfl (zay (zar (zad (kr (qm (.xi a) rfl (gq (zbx rfl rfl rfl (qa (.xi (i64 (a+1))) rfl (zay (zab ⟨_,_,h,s3 rfl rfl rfl⟩)))))))))))))
   .refine zcl (zbo (zbu (zbn (zab ⟨_,h,s1 rfl⟩))))
 .refine sr (qm (.exact v2) rfl (G_r rfl (op_bytesS_bor rfl (by kernel_rfl) (Bor.vec (List.Mem.head _) len_c_uint8) (qa (.xs b) rfl (gc (zax ?_))))))
  obtain rfl:=oi h
  refine ke (pt AF0 2 (.xs b)) [] rfl (Sub.trans (SubU.to SubU.drop) (s1 rfl)) ⟨rfl,rfl⟩
theorem zhb (a0:Int) (r:(List UInt8)) (h:zic a0=some r):Pure Tryz.prog 22 [(.exact (.int .i64 a0))] (.exact (.string (bs r))):=by
 unfold zic at h
 refine Pure.ofFun (zan func22 rfl ntmps22 (by simp) rfl (res1 rfl) λ E hE=>zca (sr (qa (.xs ([]:List UInt8)) rfl (gc (zau (zdy [] [(0,0),(0,1),(0,2),(0,3),(0,4),(0,5)] hmixP (by kernel_rfl) (pq rfl (zcf (n:=1) (enc:=zit) [1] (CellsAll.cons rfl CellsOf.int CellsAll.nil) rfl (by kernel_rfl) (LEss.cons (lc lf ln) LEss.nil) (pq rfl (op_bytesS rfl (by kernel_rfl) rfl (pq rfl (zae (av:= .xi a0) rfl ?_))))))))))))
 obtain⟨y1,a,h⟩:=zac h
 refine pq rfl (zai (m_ref9_eight_ok _ _ a) func57 (by kernel_rfl) (lc lf ln) ?_)
 obtain⟨n2,h⟩:=zag h
 refine pq rfl (op_addS n2 rfl rfl (pq rfl (zba (av:= .xs ([1]++y1)) rfl (zdu (zad (zax ?_))))))
 obtain rfl:=oi h
 refine ke (pt AF0 2 (.xs ([1]++y1))) [] rfl (s1 rfl) ⟨rfl,rfl⟩
theorem m_ref9_ascending_ok (d:(List UInt8)->Int->Bool->Option (Int×(List (List UInt8))×Int)) (hself_ref9_walk: ∀(a0:List UInt8) (a1:Int) (a2:Bool) (r:Int×(List (List UInt8))×Int),d a0 a1 a2=some r->Pure Tryz.prog 107 [(.exact (.string (bs a0))),(.exact (.int .i64 a1)),(.exact (.bool a2))] (.tup [.exact (.int .i64 r.1), .row 1 zaa r.2.1, .exact (.int .i64 r.2.2)])) (c:(List UInt8)->(List UInt8)->Option Int) (hself_ref9_order: ∀(a0:List UInt8) (a1:List UInt8) (r:Int),c a0 a1=some r->Pure Tryz.prog 112 [(.exact (.string (bs a0))),(.exact (.string (bs a1)))] (.exact (.int .i64 r))) (a0:List (List UInt8)) (a1:Int) (r:Bool) (h:zhs d c a0 a1=some r):Pure Tryz.prog 178 [(.row 1 zaa a0),(.exact (.int .i64 a1))] (.exact (.bool r)):=by
 unfold zhs at h
 refine Pure.ofFun (zan func178 rfl ntmps178 (by simp) rfl (res1 rfl) λ E hE=>zca (sr (qa (.xb false) rfl (gc (zdq h (AF0) ([]) (λ k1 h=> ?_) (λ  h=> ?_))))))
 .refine sr (qm (.xi a1) rfl (qa (.xi a1) rfl (gc (zas (zen (zdr c a0 a1 k1) (zeu c a0 a1 k1) (λ _=>rfl) (λ m _=>rfl) h (λ(b:Int)=>(pt (pt (pt AF0 0 (.row 1 zaa a0)) 1 (.xi a1)) 5 (.xi b))) (λ(b:Int)=>[]) ?_ (λ f b h=> ?_))))))
  .exact s3 rfl rfl rfl
  .unfold zeu at h
   refine zau (sr (qm (.xi b) rfl (qm (.row 1 zaa a0) rfl (gq (zaw (by kernel_rfl) rfl (gq (zby rfl rfl (gc (kd (p:=b<(List.length a0:Int)) rfl h (λ hc h=> ?_) (λ hc h=> ?_))))))))))
   .refine zaq (zad (zau (zas (zau (zdy [] [(0,0),(0,1),(0,2),(0,3),(0,4),(0,5),(0,6),(0,7),(0,8),(0,9),(0,10),(0,11)] hmixP (by kernel_rfl) (pq rfl (zae (av:= .row 1 zaa a0) rfl (pq rfl (zae (av:= .xi b) rfl (pq rfl (zae (av:= .xi a1) rfl (pq rfl (zfo rfl rfl rfl ?_)))))))))))))
    obtain⟨n18,h⟩:=zag h
    refine pq rfl (zaj (by kernel_rfl) rfl rfl n18.1 n18.2 (pq rfl (zap (a:= .xs (gi a0 (i64 (b - a1)))) (by kernel_rfl) rfl rfl (pq rfl (zae (av:= .row 1 zaa a0) rfl (pq rfl (zae (av:= .xi b) rfl ?_)))))))
    obtain⟨n19,h⟩:=zag h
    refine pq rfl (zaj (by kernel_rfl) rfl rfl n19.1 n19.2 (pq rfl (zap (a:= .xs (gi a0 b)) (by kernel_rfl) rfl rfl ?_)))
    obtain⟨y20,e,h⟩:=zac h
    refine pq rfl (zai (hself_ref9_order _ _ _ e) func112 (by kernel_rfl) (lc lf (lc lf ln)) (pq rfl (op_geq rfl rfl (zdu (zad (kd (p:=0≤y20) rfl h (λ hc h=> ?_) (λ hc h=> ?_)))))))
    .refine sr (qa (.xb false) rfl (gc (zax (zbe (zaz (zbr (zbe (zbr ?_))))))))
     obtain rfl:=oi h
     refine ke (pt AF0 4 (.xb false)) [] rfl (s1 rfl) ⟨rfl,rfl⟩
    .refine zaq (zar (zad (kr (qm (.xi b) rfl (qm (.xi a1) rfl (gq (zbx rfl rfl rfl (qa (.xi (i64 (b+a1))) rfl (zay (zab ⟨_,h,s3 rfl rfl rfl⟩))))))))))
   .refine zcl (zbo (zbu (zbn (zab ⟨h,Sub.of_le lt0⟩))))
 .refine sr (qa (.xb true) rfl (gc (zax ?_)))
  obtain rfl:=oi h
  refine ke (pt AF0 4 (.xb true)) [] rfl (s1 rfl) ⟨rfl,rfl⟩
theorem m_ref9_number_ok (a0:List UInt8) (r:Int) (h:zkk a0=some r):Pure Tryz.prog 106 [(.exact (.string (bs a0)))] (.exact (.int .i64 r)):=by
 unfold zkk at h
 refine Pure.ofFun (zan func106 rfl ntmps106 (by simp) rfl (res1 rfl) λ E hE=>zca (sr (qa (.xi 0) rfl (gd (qa (.exact (.int .u64 0)) rfl (gc (zbb h (λ(b:Int)=>(pt AF0 3 (.exact (.int .u64 b)))) (λ(b:Int)=>[]) (λ k1 h=> ?_) (λ b h=> ?_))))))))
 .refine sr (qa (.xi 0) rfl (gc (zas (k_loop2_0 (zls a0 k1) (m_ref9_number_B2 a0 k1) (λ _ _=>rfl) (λ m _ _=>rfl) h (λ(c:Int) (a:Int)=>(pt (pt (pt AF0 0 (.xs a0)) 3 (.exact (.int .u64 c))) 4 (.xi a))) (λ(c:Int) (a:Int)=>[]) ?_ (λ d c a h=> ?_)))))
  .exact s3 rfl rfl rfl
  .unfold m_ref9_number_B2 at h
   refine zau (sr (qm (.xi a) rfl (gq (zby rfl rfl (gc (kd (p:=a<8) rfl h (λ hc h=> ?_) (λ hc h=> ?_)))))))
   .refine zaq (zad (zau (zas (kr (qm (.exact (.int .u64 c)) rfl (gq (op_shl rfl rfl (by decide) rfl (qm (.xs a0) rfl (qm (.xi a) rfl ?_)))))))))
    obtain⟨n8,h⟩:=zag h
    refine gq (zbj (by kernel_rfl) rfl rfl n8.1 n8.2 (gq (zbz (k:= .u64) (r:=(UInt8.toNat (gi a0 a):Int)) (by kernel_rfl) rfl (zjx rfl _) (gq (op_or rfl rfl rfl (qa (.exact (.int .u64 (bOr .u64 (IntKind.u64.wrap (c*2^min (Int.toNat 8) IntKind.u64.bits)) (UInt8.toNat (gi a0 a):Int)))) rfl (zay (zar (zad (kr (qm (.xi a) rfl (gq (zbx rfl rfl rfl (qa (.xi (i64 (a+1))) rfl (zay (zab ⟨_,_,h,s3 rfl rfl rfl⟩))))))))))))))))
   .refine zcl (zbo (zbu (zbn (zab ⟨_,h,s1 rfl⟩))))
 .refine sr (qm (.exact (.int .u64 b)) rfl (gq (zbz (k:= .i64) (by kernel_rfl) rfl rfl (qa (.xi (i64 (b))) rfl (gc (zax ?_))))))
  obtain rfl:=oi h
  refine ke (pt AF0 2 (.xi (i64 (b)))) [] rfl (s1 rfl) ⟨rfl,rfl⟩
theorem m_ref9_small_ok (a0:List UInt8) (a1:Int) (a2:Int) (r:Bool) (h:m_ref9_small a0 a1 a2=some r):Pure Tryz.prog 179 [(.exact (.string (bs a0))),(.exact (.int .i64 a1)),(.exact (.int .i64 a2))] (.exact (.bool r)):=by
 unfold m_ref9_small at h
 refine Pure.ofFun (zan func179 rfl ntmps179 (by simp) rfl (res1 rfl) λ E hE=>zca (sr (qa (.xb false) rfl (gc (zbb h (λ(a:Bool)=>(pt AF0 6 (.xb a))) (λ(a:Bool)=>[]) (λ k1 h=> ?_) (λ a h=> ?_))))))
 .refine kr (qm (.xs a0) rfl ?_)
  obtain⟨n7,h⟩:=zag h
  refine gq (zbj (by kernel_rfl) rfl rfl n7.1 n7.2 (gq (zbz (k:= .i64) (r:=(UInt8.toNat (gi a0 0):Int)) (by kernel_rfl) rfl (zjx rfl _) (gq (zbi rfl rfl (qm (.xb (decide ((UInt8.toNat (gi a0 0):Int)=1))) rfl (zcm (p:=(UInt8.toNat (gi a0 0):Int)=1) 11 rfl (λ hc=> ?_) (λ hc=> ?_))))))))
  .replace h:=zdb h hc
   refine gy (zae (av:= .xs a0) rfl ?_)
   obtain⟨n8,h⟩:=zag h
   refine gy (zkn (by kernel_rfl) rfl (zef rfl) zel (by decide) n8 (Int.le_refl _) ?_)
   obtain⟨y9,b,h⟩:=zac h
   refine gy (zai (m_ref9_number_ok _ _ b) func106 (by kernel_rfl) (lc lf ln) (gy (zae (av:= .xi a1) rfl (gy (op_geq rfl rfl (gq (zat rfl (av:= .xb (decide (a1≤y9))) rfl (qm (.xb (decide (a1≤y9))) rfl (zcm (p:=a1≤y9) 18 rfl (λ hc=> ?_) (λ hc=> ?_))))))))))
   .replace h:=zdb h hc
    refine gy (zae (av:= .xs a0) rfl ?_)
    obtain⟨n10,h⟩:=zag h
    refine gy (zkn (by kernel_rfl) rfl (zef rfl) zel (by decide) n10 (Int.le_refl _) ?_)
    obtain⟨y11,c,h⟩:=zac h
    refine gy (zai (m_ref9_number_ok _ _ c) func106 (by kernel_rfl) (lc lf ln) (gy (zae (av:= .xi a2) rfl (gy (op_leq rfl rfl (gq (zat rfl (av:= .xb (decide (y11≤a2))) rfl (qa (.xb (decide (y11≤a2))) rfl (zay (zab ⟨_,h,s1 rfl⟩))))))))))
   .replace h:=zdc h hc
    refine gn (gn (gn (gn (gn (gq (zao rfl (av:= .xb false) rfl (qa (.xb false) rfl (zay (zab ⟨_,h,s1 rfl⟩)))))))))
  .replace h:=zdc h hc
   refine gn (gn (gn (gn (gn (gq (zao rfl (av:= .xb false) rfl (qm (.xb false) rfl (gn (gn (gn (gn (gn (gq (zao rfl (av:= .xb false) rfl (qa (.xb false) rfl (zay (zab ⟨_,h,s1 rfl⟩)))))))))))))))))
 .refine zax ?_
  obtain rfl:=oi h
  refine ke (pt AF0 6 (.xb a)) [] rfl (s1 rfl) ⟨rfl,rfl⟩
theorem m_ref9_parted_ok (b:(List UInt8)->Int->Bool->Option (Int×(List (List UInt8))×Int)) (hself_ref9_walk: ∀(a0:List UInt8) (a1:Int) (a2:Bool) (r:Int×(List (List UInt8))×Int),b a0 a1 a2=some r->Pure Tryz.prog 107 [(.exact (.string (bs a0))),(.exact (.int .i64 a1)),(.exact (.bool a2))] (.tup [.exact (.int .i64 r.1), .row 1 zaa r.2.1, .exact (.int .i64 r.2.2)])) (c:(List UInt8)->(List UInt8)->Option Int) (hself_ref9_order: ∀(a0:List UInt8) (a1:List UInt8) (r:Int),c a0 a1=some r->Pure Tryz.prog 112 [(.exact (.string (bs a0))),(.exact (.string (bs a1)))] (.exact (.int .i64 r))) (a0:Int) (a1:List (List UInt8)) (r:Bool) (h:m_ref9_parted b c a0 a1=some r):Pure Tryz.prog 138 [(.exact (.int .i64 a0)),(.row 1 zaa a1)] (.exact (.bool r)):=by
 unfold m_ref9_parted at h
 refine Pure.ofFun (zan func138 rfl ntmps138 (by simp) rfl (res1 rfl) λ E hE=>zca (sr (qa (.xb false) rfl (gc (zau (sr (qm (.xi a0) rfl (gc (zas (sr (gq (zbi rfl rfl (qa (.xb (decide (a0=3))) rfl (gc (kd (p:=a0=3) rfl h (λ hc h=> ?_) (λ hc h=> ?_))))))))))))))))
 .refine zbb h (λ(d:Bool)=>(pt AF0 4 (.xb d))) (λ(d:Bool)=>[]) (λ k1 h=> ?_) (λ d h=> ?_)
  .refine kr (qm (.row 1 zaa a1) rfl (gq (zaw (by kernel_rfl) rfl (gq (op_geq rfl rfl (qm (.xb (decide (2≤(List.length a1:Int)))) rfl (zcm (p:=2≤(List.length a1:Int)) 11 rfl (λ hc=> ?_) (λ hc=> ?_))))))))
   .replace h:=zdb h hc
    refine gy (zae (av:= .row 1 zaa a1) rfl (gy (zaw (by kernel_rfl) rfl (gy (op_leq rfl rfl (gq (zat rfl (av:= .xb (decide ((List.length a1:Int)≤8))) rfl (qa (.xb (decide ((List.length a1:Int)≤8))) rfl (zay (zab ⟨_,h,s1 rfl⟩))))))))))
   .replace h:=zdc h hc
    refine gn (gn (gn (gq (zao rfl (av:= .xb false) rfl (qa (.xb false) rfl (zay (zab ⟨_,h,s1 rfl⟩)))))))
  .refine zax (zbe (zaz ?_))
   obtain rfl:=oi h
   refine ke (pt AF0 4 (.xb d)) [] rfl (s1 rfl) ⟨rfl,rfl⟩
 .refine sr (gq (zbi rfl rfl (qa (.xb (decide (a0=5))) rfl (gc (kd (p:=a0=5) rfl h (λ hc h=> ?_) (λ hc h=> ?_))))))
  .refine sr (qm (.row 1 zaa a1) rfl ?_)
   obtain⟨y2,j,h⟩:=zac h
   refine gq (zai (m_ref9_ascending_ok b hself_ref9_walk c hself_ref9_order _ _ _ j) func178 (by kernel_rfl) (lc lf (lc lf ln)) (qa (.xb y2) rfl (gc (zax (zbe (zaz ?_))))))
   obtain rfl:=oi h
   refine ke (pt AF0 4 (.xb y2)) [] rfl (s1 rfl) ⟨rfl,rfl⟩
  .refine sr (gq (zbi rfl rfl (qa (.xb (decide (a0=6))) rfl (gc (kd (p:=a0=6) rfl h (λ hc h=> ?_) (λ hc h=> ?_))))))
   .refine zbb h (λ(e:Bool)=>(pt AF0 4 (.xb e))) (λ(e:Bool)=>[]) (λ k3 h=> ?_) (λ e h=> ?_)
    .refine kr (qm (.row 1 zaa a1) rfl (gq (zaw (by kernel_rfl) rfl (gq (op_rem rfl rfl (by decide) rfl (gq (zbi rfl rfl (qm (.xb (decide ((Int.tmod (List.length a1:Int) 2)=0))) rfl (zcm (p:=(Int.tmod (List.length a1:Int) 2)=0) 26 rfl (λ hc=> ?_) (λ hc=> ?_))))))))))
     .replace h:=zdb h hc
      refine gy (zae (av:= .row 1 zaa a1) rfl ?_)
      obtain⟨y5,l,h⟩:=zac h
      refine gy (zai (m_ref9_ascending_ok b hself_ref9_walk c hself_ref9_order _ _ _ l) func178 (by kernel_rfl) (lc lf (lc lf ln)) (gq (zat rfl (av:= .xb y5) rfl (qa (.xb y5) rfl (zay (zab ⟨_,h,s1 rfl⟩))))))
     .replace h:=zdc h hc
      refine gn (gn (gq (zao rfl (av:= .xb false) rfl (qa (.xb false) rfl (zay (zab ⟨_,h,s1 rfl⟩))))))
    .refine zax (zbe (zaz ?_))
     obtain rfl:=oi h
     refine ke (pt AF0 4 (.xb e)) [] rfl (s1 rfl) ⟨rfl,rfl⟩
   .refine sr (gq (zbi rfl rfl (qa (.xb (decide (a0=7))) rfl (gc (kd (p:=a0=7) rfl h (λ hc h=> ?_) (λ hc h=> ?_))))))
    .refine zbb h (λ(f:Bool)=>(pt AF0 4 (.xb f))) (λ(f:Bool)=>[]) (λ k6 h=> ?_) (λ f h=> ?_)
     .refine kr (qm (.row 1 zaa a1) rfl (gq (zaw (by kernel_rfl) rfl (gq (op_geq rfl rfl (qm (.xb (decide (1≤(List.length a1:Int)))) rfl (zcm (p:=1≤(List.length a1:Int)) 35 rfl (λ hc=> ?_) (λ hc=> ?_))))))))
      .replace h:=zdb h hc
       refine gy (zae (av:= .row 1 zaa a1) rfl (gy (zaw (by kernel_rfl) rfl (gy (op_leq rfl rfl (gq (zat rfl (av:= .xb (decide ((List.length a1:Int)≤9))) rfl (qm (.xb (decide ((List.length a1:Int)≤9))) rfl (zcm (p:=(List.length a1:Int)≤9) 40 rfl (λ hc=> ?_) (λ hc=> ?_))))))))))
       .replace h:=zdb h hc
        refine gy (zae (av:= .row 1 zaa a1) rfl ?_)
        obtain⟨n9,h⟩:=zag h
        refine gy (zaj (by kernel_rfl) rfl rfl n9.1 n9.2 (gy (zap (a:= .xs (gi a1 0)) (by kernel_rfl) rfl rfl ?_)))
        obtain⟨n10,h⟩:=zag h
        refine gy (zbj (by kernel_rfl) rfl rfl n10.1 n10.2 (gy (zbz (k:= .i64) (r:=(UInt8.toNat (gi (gi a1 0) 0):Int)) (by kernel_rfl) rfl (zjx rfl _) (gy (zbi rfl rfl (gq (zat rfl (av:= .xb (decide ((UInt8.toNat (gi (gi a1 0) 0):Int)=10))) rfl (qa (.xb (decide ((UInt8.toNat (gi (gi a1 0) 0):Int)=10))) rfl (zay (zab ⟨_,h,s1 rfl⟩))))))))))
       .replace h:=zdc h hc
        refine gn (gn (gn (gn (gn (gn (gq (zao rfl (av:= .xb false) rfl (qa (.xb false) rfl (zay (zab ⟨_,h,s1 rfl⟩))))))))))
      .replace h:=zdc h hc
       refine gn (gn (gn (gq (zao rfl (av:= .xb false) rfl (qm (.xb false) rfl (gn (gn (gn (gn (gn (gn (gq (zao rfl (av:= .xb false) rfl (qa (.xb false) rfl (zay (zab ⟨_,h,s1 rfl⟩))))))))))))))))
     .refine zax (zbe (zaz ?_))
      obtain rfl:=oi h
      refine ke (pt AF0 4 (.xb f)) [] rfl (s1 rfl) ⟨rfl,rfl⟩
    .refine sr (gq (zbi rfl rfl (qa (.xb (decide (a0=8))) rfl (gc (kd (p:=a0=8) rfl h (λ hc h=> ?_) (λ hc h=> ?_))))))
     .refine zbb h (λ(g:Bool)=>(pt AF0 4 (.xb g))) (λ(g:Bool)=>[]) (λ k11 h=> ?_) (λ g h=> ?_)
      .refine kr (qm (.row 1 zaa a1) rfl (gq (zaw (by kernel_rfl) rfl (gq (op_geq rfl rfl (qm (.xb (decide (1≤(List.length a1:Int)))) rfl (zcm (p:=1≤(List.length a1:Int)) 53 rfl (λ hc=> ?_) (λ hc=> ?_))))))))
       .replace h:=zdb h hc
        refine gy (zae (av:= .row 1 zaa a1) rfl (gy (zaw (by kernel_rfl) rfl (gy (op_leq rfl rfl (gq (zat rfl (av:= .xb (decide ((List.length a1:Int)≤33))) rfl (qm (.xb (decide ((List.length a1:Int)≤33))) rfl (zcm (p:=(List.length a1:Int)≤33) 58 rfl (λ hc=> ?_) (λ hc=> ?_))))))))))
        .replace h:=zdb h hc
         refine gy (zae (av:= .row 1 zaa a1) rfl ?_)
         obtain⟨n14,h⟩:=zag h
         refine gy (zaj (by kernel_rfl) rfl rfl n14.1 n14.2 (gy (zap (a:= .xs (gi a1 0)) (by kernel_rfl) rfl rfl ?_)))
         obtain⟨y15,m,h⟩:=zac h
         refine gy (zai (m_ref9_small_ok _ _ _ _ m) func179 (by kernel_rfl) (lc lf (lc lf (lc lf ln))) (gq (zat rfl (av:= .xb y15) rfl (qa (.xb y15) rfl (zay (zab ⟨_,h,s1 rfl⟩))))))
        .replace h:=zdc h hc
         refine gn (gn (gn (gn (gq (zao rfl (av:= .xb false) rfl (qa (.xb false) rfl (zay (zab ⟨_,h,s1 rfl⟩))))))))
       .replace h:=zdc h hc
        refine gn (gn (gn (gq (zao rfl (av:= .xb false) rfl (qm (.xb false) rfl (gn (gn (gn (gn (gq (zao rfl (av:= .xb false) rfl (qa (.xb false) rfl (zay (zab ⟨_,h,s1 rfl⟩))))))))))))))
      .refine zax (zbe (zaz ?_))
       obtain rfl:=oi h
       refine ke (pt AF0 4 (.xb g)) [] rfl (s1 rfl) ⟨rfl,rfl⟩
     .refine sr (gq (zbi rfl rfl (qa (.xb (decide (a0=9))) rfl (gc (kd (p:=a0=9) rfl h (λ hc h=> ?_) (λ hc h=> ?_))))))
      .refine zbb h (λ(i:Bool)=>(pt AF0 4 (.xb i))) (λ(i:Bool)=>[]) (λ k16 h=> ?_) (λ i h=> ?_)
       .refine kr (qm (.row 1 zaa a1) rfl (gq (zaw (by kernel_rfl) rfl (gq (op_geq rfl rfl (qm (.xb (decide (1≤(List.length a1:Int)))) rfl (zcm (p:=1≤(List.length a1:Int)) 69 rfl (λ hc=> ?_) (λ hc=> ?_))))))))
        .replace h:=zdb h hc
         refine gy (zae (av:= .row 1 zaa a1) rfl ?_)
         obtain⟨n19,h⟩:=zag h
         refine gy (zaj (by kernel_rfl) rfl rfl n19.1 n19.2 (gy (zap (a:= .xs (gi a1 0)) (by kernel_rfl) rfl rfl ?_)))
         obtain⟨y20,n,h⟩:=zac h
         refine gy (zai (m_ref9_small_ok _ _ _ _ n) func179 (by kernel_rfl) (lc lf (lc lf (lc lf ln))) (gq (zat rfl (av:= .xb y20) rfl (qa (.xb y20) rfl (zay (zab ⟨_,h,s1 rfl⟩))))))
        .replace h:=zdc h hc
         refine gn (gn (gn (gn (gq (zao rfl (av:= .xb false) rfl (qa (.xb false) rfl (zay (zab ⟨_,h,s1 rfl⟩))))))))
       .refine zax (zbe (zaz ?_))
        obtain rfl:=oi h
        refine ke (pt AF0 4 (.xb i)) [] rfl (s1 rfl) ⟨rfl,rfl⟩
      .refine zaq (zar (zad (sr (qa (.xb true) rfl (gc (zax ?_))))))
       obtain rfl:=oi h
       refine ke (pt AF0 4 (.xb true)) [] rfl (s1 rfl) ⟨rfl,rfl⟩
theorem m_ref9_walk_F_ok (j:(List UInt8)->Int->Bool->Option (Int×(List (List UInt8))×Int)) (hself_ref9_walk: ∀(a0:List UInt8) (a1:Int) (a2:Bool) (r:Int×(List (List UInt8))×Int),j a0 a1 a2=some r->Pure Tryz.prog 107 [(.exact (.string (bs a0))),(.exact (.int .i64 a1)),(.exact (.bool a2))] (.tup [.exact (.int .i64 r.1), .row 1 zaa r.2.1, .exact (.int .i64 r.2.2)])) (v:(List UInt8)->(List UInt8)->Option Int) (hself_ref9_order: ∀(a0:List UInt8) (a1:List UInt8) (r:Int),v a0 a1=some r->Pure Tryz.prog 112 [(.exact (.string (bs a0))),(.exact (.string (bs a1)))] (.exact (.int .i64 r))) (a0:List UInt8) (a1:Int) (a2:Bool) (r:Int×(List (List UInt8))×Int) (h:zkm j v a0 a1 a2=some r):Pure Tryz.prog 107 [(.exact (.string (bs a0))),(.exact (.int .i64 a1)),(.exact (.bool a2))] (.tup [.exact (.int .i64 r.1), .row 1 zaa r.2.1, .exact (.int .i64 r.2.2)]):=by
 unfold zkm at h
 refine Pure.ofFun (zan func107 rfl ntmps107 (by simp) rfl (res3 rfl) λ E hE=>zca (sr (qa (.xi 0) rfl (qa (.exact (.slice none 0 0)) rfl (qa (.xi 0) rfl (gc (zau (zbb h (λ(o:Bool)=>(pt (pt (pt (pt AF0 0 (.xs a0)) 1 (.xi a1)) 2 (.xb a2)) 24 (.xb o))) (λ(o:Bool)=>[]) (λ k3 h=> ?_) (λ o h=> ?_)))))))))
 .refine kr (qm (.xs a0) rfl (gq (op_lenS (by kernel_rfl) rfl (gq (zby rfl rfl (qm (.xb (decide ((List.length a0:Int)<2))) rfl (zcm (p:=(List.length a0:Int)<2) 21 rfl (λ hc=> ?_) (λ hc=> ?_))))))))
  .replace h:=zdb h hc
   refine gn (gn (gq (zat rfl (av:= .xb true) rfl (zay (zab ⟨_,h,s4 rfl rfl rfl rfl⟩)))))
  .replace h:=zdc h hc
   refine gy (zae (av:= .xi a1) rfl (gy (zbi rfl rfl (gq (zao rfl (av:= .xb (decide (a1=0))) rfl (zay (zab ⟨_,h,s4 rfl rfl rfl rfl⟩)))))))
 .refine kb (p:=o) rfl h (λ hc h=> ?_) (λ hc h=> ?_)
  .refine sr (qa (.xi 0) rfl (qa (.exact (.slice none 0 0)) rfl (qa (.xi 0) rfl (gc (zax (zaz ?_))))))
   obtain rfl:=oi h
   refine ke (pt (pt (pt AF0 6 (.xi 0)) 7 (.row 1 zaa [])) 8 (.xi 0)) [] rfl (so (lq rfl (AF.le_put (zep (by decide)) (lq rfl lt0)))) ⟨rfl,rfl⟩
  .refine zaq (zad (zau (sr (qm (.xs a0) rfl ?_))))
   obtain⟨n8,h⟩:=zag h
   refine gq (zbj (by kernel_rfl) rfl rfl n8.1 n8.2 (gq (zbz (k:= .i64) (r:=(UInt8.toNat (gi a0 0):Int)) (by kernel_rfl) rfl (zjx rfl _) (qa (.xi (UInt8.toNat (gi a0 0):Int)) rfl (gc (zas (sr (qm (.xi (UInt8.toNat (gi a0 0):Int)) rfl (gq (zbi rfl rfl (qa (.xb (decide ((UInt8.toNat (gi a0 0):Int)=1))) rfl (gc (kd (p:=(UInt8.toNat (gi a0 0):Int)=1) rfl h (λ hc h=> ?_) (λ hc h=> ?_))))))))))))))
   .refine zau (sr (qm (.xs a0) rfl (gq (op_lenS (by kernel_rfl) rfl (gq (zby rfl rfl (gc (kd (p:=(List.length a0:Int)<9) rfl h (λ hc h=> ?_) (λ hc h=> ?_)))))))))
    .refine sr (qa (.xi 0) rfl (qa (.exact (.slice none 0 0)) rfl (qa (.xi 0) rfl (gc (zax (zaz (zbe (zaz ?_))))))))
     obtain rfl:=oi h
     refine ke (pt (pt (pt AF0 6 (.xi 0)) 7 (.row 1 zaa [])) 8 (.xi 0)) [] rfl (so (lq rfl (AF.le_put (zep (by decide)) (lq rfl lt0)))) ⟨rfl,rfl⟩
    .refine zaq (zad (sr (qa (.xi 9) rfl (qa (.exact (.slice none 0 0)) rfl (qa (.xi 1) rfl (gc (zax (zbe (zaz ?_)))))))))
     obtain rfl:=oi h
     refine ke (pt (pt (pt AF0 6 (.xi 9)) 7 (.row 1 zaa [])) 8 (.xi 1)) [] rfl (so (lq rfl (AF.le_put (zep (by decide)) (lq rfl lt0)))) ⟨rfl,rfl⟩
   .refine sr (qm (.xi (UInt8.toNat (gi a0 0):Int)) rfl (gq (zbi rfl rfl (qa (.xb (decide ((UInt8.toNat (gi a0 0):Int)=2))) rfl (gc (kd (p:=(UInt8.toNat (gi a0 0):Int)=2) rfl h (λ hc h=> ?_) (λ hc h=> ?_)))))))
    .refine zau (sr (qm (.xs a0) rfl ?_))
     obtain⟨n9,h⟩:=zag h
     refine gq (zbj (by kernel_rfl) rfl rfl n9.1 n9.2 (gq (op_gtrU (a:=(gi a0 1)) (b:=1) rfl rfl (gc (kd (p:=1<(gi a0 1)) rfl h (λ hc h=> ?_) (λ hc h=> ?_))))))
     .refine sr (qa (.xi 0) rfl (qa (.exact (.slice none 0 0)) rfl (qa (.xi 0) rfl (gc (zax (zaz (zbe (zaz ?_))))))))
      obtain rfl:=oi h
      refine ke (pt (pt (pt AF0 6 (.xi 0)) 7 (.row 1 zaa [])) 8 (.xi 0)) [] rfl (so (lq rfl (AF.le_put (zep (by decide)) (lq rfl lt0)))) ⟨rfl,rfl⟩
     .refine zaq (zad (sr (qa (.xi 2) rfl (qa (.exact (.slice none 0 0)) rfl (qa (.xi 1) rfl (gc (zax (zbe (zaz ?_)))))))))
      obtain rfl:=oi h
      refine ke (pt (pt (pt AF0 6 (.xi 2)) 7 (.row 1 zaa [])) 8 (.xi 1)) [] rfl (so (lq rfl (AF.le_put (zep (by decide)) (lq rfl lt0)))) ⟨rfl,rfl⟩
    .refine zbb h (λ(q:Bool)=>(pt (pt (pt (pt (pt AF0 0 (.xs a0)) 1 (.xi a1)) 2 (.xb a2)) 9 (.xi (UInt8.toNat (gi a0 0):Int))) 40 (.xb q))) (λ(q:Bool)=>[]) (λ k10 h=> ?_) (λ q h=> ?_)
     .refine kr (qm (.xs a0) rfl (gq (op_lenS (by kernel_rfl) rfl (gq (zby rfl rfl (qm (.xb (decide ((List.length a0:Int)<3))) rfl (zcm (p:=(List.length a0:Int)<3) 44 rfl (λ hc=> ?_) (λ hc=> ?_))))))))
      .replace h:=zdb h hc
       refine gn (gn (gq (zat rfl (av:= .xb true) rfl (qm (.xb true) rfl (gn (gn (gq (zat rfl (av:= .xb true) rfl (qa (.xb true) rfl (zay (zab ⟨_,h,so (l4 rfl rfl rfl rfl (lq rfl lt0))⟩)))))))))))
      .replace h:=zdc h hc
       refine gy (zae (av:= .xi (UInt8.toNat (gi a0 0):Int)) rfl (gy (zby rfl rfl (gq (zao rfl (av:= .xb (decide ((UInt8.toNat (gi a0 0):Int)<3))) rfl (qm (.xb (decide ((UInt8.toNat (gi a0 0):Int)<3))) rfl (zcm (p:=(UInt8.toNat (gi a0 0):Int)<3) 48 rfl (λ hc=> ?_) (λ hc=> ?_))))))))
       .replace h:=zdb h hc
        refine gn (gn (gq (zat rfl (av:= .xb true) rfl (qa (.xb true) rfl (zay (zab ⟨_,h,so (l4 rfl rfl rfl rfl (lq rfl lt0))⟩))))))
       .replace h:=zdc h hc
        refine gy (zae (av:= .xi (UInt8.toNat (gi a0 0):Int)) rfl (gy (zlh rfl rfl (gq (zao rfl (av:= .xb (decide (10<(UInt8.toNat (gi a0 0):Int)))) rfl (qa (.xb (decide (10<(UInt8.toNat (gi a0 0):Int)))) rfl (zay (zab ⟨_,h,so (l4 rfl rfl rfl rfl (lq rfl lt0))⟩))))))))
     .refine kb (p:=q) rfl h (λ hc h=> ?_) (λ hc h=> ?_)
      .refine sr (qa (.xi 0) rfl (qa (.exact (.slice none 0 0)) rfl (qa (.xi 0) rfl (gc (zax (zbe (zaz ?_)))))))
       obtain rfl:=oi h
       refine ke (pt (pt (pt AF0 6 (.xi 0)) 7 (.row 1 zaa [])) 8 (.xi 0)) [] rfl (so (lq rfl (AF.le_put (zep (by decide)) (lq rfl lt0)))) ⟨rfl,rfl⟩
      .refine sr (qm (.xi (UInt8.toNat (gi a0 0):Int)) rfl (gq (zbi rfl rfl (qa (.xb (decide ((UInt8.toNat (gi a0 0):Int)=10))) rfl (gc (kd (p:=(UInt8.toNat (gi a0 0):Int)=10) rfl h (λ hc h=> ?_) (λ hc h=> ?_)))))))
       .refine sr (qa (.xi 3) rfl (qa (.exact (.slice none 0 0)) rfl (qa (.xi 1) rfl (gc (zax (zbe (zaz ?_)))))))
        obtain rfl:=oi h
        refine ke (pt (pt (pt AF0 6 (.xi 3)) 7 (.row 1 zaa [])) 8 (.xi 1)) [] rfl (so (lq rfl (AF.le_put (zep (by decide)) (lq rfl lt0)))) ⟨rfl,rfl⟩
       .refine zaq (zar (zad (zau (zdy [] [(0,0),(0,1),(0,2),(0,3),(0,4),(0,5),(0,6),(0,7),(0,8)] hmixP (by kernel_rfl) (pq rfl (zae (av:= .xs a0) rfl ?_))))))
        obtain⟨n11,h⟩:=zag h
        refine pq rfl (zbj (by kernel_rfl) rfl rfl n11.1 n11.2 (pq rfl (zbz (k:= .i64) (r:=(UInt8.toNat (gi a0 1):Int)) (by kernel_rfl) rfl (zjx rfl _) (pq rfl (op_shl rfl rfl (by decide) rfl (pq rfl (zae (av:= .xs a0) rfl ?_)))))))
        obtain⟨n12,h⟩:=zag h
        refine pq rfl (zbj (by kernel_rfl) rfl rfl n12.1 n12.2 (pq rfl (zbz (k:= .i64) (r:=(UInt8.toNat (gi a0 2):Int)) (by kernel_rfl) rfl (zjx rfl _) (pq rfl (op_or rfl rfl rfl (pq rfl (zba (av:= .xi (bOr .i64 (i64 ((UInt8.toNat (gi a0 1):Int)*2^min (Int.toNat 8) IntKind.i64.bits)) (UInt8.toNat (gi a0 2):Int))) rfl (zdu (zad (sr (qa (.xi 3) rfl (qa (.xi 0) rfl (gd (qa (.exact (.slice none 0 0)) rfl (gc (k_join3_1 h (λ(e:Int) (f:Int) (w:List (List UInt8)) (v13_j13:Value)=>(pt (pt (pt (pt (pt AF0 0 (.xs a0)) 2 (.xb a2)) 11 (.xi e)) 12 (.xi f)) 13 (.exact v13_j13))) (λ(e:Int) (f:Int) (w:List (List UInt8)) (v13_j13:Value)=>[vecT Tryz.prog 26 1 zaa v13_j13 w]) (λ k13 h=> ?_) (λ e f w v13_j13 h=> ?_)))))))))))))))))
        .refine sr (qa (.xi 0) rfl (gc (zas (k_loop4_1 (zgu j a0 a1 a2 k13) (znb j a0 a1 a2 k13) (λ _ _ _ _=>rfl) (λ m _ _ _ _=>rfl) h (λ(d:Int) (l:Int) (x:List (List UInt8)) (g:Int) (v13_l2:Value)=>(pt (pt (pt (pt (pt (pt (pt (pt AF0 0 (.xs a0)) 1 (.xi a1)) 2 (.xb a2)) 10 (.xi (bOr .i64 (i64 ((UInt8.toNat (gi a0 1):Int)*2^min (Int.toNat 8) IntKind.i64.bits)) (UInt8.toNat (gi a0 2):Int)))) 11 (.xi d)) 12 (.xi l)) 13 (.exact v13_l2)) 14 (.xi g))) (λ(d:Int) (l:Int) (x:List (List UInt8)) (g:Int) (v13_l2:Value)=>[vecT Tryz.prog 26 1 zaa v13_l2 x]) (.slice none 0 0) ?_ (λ A d l x g v13_l2 h=> ?_)))))
         .refine Sub.trans (SubU.to (SubU.nilT (P:=Tryz.prog) (t:=26) (n:=1) (enc:=zaa))) (so (l4 rfl rfl rfl rfl (l4 rfl rfl rfl rfl lt0)))
         .unfold znb at h
          refine zau (sr (qm (.xi g) rfl (qm (.xi (bOr .i64 (i64 ((UInt8.toNat (gi a0 1):Int)*2^min (Int.toNat 8) IntKind.i64.bits)) (UInt8.toNat (gi a0 2):Int))) rfl (gq (zby rfl rfl (gc (kd (p:=g<(bOr .i64 (i64 ((UInt8.toNat (gi a0 1):Int)*2^min (Int.toNat 8) IntKind.i64.bits)) (UInt8.toNat (gi a0 2):Int))) rfl h (λ hc h=> ?_) (λ hc h=> ?_))))))))
          .refine zaq (zad (zau (zas (sr (qm (.xs a0) rfl (qm (.xi d) rfl ?_))))))
           obtain⟨n40,h⟩:=zag h
           refine gq (zkn (by kernel_rfl) rfl (zef rfl) zel n40.1 n40.2 (Int.le_refl _) (qm (.xi a1) rfl (gq (zfo rfl rfl rfl (qm (.xb a2) rfl ?_)))))
           obtain⟨y41,y,h⟩:=zac h
           refine gq (zai (hself_ref9_walk _ _ _ _ y) func107 (by kernel_rfl) (lc lf (lc lf (lc lf ln))) (qm (.tup [.xi y41.1, .row 1 zaa y41.2.1, .xi y41.2.2]) rfl (gq (zbh (av:= .xi y41.1) rfl rfl (gq (zbh (av:= .row 1 zaa y41.2.1) rfl rfl (gq (zbh (av:= .xi y41.2.2) rfl rfl (qa (.xi y41.1) rfl (qa (.row 1 zaa y41.2.1) rfl (qa (.xi y41.2.2) rfl (gc (zau (sr (qm (.xi y41.1) rfl (gq (zbi rfl rfl (gc (kd (p:=y41.1=0) rfl h (λ hc h=> ?_) (λ hc h=> ?_))))))))))))))))))))
           .refine sr (qa (.xi 0) rfl (qa (.exact (.slice none 0 0)) rfl (qa (.xi 0) rfl (gc (zax (zaz (zbe (zaz (zbr (zbe (zbr ?_)))))))))))
            obtain rfl:=oi h
            refine ke (pt (pt (pt AF0 6 (.xi 0)) 7 (.row 1 zaa [])) 8 (.xi 0)) [] rfl (Sub.trans (SubU.to SubU.drop) (so (lq rfl (AF.le_put (zep (by decide)) (lq rfl lt0))))) ⟨rfl,rfl⟩
           .refine zaq (zad (sr (qm (.exact v13_l2) rfl (qm (.xs a0) rfl (qm (.xi d) rfl (qm (.xi d) rfl (qm (.xi y41.1) rfl (gq (zbx rfl rfl rfl ?_)))))))))
            obtain⟨n42,h⟩:=zag h
            refine gq (op_slice_str (by kernel_rfl) rfl (zef rfl) (zef rfl) n42.1 n42.2.1 n42.2.2 (gq (zcf (n:=1) (enc:=zaa) [List.take (Int.toNat (i64 (d+y41.1)) - Int.toNat d) (List.drop (Int.toNat d) a0)] (CellsAll.cons rfl CellsOf.str CellsAll.nil) rfl (by kernel_rfl) (LEss.cons (lc lf ln) LEss.nil) ?_)))
            obtain⟨n43,h⟩:=zag h
            refine G_l rfl (zeb (by kernel_rfl) rfl rfl zcr n43 (λ v44=>qa (.exact v44) rfl (gd (qm (.xi d) rfl (qm (.xi y41.1) rfl (gq (zbx rfl rfl rfl (qa (.xi (i64 (d+y41.1))) rfl (gc (kr (qm (.xi l) rfl (qm (.xi y41.2.2) rfl (gq (op_max rfl rfl (qa (.xi (max l y41.2.2)) rfl (zay (zar (zad (kr (qm (.xi g) rfl (gq (zbx rfl rfl rfl (qa (.xi (i64 (g+1))) rfl (zay (zab ⟨_,_,_,_,v44,h,so (l4 rfl rfl rfl rfl (l4 rfl rfl rfl rfl lt0))⟩)))))))))))))))))))))))))
          .refine zcl (zbo (zbu (zbn (zab ⟨_,_,_,v13_l2,h,so (l4 rfl rfl rfl rfl (lq rfl lt0))⟩))))
        .refine zau (k_join2_0 h (λ(i:List (List UInt8)) (u:Bool)=>(pt (pt (pt (pt AF0 11 (.xi e)) 12 (.xi f)) 13 (.row 1 zaa i)) 104 (.xb u))) (λ(i:List (List UInt8)) (u:Bool)=>[]) (λ k51 h=> ?_) (λ i u h=> ?_))
         .refine kr (qm (.xb a2) rfl (qm (.xb a2) rfl (G_splitB (c:=a2) 97 rfl (λ hc=> ?_) (λ hc=> ?_))))
          .replace h:=zdb h hc
           refine gy (zae (av:= .xs a0) rfl ?_)
           obtain⟨n54,h⟩:=zag h
           refine gy (zbj (by kernel_rfl) rfl rfl n54.1 n54.2 (gy (zbz (k:= .i64) (r:=(UInt8.toNat (gi a0 0):Int)) (by kernel_rfl) rfl (zjx rfl _) (gy (zae (av:= .exact v13_j13) rfl (G_sub rfl (SubU.freezeT2 (s1:=13) (s2:=101) rfl rfl zbd) ?_))))))
           obtain⟨y55,z,h⟩:=zac h
           refine gy (zai (m_ref9_parted_ok j hself_ref9_walk v hself_ref9_order _ _ _ z) func138 (by kernel_rfl) (lc lf (lc lf ln)) (gy (zgf rfl (gq (zat rfl (av:= .xb (!y55)) rfl (zay (zab ⟨_,_,h,s4 rfl rfl rfl rfl⟩)))))))
          .replace h:=zdc h hc
           refine gn (gn (gn (gn (gn (gn (gq (zao rfl (av:= .xb false) rfl (zay (zab ⟨_,_,h, ?_⟩)))))))))
           refine Sub.trans (SubU.to (SubU.freezeT (s:=13) rfl zbd)) (s4 rfl rfl rfl rfl)
         .refine kb (p:=u) rfl h (λ hc h=> ?_) (λ hc h=> ?_)
          .refine sr (qa (.xi 0) rfl (qa (.exact (.slice none 0 0)) rfl (qa (.xi 0) rfl (gc (zax (zaz ?_))))))
           obtain rfl:=oi h
           refine ke (pt (pt (pt AF0 6 (.xi 0)) 7 (.row 1 zaa [])) 8 (.xi 0)) [] rfl (so (lq rfl (AF.le_put (zep (by decide)) (lq rfl lt0)))) ⟨rfl,rfl⟩
          .refine zaq (zad (sr (qm (.xi e) rfl (qm (.row 1 zaa i) rfl (qm (.xi f) rfl (gq (zbx rfl rfl rfl (qa (.xi e) rfl (qa (.row 1 zaa i) rfl (qa (.xi (i64 (f+1))) rfl (gc (zax ?_))))))))))))
           obtain rfl:=oi h
           refine ke (pt (pt (pt AF0 6 (.xi e)) 7 (.row 1 zaa i)) 8 (.xi (i64 (f+1)))) [] rfl (s3 rfl rfl rfl) ⟨rfl,rfl⟩
theorem m_ref9_sign_ok (a0:Bool) (a1:Bool) (r:Int) (h:zka a0 a1=some r):Pure Tryz.prog 113 [(.exact (.bool a0)),(.exact (.bool a1))] (.exact (.int .i64 r)):=by
 unfold zka at h
 refine Pure.ofFun (zan func113 rfl ntmps113 (by simp) rfl (res1 rfl) λ E hE=>zca (sr (qa (.xi 0) rfl (gc (zau (zas (sr (qm (.xb a0) rfl (qa (.xb a0) rfl (gc (kb (p:=a0) rfl h (λ hc h=> ?_) (λ hc h=> ?_))))))))))))
 .refine sr (qa (.xi (-1)) rfl (gc (zax (zbe (zaz ?_)))))
  obtain rfl:=oi h
  refine ke (pt AF0 4 (.xi (-1))) [] rfl (s1 rfl) ⟨rfl,rfl⟩
 .refine sr (qm (.xb a1) rfl (qa (.xb a1) rfl (gc (kb (p:=a1) rfl h (λ hc h=> ?_) (λ hc h=> ?_)))))
  .refine sr (qa (.xi 1) rfl (gc (zax (zbe (zaz ?_)))))
   obtain rfl:=oi h
   refine ke (pt AF0 4 (.xi 1)) [] rfl (s1 rfl) ⟨rfl,rfl⟩
  .refine zaq (zar (zad (sr (qa (.xi 0) rfl (gc (zax ?_))))))
   obtain rfl:=oi h
   refine ke (pt AF0 4 (.xi 0)) [] rfl (s1 rfl) ⟨rfl,rfl⟩
theorem m_ref9_order_F_ok (g:(List UInt8)->Int->Bool->Option (Int×(List (List UInt8))×Int)) (hself_ref9_walk: ∀(a0:List UInt8) (a1:Int) (a2:Bool) (r:Int×(List (List UInt8))×Int),g a0 a1 a2=some r->Pure Tryz.prog 107 [(.exact (.string (bs a0))),(.exact (.int .i64 a1)),(.exact (.bool a2))] (.tup [.exact (.int .i64 r.1), .row 1 zaa r.2.1, .exact (.int .i64 r.2.2)])) (d:(List UInt8)->(List UInt8)->Option Int) (hself_ref9_order: ∀(a0:List UInt8) (a1:List UInt8) (r:Int),d a0 a1=some r->Pure Tryz.prog 112 [(.exact (.string (bs a0))),(.exact (.string (bs a1)))] (.exact (.int .i64 r))) (a0:List UInt8) (a1:List UInt8) (r:Int) (h:m_ref9_order_F g d a0 a1=some r):Pure Tryz.prog 112 [(.exact (.string (bs a0))),(.exact (.string (bs a1)))] (.exact (.int .i64 r)):=by
 unfold m_ref9_order_F at h
 refine Pure.ofFun (zan func112 rfl ntmps112 (by simp) rfl (res1 rfl) λ E hE=>zca (sr (qa (.xi 0) rfl (gc (zau (zas (sr (qm (.xs a0) rfl (qm (.xs a1) rfl (gq (op_eqlS rfl rfl (qa (.xb (decide (a0=a1))) rfl (gc (kd (p:=a0=a1) rfl h (λ hc h=> ?_) (λ hc h=> ?_)))))))))))))))
 .refine sr (qa (.xi 0) rfl (gc (zax (zbe (zaz ?_)))))
  obtain rfl:=oi h
  refine ke (pt AF0 4 (.xi 0)) [] rfl (s1 rfl) ⟨rfl,rfl⟩
 .refine zau (zdy [] [(0,0),(0,1),(0,2),(0,3),(0,4),(0,5)] hmixP (by kernel_rfl) (pq rfl (zae (av:= .xs a0) rfl ?_)))
  obtain⟨n19,h⟩:=zag h
  refine pq rfl (zbj (by kernel_rfl) rfl rfl n19.1 n19.2 (pq rfl (zae (av:= .xs a1) rfl ?_)))
  obtain⟨n20,h⟩:=zag h
  refine pq rfl (zbj (by kernel_rfl) rfl rfl n20.1 n20.2 (pq rfl (op_neqU (a:=(gi a0 0)) (b:=(gi a1 0)) rfl rfl (pq rfl (zba (av:= .xb (decide (¬(gi a0 0)=(gi a1 0)))) rfl (zdu (zad (kd (p:= ¬(gi a0 0)=(gi a1 0)) rfl h (λ hc h=> ?_) (λ hc h=> ?_)))))))))
  .refine zau (zdy [] [(0,0),(0,1),(0,2),(0,3),(0,4),(0,5),(0,6)] hmixP (by kernel_rfl) (pq rfl (zae (av:= .xs a0) rfl ?_)))
   obtain⟨n21,h⟩:=zag h
   refine pq rfl (zbj (by kernel_rfl) rfl rfl n21.1 n21.2 (pq rfl (zae (av:= .xs a1) rfl ?_)))
   obtain⟨n22,h⟩:=zag h
   refine pq rfl (zbj (by kernel_rfl) rfl rfl n22.1 n22.2 (pq rfl (op_lssU (a:=(gi a0 0)) (b:=(gi a1 0)) rfl rfl ?_)))
   obtain⟨y23,i,h⟩:=zac h
   refine pq rfl (zai (m_ref9_sign_ok _ _ _ i) func113 (by kernel_rfl) (lc lf (lc lf ln)) (pq rfl (zba (av:= .xi y23) rfl (zdu (zad (zax (zbe (zaz ?_))))))))
   obtain rfl:=oi h
   refine ke (pt AF0 4 (.xi y23)) [] rfl (s1 rfl) ⟨rfl,rfl⟩
  .refine sr (qm (.xs a0) rfl ?_)
   obtain⟨n24,h⟩:=zag h
   refine gq (zbj (by kernel_rfl) rfl rfl n24.1 n24.2 (gq (zbz (k:= .i64) (r:=(UInt8.toNat (gi a0 0):Int)) (by kernel_rfl) rfl (zjx rfl _) (gq (zbi rfl rfl (qa (.xb (decide ((UInt8.toNat (gi a0 0):Int)=1))) rfl (gc (kd (p:=(UInt8.toNat (gi a0 0):Int)=1) rfl h (λ hc h=> ?_) (λ hc h=> ?_)))))))))
   .refine zau (zdy [] [(0,0),(0,1),(0,2),(0,3),(0,4),(0,5),(0,6),(0,7)] hmixP (by kernel_rfl) (pq rfl (zae (av:= .xs a0) rfl ?_)))
    obtain⟨n25,h⟩:=zag h
    refine pq rfl (zkn (by kernel_rfl) rfl (zef rfl) zel (by decide) n25 (Int.le_refl _) ?_)
    obtain⟨y26,j,h⟩:=zac h
    refine pq rfl (zai (m_ref9_number_ok _ _ j) func106 (by kernel_rfl) (lc lf ln) (pq rfl (zae (av:= .xs a1) rfl ?_)))
    obtain⟨n27,h⟩:=zag h
    refine pq rfl (zkn (by kernel_rfl) rfl (zef rfl) zel (by decide) n27 (Int.le_refl _) ?_)
    obtain⟨y28,l,h⟩:=zac h
    refine pq rfl (zai (m_ref9_number_ok _ _ l) func106 (by kernel_rfl) (lc lf ln) (pq rfl (zba (av:= .xi y26) rfl (pq rfl (zba (av:= .xi y28) rfl (zdu (zad (sr (qm (.xi y26) rfl (qm (.xi y28) rfl (gq (zby rfl rfl (qm (.xi y26) rfl (qm (.xi y28) rfl (gq (zlh rfl rfl ?_))))))))))))))))
    obtain⟨y29,n,h⟩:=zac h
    refine gq (zai (m_ref9_sign_ok _ _ _ n) func113 (by kernel_rfl) (lc lf (lc lf ln)) (qa (.xi y29) rfl (gc (zax (zbe (zaz ?_))))))
    obtain rfl:=oi h
    refine ke (pt AF0 4 (.xi y29)) [] rfl (s1 rfl) ⟨rfl,rfl⟩
   .refine zbb h (λ(e:Bool)=>(pt (pt (pt AF0 0 (.xs a0)) 1 (.xs a1)) 49 (.xb e))) (λ(e:Bool)=>[]) (λ k30 h=> ?_) (λ e h=> ?_)
    .refine kr (qm (.xs a0) rfl ?_)
     obtain⟨n33,h⟩:=zag h
     refine gq (zbj (by kernel_rfl) rfl rfl n33.1 n33.2 (gq (zbz (k:= .i64) (r:=(UInt8.toNat (gi a0 0):Int)) (by kernel_rfl) rfl (zjx rfl _) (gq (zbi rfl rfl (qm (.xb (decide ((UInt8.toNat (gi a0 0):Int)=2))) rfl (zcm (p:=(UInt8.toNat (gi a0 0):Int)=2) 54 rfl (λ hc=> ?_) (λ hc=> ?_))))))))
     .replace h:=zdb h hc
      refine gn (gn (gn (gn (gq (zat rfl (av:= .xb true) rfl (qa (.xb true) rfl (zay (zab ⟨_,h,s3 rfl rfl rfl⟩))))))))
     .replace h:=zdc h hc
      refine gy (zae (av:= .xs a0) rfl ?_)
      obtain⟨n34,h⟩:=zag h
      refine gy (zbj (by kernel_rfl) rfl rfl n34.1 n34.2 (gy (zbz (k:= .i64) (r:=(UInt8.toNat (gi a0 0):Int)) (by kernel_rfl) rfl (zjx rfl _) (gy (zbi rfl rfl (gq (zao rfl (av:= .xb (decide ((UInt8.toNat (gi a0 0):Int)=10))) rfl (qa (.xb (decide ((UInt8.toNat (gi a0 0):Int)=10))) rfl (zay (zab ⟨_,h,s3 rfl rfl rfl⟩))))))))))
    .refine kb (p:=e) rfl h (λ hc h=> ?_) (λ hc h=> ?_)
     .refine sr (qm (.xs a0) rfl (qm (.xs a1) rfl (gq (op_lssS rfl rfl (qm (.xs a0) rfl (qm (.xs a1) rfl (gq (op_gtrS rfl rfl ?_))))))))
      obtain⟨y35,o,h⟩:=zac h
      refine gq (zai (m_ref9_sign_ok _ _ _ o) func113 (by kernel_rfl) (lc lf (lc lf ln)) (qa (.xi y35) rfl (gc (zax (zbe (zaz ?_))))))
      obtain rfl:=oi h
      refine ke (pt AF0 4 (.xi y35)) [] rfl (s1 rfl) ⟨rfl,rfl⟩
     .refine zaq (zar (zad (sr (qm (.xs a0) rfl ?_))))
      obtain⟨y36,q,h⟩:=zac h
      refine gq (zai (hself_ref9_walk _ _ _ _ q) func107 (by kernel_rfl) (lc lf (lc lf (lc lf ln))) (qm (.tup [.xi y36.1, .row 1 zaa y36.2.1, .xi y36.2.2]) rfl (gq (zbh (av:= .xi y36.1) rfl rfl (gq (zbh (av:= .row 1 zaa y36.2.1) rfl rfl (gq (zbh (av:= .xi y36.2.2) rfl rfl (qa (.xi y36.1) rfl (qa (.row 1 zaa y36.2.1) rfl (qa (.xi y36.2.2) rfl (gd (qm (.xs a1) rfl ?_)))))))))))))
      obtain⟨y37,s,h⟩:=zac h
      refine gq (zai (hself_ref9_walk _ _ _ _ s) func107 (by kernel_rfl) (lc lf (lc lf (lc lf ln))) (qm (.tup [.xi y37.1, .row 1 zaa y37.2.1, .xi y37.2.2]) rfl (gq (zbh (av:= .xi y37.1) rfl rfl (gq (zbh (av:= .row 1 zaa y37.2.1) rfl rfl (gq (zbh (av:= .xi y37.2.2) rfl rfl (qa (.xi y37.1) rfl (qa (.row 1 zaa y37.2.1) rfl (qa (.xi y37.2.2) rfl (gc (zdq h ((pt (pt AF0 8 (.row 1 zaa y36.2.1)) 11 (.row 1 zaa y37.2.1))) ([]) (λ k38 h=> ?_) (λ  h=> ?_))))))))))))))
      .refine sr (qa (.xi 0) rfl (gc (zas (zen (m_ref9_order_L2 d y36 y37 k38) (m_ref9_order_B2 d y36 y37 k38) (λ _=>rfl) (λ m _=>rfl) h (λ(c:Int)=>(pt (pt (pt AF0 8 (.row 1 zaa y36.2.1)) 11 (.row 1 zaa y37.2.1)) 13 (.xi c))) (λ(c:Int)=>[]) ?_ (λ v c h=> ?_)))))
       .exact s3 rfl rfl rfl
       .unfold m_ref9_order_B2 at h
        refine zau (zbb h (λ(f:Bool)=>(pt (pt (pt (pt AF0 8 (.row 1 zaa y36.2.1)) 11 (.row 1 zaa y37.2.1)) 13 (.xi c)) 88 (.xb f))) (λ(f:Bool)=>[]) (λ k72 h=> ?_) (λ f h=> ?_))
        .refine kr (qm (.xi c) rfl (qm (.row 1 zaa y36.2.1) rfl (gq (zaw (by kernel_rfl) rfl (gq (zby rfl rfl (qm (.xb (decide (c<(List.length y36.2.1:Int)))) rfl (zcm (p:=c<(List.length y36.2.1:Int)) 83 rfl (λ hc=> ?_) (λ hc=> ?_)))))))))
         .replace h:=zdb h hc
          refine gy (zae (av:= .xi c) rfl (gy (zae (av:= .row 1 zaa y37.2.1) rfl (gy (zaw (by kernel_rfl) rfl (gy (zby rfl rfl (gq (zat rfl (av:= .xb (decide (c<(List.length y37.2.1:Int)))) rfl (zay (zab ⟨_,h,s4 rfl rfl rfl rfl⟩)))))))))))
         .replace h:=zdc h hc
          refine gn (gn (gn (gn (gq (zao rfl (av:= .xb false) rfl (zay (zab ⟨_,h,s4 rfl rfl rfl rfl⟩)))))))
        .refine kb (p:=f) rfl h (λ hc h=> ?_) (λ hc h=> ?_)
         .refine zaq (zad (zau (zas (zau (zdy [] [(0,0),(0,1),(0,2),(0,3),(0,4),(0,5),(0,6),(0,7),(0,8),(0,9)] hmixP (by kernel_rfl) (pq rfl (zae (av:= .row 1 zaa y36.2.1) rfl (pq rfl (zae (av:= .xi c) rfl ?_)))))))))
          obtain⟨n73,h⟩:=zag h
          refine pq rfl (zaj (by kernel_rfl) rfl rfl n73.1 n73.2 (pq rfl (zap (a:= .xs (gi y36.2.1 c)) (by kernel_rfl) rfl rfl (pq rfl (zae (av:= .row 1 zaa y37.2.1) rfl (pq rfl (zae (av:= .xi c) rfl ?_)))))))
          obtain⟨n74,h⟩:=zag h
          refine pq rfl (zaj (by kernel_rfl) rfl rfl n74.1 n74.2 (pq rfl (zap (a:= .xs (gi y37.2.1 c)) (by kernel_rfl) rfl rfl ?_)))
          obtain⟨y75,t,h⟩:=zac h
          refine pq rfl (zai (hself_ref9_order _ _ _ t) func112 (by kernel_rfl) (lc lf (lc lf ln)) (pq rfl (zba (av:= .xi y75) rfl (zdu (zad (sr (qm (.xi y75) rfl (gq (zlq rfl rfl (gc (kd (p:= ¬y75=0) rfl h (λ hc h=> ?_) (λ hc h=> ?_))))))))))))
          .refine sr (qm (.xi y75) rfl (qa (.xi y75) rfl (gc (zax (zbe (zaz (zbr (zbe (zbr ?_)))))))))
           obtain rfl:=oi h
           refine ke (pt AF0 4 (.xi y75)) [] rfl (s1 rfl) ⟨rfl,rfl⟩
          .refine zaq (zar (zad (kr (qm (.xi c) rfl (gq (zbx rfl rfl rfl (qa (.xi (i64 (c+1))) rfl (zay (zab ⟨_,h,s3 rfl rfl rfl⟩)))))))))
         .refine zcl (zbo (zbu (zbn (zab ⟨h,s2 rfl rfl⟩))))
      .refine sr (qm (.row 1 zaa y36.2.1) rfl (gq (zaw (by kernel_rfl) rfl (qm (.row 1 zaa y37.2.1) rfl (gq (zaw (by kernel_rfl) rfl (gq (zby rfl rfl (qm (.row 1 zaa y36.2.1) rfl (gq (zaw (by kernel_rfl) rfl (qm (.row 1 zaa y37.2.1) rfl (gq (zaw (by kernel_rfl) rfl (gq (zlh rfl rfl ?_))))))))))))))))
       obtain⟨y76,u,h⟩:=zac h
       refine gq (zai (m_ref9_sign_ok _ _ _ u) func113 (by kernel_rfl) (lc lf (lc lf ln)) (qa (.xi y76) rfl (gc (zax ?_))))
       obtain rfl:=oi h
       refine ke (pt AF0 4 (.xi y76)) [] rfl (s1 rfl) ⟨rfl,rfl⟩
end
noncomputable section
open Go.RowKit
attribute [local irreducible] AV.exact AV.top AV.row AV.ptr AV.agg AV.tup AV.eptr AV.fn AV.nilq AV.nilqn opA opB opM opR Quiet Loud Reads wpG awp den Sub SubU Pure Fun vecI vecT boxI CellsAll CellsOf OneC LEs LEss
set_option maxRecDepth 100000
set_option maxHeartbeats 4000000
theorem m_ref9_walk_S_ok: ∀n:Nat,(∀(a0:List UInt8) (a1:Int) (a2:Bool) (r:Int×(List (List UInt8))×Int),(zbt n).1 a0 a1 a2=some r->Pure Tryz.prog 107 [(.exact (.string (bs a0))),(.exact (.int .i64 a1)),(.exact (.bool a2))] (.tup [.exact (.int .i64 r.1), .row 1 zaa r.2.1, .exact (.int .i64 r.2.2)]))/\(∀(a0:List UInt8) (a1:List UInt8) (r:Int),(zbt n).2 a0 a1=some r->Pure Tryz.prog 112 [(.exact (.string (bs a0))),(.exact (.string (bs a1)))] (.exact (.int .i64 r)))
  |0=>⟨(λ _ _ _ _ h=>by have h':(none:Option _)=some _:=h;cases h'),(λ _ _ _ h=>by have h':(none:Option _)=some _:=h;cases h')⟩
  |n+1=>by
    have ih:=m_ref9_walk_S_ok n
    exact⟨λ a0 a1 a2 r h=>m_ref9_walk_F_ok (zbt n).1 ih.1 (zbt n).2 ih.2 a0 a1 a2 r h,λ a0 a1 r h=>m_ref9_order_F_ok (zbt n).1 ih.1 (zbt n).2 ih.2 a0 a1 r h⟩
theorem m_ref9_walk_ok (a0:List UInt8) (a1:Int) (a2:Bool) (r:Int×(List (List UInt8))×Int) (h:m_ref9_walk a0 a1 a2=some r):Pure Tryz.prog 107 [(.exact (.string (bs a0))),(.exact (.int .i64 a1)),(.exact (.bool a2))] (.tup [.exact (.int .i64 r.1), .row 1 zaa r.2.1, .exact (.int .i64 r.2.2)]):=(m_ref9_walk_S_ok FU).1 a0 a1 a2 r h
theorem m_ref9_order_ok (a0:List UInt8) (a1:List UInt8) (r:Int) (h:m_ref9_order a0 a1=some r):Pure Tryz.prog 112 [(.exact (.string (bs a0))),(.exact (.string (bs a1)))] (.exact (.int .i64 r)):=(m_ref9_walk_S_ok FU).2 a0 a1 r h
theorem m_ref9_read_ok (a0:List UInt8) (a1:Int) (r:Int×(List (List UInt8))×Int) (h:m_ref9_read a0 a1=some r):Pure Tryz.prog 124 [(.exact (.string (bs a0))),(.exact (.int .i64 a1))] (.tup [.exact (.int .i64 r.1), .row 1 zaa r.2.1, .exact (.int .i64 r.2.2)]):=by
 unfold m_ref9_read at h
 refine Pure.ofFun (zan func124 rfl ntmps124 (by simp) rfl (res3 rfl) λ E hE=>zca (sr (qa (.xi 0) rfl (qa (.exact (.slice none 0 0)) rfl (qa (.xi 0) rfl (gd (qm (.xs a0) rfl (qm (.xi a1) rfl ?_))))))))
 obtain⟨y1,a,h⟩:=zac h
 refine gq (zai (m_ref9_walk_ok _ _ _ _ a) func107 (by kernel_rfl) (lc lf (lc lf (lc lf ln))) (gq (zbh (av:= .xi y1.1) rfl rfl (gq (zbh (av:= .row 1 zaa y1.2.1) rfl rfl (gq (zbh (av:= .xi y1.2.2) rfl rfl (qa (.xi y1.1) rfl (qa (.row 1 zaa y1.2.1) rfl (qa (.xi y1.2.2) rfl (gc (zax ?_))))))))))))
 obtain rfl:=oi h
 refine ke (pt (pt (pt AF0 4 (.xi y1.1)) 5 (.row 1 zaa y1.2.1)) 6 (.xi y1.2.2)) [] rfl (s3 rfl rfl rfl) ⟨rfl,rfl⟩
theorem zli (a0:List UInt8) (r:Bool) (h:ziw a0=some r):Pure Tryz.prog 84 [(.exact (.string (bs a0)))] (.exact (.bool r)):=by
 unfold ziw at h
 refine Pure.ofFun (zan func84 rfl ntmps84 (by simp) rfl (res1 rfl) λ E hE=>zca (sr (qa (.xb false) rfl (gc (zau (sr (qm (.xs a0) rfl (gq (op_lenS (by kernel_rfl) rfl (gq (zlh rfl rfl (gc (kd (p:=131072<(List.length a0:Int)) rfl h (λ hc h=> ?_) (λ hc h=> ?_))))))))))))))
 .refine sr (qa (.xb false) rfl (gc (zax (zaz ?_))))
  obtain rfl:=oi h
  refine ke (pt AF0 2 (.xb false)) [] rfl (s1 rfl) ⟨rfl,rfl⟩
 .refine zaq (zad (sr (qm (.xs a0) rfl ?_)))
  obtain⟨y1,b,h⟩:=zac h
  refine gq (zai (m_ref9_read_ok _ _ _ b) func124 (by kernel_rfl) (lc lf (lc lf ln)) (qm (.tup [.xi y1.1, .row 1 zaa y1.2.1, .xi y1.2.2]) rfl (gq (zbh (av:= .xi y1.1) rfl rfl (gq (zbh (av:= .row 1 zaa y1.2.1) rfl rfl (gq (zbh (av:= .xi y1.2.2) rfl rfl (qa (.xi y1.1) rfl (qa (.row 1 zaa y1.2.1) rfl (qa (.xi y1.2.2) rfl (gc (zbb h (λ(a:Bool)=>(pt AF0 2 (.xb a))) (λ(a:Bool)=>[]) (λ k2 h=> ?_) (λ a h=> ?_))))))))))))))
  .refine kr (qm (.xi y1.1) rfl (gq (zlh rfl rfl (qm (.xb (decide (0<y1.1))) rfl (zcm (p:=0<y1.1) 17 rfl (λ hc=> ?_) (λ hc=> ?_))))))
   .replace h:=zdb h hc
    refine gy (zae (av:= .xi y1.1) rfl (gy (zae (av:= .xs a0) rfl (gy (op_lenS (by kernel_rfl) rfl (gy (zbi rfl rfl (gq (zat rfl (av:= .xb (decide (y1.1=(List.length a0:Int)))) rfl (qa (.xb (decide (y1.1=(List.length a0:Int)))) rfl (zay (zab ⟨_,h,s1 rfl⟩))))))))))))
   .replace h:=zdc h hc
    refine gn (gn (gn (gn (gq (zao rfl (av:= .xb false) rfl (qa (.xb false) rfl (zay (zab ⟨_,h,s1 rfl⟩))))))))
  .refine zax ?_
   obtain rfl:=oi h
   refine ke (pt AF0 2 (.xb a)) [] rfl (s1 rfl) ⟨rfl,rfl⟩
theorem m_ref9_all_ok (a0:List (List UInt8)) (r:Bool) (h:m_ref9_all a0=some r):Pure Tryz.prog 114 [(.row 1 zaa a0)] (.exact (.bool r)):=by
 unfold m_ref9_all at h
 refine Pure.ofFun (zan func114 rfl ntmps114 (by simp) rfl (res1 rfl) λ E hE=>zca (sr (qa (.xb false) rfl (gc (zdq h (AF0) ([]) (λ k1 h=> ?_) (λ  h=> ?_))))))
 .refine sr (qa (.xi 0) rfl (gc (zas (zen (zmf a0 k1) (m_ref9_all_B2 a0 k1) (λ _=>rfl) (λ m _=>rfl) h (λ(b:Int)=>(pt (pt AF0 0 (.row 1 zaa a0)) 3 (.xi b))) (λ(b:Int)=>[]) ?_ (λ d b h=> ?_)))))
  .exact s2 rfl rfl
  .unfold m_ref9_all_B2 at h
   refine zau (sr (qm (.xi b) rfl (qm (.row 1 zaa a0) rfl (gq (zaw (by kernel_rfl) rfl (gq (zby rfl rfl (gc (kd (p:=b<(List.length a0:Int)) rfl h (λ hc h=> ?_) (λ hc h=> ?_))))))))))
   .refine zaq (zad (zau (zas (sr (qm (.row 1 zaa a0) rfl (qm (.xi b) rfl ?_))))))
    obtain⟨n13,h⟩:=zag h
    refine gq (zaj (by kernel_rfl) rfl rfl n13.1 n13.2 (gq (zap (a:= .xs (gi a0 b)) (by kernel_rfl) rfl rfl ?_)))
    obtain⟨y14,c,h⟩:=zac h
    refine gq (zai (zli _ _ c) func84 (by kernel_rfl) (lc lf ln) (gq (zgf rfl (gc (kb (p:= !y14) rfl h (λ hc h=> ?_) (λ hc h=> ?_))))))
    .refine sr (qa (.xb false) rfl (gc (zax (zbe (zaz (zbr (zbe (zbr ?_))))))))
     obtain rfl:=oi h
     refine ke (pt AF0 2 (.xb false)) [] rfl (s1 rfl) ⟨rfl,rfl⟩
    .refine zaq (zar (zad (kr (qm (.xi b) rfl (gq (zbx rfl rfl rfl (qa (.xi (i64 (b+1))) rfl (zay (zab ⟨_,h,s2 rfl rfl⟩)))))))))
   .refine zcl (zbo (zbu (zbn (zab ⟨h,Sub.of_le lt0⟩))))
 .refine sr (qa (.xb true) rfl (gc (zax ?_)))
  obtain rfl:=oi h
  refine ke (pt AF0 2 (.xb true)) [] rfl (s1 rfl) ⟨rfl,rfl⟩
theorem m_ref9_two_ok (a0:Int) (r:(List UInt8)) (h:m_ref9_two a0=some r):Pure Tryz.prog 133 [(.exact (.int .i64 a0))] (.exact (.string (bs r))):=by
 unfold m_ref9_two at h
 refine Pure.ofFun (zan func133 rfl ntmps133 (by simp) rfl (res1 rfl) λ E hE=>zca (sr (qa (.xs ([]:List UInt8)) rfl (gd (qm (.xi a0) rfl (gq (op_shr rfl rfl (by decide) rfl (gq (zbz (k:= .u8) (r:=(UInt8.toNat (u8i (Int.fdiv a0 (2^min (Int.toNat 8) IntKind.i64.bits))):Int)) (by kernel_rfl) rfl (u8i_eq _) (qm (.xi a0) rfl (gq (zbz (k:= .u8) (r:=(UInt8.toNat (u8i a0):Int)) (by kernel_rfl) rfl (u8i_eq _) (gq (zcf (n:=1) (enc:=zit) [u8i (Int.fdiv a0 (2^min (Int.toNat 8) IntKind.i64.bits)),u8i a0] (CellsAll.cons rfl CellsOf.int (CellsAll.cons rfl CellsOf.int CellsAll.nil)) rfl (by kernel_rfl) (LEss.cons (lc lf ln) (LEss.cons (lc lf ln) LEss.nil)) (gq (op_bytesS rfl (by kernel_rfl) rfl (qa (.exact (.string (bs [u8i (Int.fdiv a0 (2^min (Int.toNat 8) IntKind.i64.bits)),u8i a0]))) rfl (gc (zax ?_)))))))))))))))))))
 obtain rfl:=oi h
 refine ke (pt AF0 2 (.exact (.string (bs [u8i (Int.fdiv a0 (2^min (Int.toNat 8) IntKind.i64.bits)),u8i a0])))) [] rfl (s1 rfl) ⟨rfl,rfl⟩
theorem m_ref9_checked_ok (a0:List UInt8) (r:(List UInt8)) (h:m_ref9_checked a0=some r):Pure Tryz.prog 150 [(.exact (.string (bs a0)))] (.exact (.string (bs r))):=by
 unfold m_ref9_checked at h
 refine Pure.ofFun (zan func150 rfl ntmps150 (by simp) rfl (res1 rfl) λ E hE=>zca (sr (qa (.xs ([]:List UInt8)) rfl (gc (zau (sr (qm (.xs a0) rfl ?_)))))))
 obtain⟨y1,a,h⟩:=zac h
 refine gq (zai (zli _ _ a) func84 (by kernel_rfl) (lc lf ln) (gc (kb (p:=y1) rfl h (λ hc h=> ?_) (λ hc h=> ?_))))
 .refine sr (qm (.xs a0) rfl (qa (.xs a0) rfl (gc (zax (zaz ?_)))))
  obtain rfl:=oi h
  refine ke (pt AF0 2 (.xs a0)) [] rfl (s1 rfl) ⟨rfl,rfl⟩
 .refine zaq (zad (sr (qa (.xs ([]:List UInt8)) rfl (gc (zax ?_)))))
  obtain rfl:=oi h
  refine ke (pt AF0 2 (.xs ([]:List UInt8))) [] rfl (s1 rfl) ⟨rfl,rfl⟩
theorem m_ref9_compound_ok (a0:Int) (a1:List (List UInt8)) (r:(List UInt8)) (h:znl a0 a1=some r):Pure Tryz.prog 115 [(.exact (.int .i64 a0)),(.row 1 zaa a1)] (.exact (.string (bs r))):=by
 unfold znl at h
 refine Pure.ofFun (zan func115 rfl ntmps115 (by simp) rfl (res1 rfl) λ E hE=>zca (sr (qa (.xs ([]:List UInt8)) rfl (gc (zau (sr (qm (.row 1 zaa a1) rfl (gq (zaw (by kernel_rfl) rfl (gq (zlh rfl rfl (gc (kd (p:=65535<(List.length a1:Int)) rfl h (λ hc h=> ?_) (λ hc h=> ?_))))))))))))))
 .refine sr (qa (.xs ([]:List UInt8)) rfl (gc (zax (zaz ?_))))
  obtain rfl:=oi h
  refine ke (pt AF0 4 (.xs ([]:List UInt8))) [] rfl (s1 rfl) ⟨rfl,rfl⟩
 .refine zaq (zad (zau (zdy [] [(0,0),(0,1),(0,2),(0,3),(0,4),(0,5),(0,6),(0,7),(0,8)] hmixP (by kernel_rfl) (pq rfl (zae (av:= .xi a0) rfl (pq rfl (zbz (k:= .u8) (r:=(UInt8.toNat (u8i a0):Int)) (by kernel_rfl) rfl (u8i_eq _) (pq rfl (zcf (n:=1) (enc:=zit) [u8i a0] (CellsAll.cons rfl CellsOf.int CellsAll.nil) rfl (by kernel_rfl) (LEss.cons (lc lf ln) LEss.nil) (pq rfl (op_bytesS rfl (by kernel_rfl) rfl (pq rfl (zae (av:= .row 1 zaa a1) rfl (pq rfl (zaw (by kernel_rfl) rfl ?_)))))))))))))))
  obtain⟨y1,g,h⟩:=zac h
  refine pq rfl (zai (m_ref9_two_ok _ _ g) func133 (by kernel_rfl) (lc lf ln) ?_)
  obtain⟨n2,h⟩:=zag h
  refine pq rfl (op_addS n2 rfl rfl (pq rfl (zba (av:= .xs ([u8i a0]++y1)) rfl (zdu (zad (zbb h (λ(c:List UInt8)=>(pt (pt AF0 1 (.row 1 zaa a1)) 5 (.xs c))) (λ(c:List UInt8)=>[]) (λ k3 h=> ?_) (λ c h=> ?_)))))))
  .refine sr (qa (.xi 0) rfl (gc (zas (k_loop2_0 (zhf a1 k3) (zmk a1 k3) (λ _ _=>rfl) (λ m _ _=>rfl) h (λ(d:List UInt8) (b:Int)=>(pt (pt (pt AF0 1 (.row 1 zaa a1)) 5 (.xs d)) 6 (.xi b))) (λ(d:List UInt8) (b:Int)=>[]) ?_ (λ l d b h=> ?_)))))
   .exact s3 rfl rfl rfl
   .unfold zmk at h
    refine zau (sr (qm (.xi b) rfl (qm (.row 1 zaa a1) rfl (gq (zaw (by kernel_rfl) rfl (gq (zby rfl rfl (gc (kd (p:=b<(List.length a1:Int)) rfl h (λ hc h=> ?_) (λ hc h=> ?_))))))))))
    .refine zaq (zad (zau (zas (zau (zbb h (λ(e:Bool)=>(pt (pt (pt (pt AF0 1 (.row 1 zaa a1)) 5 (.xs d)) 6 (.xi b)) 36 (.xb e))) (λ(e:Bool)=>[]) (λ k114 h=> ?_) (λ e h=> ?_))))))
     .refine kr (qm (.row 1 zaa a1) rfl (qm (.xi b) rfl ?_))
      obtain⟨n116,h⟩:=zag h
      refine gq (zaj (by kernel_rfl) rfl rfl n116.1 n116.2 (gq (zap (a:= .xs (gi a1 b)) (by kernel_rfl) rfl rfl (gq (op_eqlS rfl rfl (qm (.xb (decide ((gi a1 b)=([]:List UInt8)))) rfl (zcm (p:=(gi a1 b)=([]:List UInt8)) 32 rfl (λ hc=> ?_) (λ hc=> ?_))))))))
      .replace h:=zdb h hc
       refine gn (gn (gn (gq (zat rfl (av:= .xb true) rfl (zay (zab ⟨_,h,s4 rfl rfl rfl rfl⟩))))))
      .replace h:=zdc h hc
       refine gy (zae (av:= .xs d) rfl (gy (op_lenS (by kernel_rfl) rfl (gy (zlh rfl rfl (gq (zao rfl (av:= .xb (decide (131072<(List.length d:Int)))) rfl (zay (zab ⟨_,h,s4 rfl rfl rfl rfl⟩)))))))))
     .refine kb (p:=e) rfl h (λ hc h=> ?_) (λ hc h=> ?_)
      .refine sr (qa (.xs ([]:List UInt8)) rfl (gc (zax (zaz (zbe (zaz (zbr (zbe (zbr ?_)))))))))
       obtain rfl:=oi h
       refine ke (pt AF0 4 (.xs ([]:List UInt8))) [] rfl (s1 rfl) ⟨rfl,rfl⟩
      .refine zaq (zad (kr (qm (.xs d) rfl (qm (.row 1 zaa a1) rfl (qm (.xi b) rfl ?_)))))
       obtain⟨n117,h⟩:=zag h
       refine gq (zaj (by kernel_rfl) rfl rfl n117.1 n117.2 (gq (zap (a:= .xs (gi a1 b)) (by kernel_rfl) rfl rfl ?_)))
       obtain⟨n118,h⟩:=zag h
       refine gq (op_addS n118 rfl rfl (qa (.xs (d++(gi a1 b))) rfl (zay (zar (zad (kr (qm (.xi b) rfl (gq (zbx rfl rfl rfl (qa (.xi (i64 (b+1))) rfl (zay (zab ⟨_,_,h,s3 rfl rfl rfl⟩))))))))))))
    .refine zcl (zbo (zbu (zbn (zab ⟨_,h,s2 rfl rfl⟩))))
  .refine zau (sr (qm (.xs c) rfl ?_))
   obtain⟨y122,i,h⟩:=zac h
   refine gq (zai (m_ref9_read_ok _ _ _ i) func124 (by kernel_rfl) (lc lf (lc lf ln)) (qm (.tup [.xi y122.1, .row 1 zaa y122.2.1, .xi y122.2.2]) rfl (gq (zbh (av:= .xi y122.1) rfl rfl (gq (zbh (av:= .row 1 zaa y122.2.1) rfl rfl (gq (zbh (av:= .xi y122.2.2) rfl rfl (qa (.xi y122.1) rfl (qa (.row 1 zaa y122.2.1) rfl (qa (.xi y122.2.2) rfl (gc (zbb h (λ(f:Bool)=>(pt (pt AF0 5 (.xs c)) 59 (.xb f))) (λ(f:Bool)=>[]) (λ k123 h=> ?_) (λ f h=> ?_))))))))))))))
   .refine kr (qm (.xi y122.1) rfl (qm (.xs c) rfl (gq (op_lenS (by kernel_rfl) rfl (gq (zlq rfl rfl (qm (.xb (decide (¬y122.1=(List.length c:Int)))) rfl (zcm (p:= ¬y122.1=(List.length c:Int)) 53 rfl (λ hc=> ?_) (λ hc=> ?_)))))))))
    .replace h:=zdb h hc
     refine gn (gn (gn (gn (gn (gq (zat rfl (av:= .xb true) rfl (zay (zab ⟨_,h,s2 rfl rfl⟩))))))))
    .replace h:=zdc h hc
     refine gy (zae (av:= .row 1 zaa y122.2.1) rfl (gy (zaw (by kernel_rfl) rfl (gy (zae (av:= .row 1 zaa a1) rfl (gy (zaw (by kernel_rfl) rfl (gy (zlq rfl rfl (gq (zao rfl (av:= .xb (decide (¬(List.length y122.2.1:Int)=(List.length a1:Int)))) rfl (zay (zab ⟨_,h,s2 rfl rfl⟩)))))))))))))
   .refine kb (p:=f) rfl h (λ hc h=> ?_) (λ hc h=> ?_)
    .refine sr (qa (.xs ([]:List UInt8)) rfl (gc (zax (zaz ?_))))
     obtain rfl:=oi h
     refine ke (pt AF0 4 (.xs ([]:List UInt8))) [] rfl (s1 rfl) ⟨rfl,rfl⟩
    .refine zaq (zad (sr (qm (.xs c) rfl ?_)))
     obtain⟨y124,j,h⟩:=zac h
     refine gq (zai (m_ref9_checked_ok _ _ j) func150 (by kernel_rfl) (lc lf ln) (qa (.xs y124) rfl (gc (zax ?_))))
     obtain rfl:=oi h
     refine ke (pt AF0 4 (.xs y124)) [] rfl (s1 rfl) ⟨rfl,rfl⟩
theorem m_ref9_Make_ok (a0:Int) (a1:List (List UInt8)) (r:(List UInt8)) (h:m_ref9_Make a0 a1=some r):Pure Tryz.prog 75 [(.exact (.int .i64 a0)),(.row 1 zaa a1)] (.exact (.string (bs r))):=by
 unfold m_ref9_Make at h
 refine Pure.ofFun (zan func75 rfl ntmps75 (by simp) rfl (res1 rfl) λ E hE=>zca (sr (qa (.xs ([]:List UInt8)) rfl (gc (zau (sr (qm (.row 1 zaa a1) rfl ?_)))))))
 obtain⟨y1,a,h⟩:=zac h
 refine gq (zai (m_ref9_all_ok _ _ a) func114 (by kernel_rfl) (lc lf ln) (gq (zgf rfl (gc (kb (p:= !y1) rfl h (λ hc h=> ?_) (λ hc h=> ?_))))))
 .refine sr (qa (.xs ([]:List UInt8)) rfl (gc (zax (zaz ?_))))
  obtain rfl:=oi h
  refine ke (pt AF0 4 (.xs ([]:List UInt8))) [] rfl (s1 rfl) ⟨rfl,rfl⟩
 .refine zaq (zad (sr (qm (.xi a0) rfl (qm (.row 1 zaa a1) rfl ?_))))
  obtain⟨y2,b,h⟩:=zac h
  refine gq (zai (m_ref9_compound_ok _ _ _ b) func115 (by kernel_rfl) (lc lf (lc lf ln)) (qa (.xs y2) rfl (gc (zax ?_))))
  obtain rfl:=oi h
  refine ke (pt AF0 4 (.xs y2)) [] rfl (s1 rfl) ⟨rfl,rfl⟩
theorem m_ref9_Numbered_ok (a0:Int) (a1:Int) (a2:List (List UInt8)) (r:(List UInt8)) (h:m_ref9_Numbered a0 a1 a2=some r):Pure Tryz.prog 39 [(.exact (.int .i64 a0)),(.exact (.int .i64 a1)),(.row 1 zaa a2)] (.exact (.string (bs r))):=by
 unfold m_ref9_Numbered at h
 refine Pure.ofFun (zan func39 rfl ntmps39 (by simp) rfl (res1 rfl) λ E hE=>zca (sr (qa (.xs ([]:List UInt8)) rfl (gd (qm (.xi a0) rfl (qm (.xi a1) rfl ?_))))))
 obtain⟨y1,a,h⟩:=zac h
 refine gq (zai (zhb _ _ a) func22 (by kernel_rfl) (lc lf ln) (G_l rfl (op_litI (n:=1) (enc:=zaa) [y1] (by kernel_rfl) (CellsAll.cons rfl CellsOf.str CellsAll.nil) rfl (by kernel_rfl) (LEss.cons (lc lf ln) LEss.nil) (λ v2=>qm (.row 1 zaa a2) rfl ?_))))
 obtain⟨n3,h⟩:=zag h
 refine G_l rfl (zeb (by kernel_rfl) rfl rfl zcr n3 (λ v4=>G_sub rfl (SubU.freezeT (s:=12) rfl zbd) ?_))
 obtain⟨y5,b,h⟩:=zac h
 refine gq (zai (m_ref9_Make_ok _ _ _ b) func75 (by kernel_rfl) (lc lf (lc lf ln)) (qa (.xs y5) rfl (gc (zax ?_))))
 obtain rfl:=oi h
 refine ke (pt AF0 6 (.xs y5)) [] rfl (s1 rfl) ⟨rfl,rfl⟩
theorem zha (a0:List UInt8) (r:(List (List UInt8))) (h:zgq a0=some r):Pure Tryz.prog 66 [(.exact (.string (bs a0)))] (.row 1 zaa r):=by
 unfold zgq at h
 refine Pure.ofFun (zan func66 rfl ntmps66 (by simp) rfl (res1 rfl) λ E hE=>zca (sr (qa (.exact (.slice none 0 0)) rfl (gc (zau (sr (qm (.xs a0) rfl ?_)))))))
 obtain⟨y1,a,h⟩:=zac h
 refine gq (zai (zli _ _ a) func84 (by kernel_rfl) (lc lf ln) (gq (zgf rfl (gc (kb (p:= !y1) rfl h (λ hc h=> ?_) (λ hc h=> ?_))))))
 .refine sr (qa (.exact (.slice none 0 0)) rfl (gc (zax (zaz ?_))))
  obtain rfl:=oi h
  refine ke (pt AF0 2 (.row 1 zaa [])) [] rfl (so (AF.le_put (zep (by decide)) lt0)) ⟨rfl,rfl⟩
 .refine zaq (zad (sr (qm (.xs a0) rfl ?_)))
  obtain⟨y2,b,h⟩:=zac h
  refine gq (zai (m_ref9_walk_ok _ _ _ _ b) func107 (by kernel_rfl) (lc lf (lc lf (lc lf ln))) (qm (.tup [.xi y2.1, .row 1 zaa y2.2.1, .xi y2.2.2]) rfl (gq (zbh (av:= .xi y2.1) rfl rfl (gq (zbh (av:= .row 1 zaa y2.2.1) rfl rfl (gq (zbh (av:= .xi y2.2.2) rfl rfl (qa (.xi y2.1) rfl (qa (.row 1 zaa y2.2.1) rfl (qa (.xi y2.2.2) rfl (gd (qm (.row 1 zaa y2.2.1) rfl (qa (.row 1 zaa y2.2.1) rfl (gc (zax ?_))))))))))))))))
  obtain rfl:=oi h
  refine ke (pt AF0 2 (.row 1 zaa y2.2.1)) [] rfl (s1 rfl) ⟨rfl,rfl⟩
theorem zne (a0:List UInt8) (r:Int) (h:zlg a0=some r):Pure Tryz.prog 105 [(.exact (.string (bs a0)))] (.exact (.int .i64 r)):=by
 unfold zlg at h
 refine Pure.ofFun (zan func105 rfl ntmps105 (by simp) rfl (res1 rfl) λ E hE=>zca (sr (qa (.xi 0) rfl (gc (zau (sr (qm (.xs a0) rfl ?_)))))))
 obtain⟨y1,a,h⟩:=zac h
 refine gq (zai (zli _ _ a) func84 (by kernel_rfl) (lc lf ln) (gq (zgf rfl (gc (kb (p:= !y1) rfl h (λ hc h=> ?_) (λ hc h=> ?_))))))
 .refine sr (qa (.xi 0) rfl (gc (zax (zaz ?_))))
  obtain rfl:=oi h
  refine ke (pt AF0 2 (.xi 0)) [] rfl (s1 rfl) ⟨rfl,rfl⟩
 .refine zaq (zad (sr (qm (.xs a0) rfl ?_)))
  obtain⟨n2,h⟩:=zag h
  refine gq (zbj (by kernel_rfl) rfl rfl n2.1 n2.2 (gq (zbz (k:= .i64) (r:=(UInt8.toNat (gi a0 0):Int)) (by kernel_rfl) rfl (zjx rfl _) (qa (.xi (UInt8.toNat (gi a0 0):Int)) rfl (gc (zax ?_))))))
  obtain rfl:=oi h
  refine ke (pt AF0 2 (.xi (UInt8.toNat (gi a0 0):Int))) [] rfl (s1 rfl) ⟨rfl,rfl⟩
theorem zgg (a0:List UInt8) (r:Int) (h:zfq a0=some r):Pure Tryz.prog 65 [(.exact (.string (bs a0)))] (.exact (.int .i64 r)):=by
 unfold zfq at h
 refine Pure.ofFun (zan func65 rfl ntmps65 (by simp) rfl (res1 rfl) λ E hE=>zca (sr (qa (.xi 0) rfl (gc (zau (sr (qm (.xs a0) rfl ?_)))))))
 obtain⟨y1,a,h⟩:=zac h
 refine gq (zai (zne _ _ a) func105 (by kernel_rfl) (lc lf ln) (gc (zas (sr (gq (zbi rfl rfl (qa (.xb (decide (y1=1))) rfl (gc (kd (p:=y1=1) rfl h (λ hc h=> ?_) (λ hc h=> ?_))))))))))
 .refine sr (qm (.xs a0) rfl ?_)
  obtain⟨n2,h⟩:=zag h
  refine gq (zkn (by kernel_rfl) rfl (zef rfl) zel (by decide) n2 (Int.le_refl _) ?_)
  obtain⟨y3,b,h⟩:=zac h
  refine gq (zai (m_ref9_number_ok _ _ b) func106 (by kernel_rfl) (lc lf ln) (qa (.xi y3) rfl (gc (zax (zbe (zaz ?_))))))
  obtain rfl:=oi h
  refine ke (pt AF0 2 (.xi y3)) [] rfl (s1 rfl) ⟨rfl,rfl⟩
 .refine sr (gq (zbi rfl rfl (qa (.xb (decide (y1=2))) rfl (gc (kd (p:=y1=2) rfl h (λ hc h=> ?_) (λ hc h=> ?_))))))
  .refine sr (qm (.xs a0) rfl ?_)
   obtain⟨n4,h⟩:=zag h
   refine gq (zbj (by kernel_rfl) rfl rfl n4.1 n4.2 (gq (zbz (k:= .i64) (r:=(UInt8.toNat (gi a0 1):Int)) (by kernel_rfl) rfl (zjx rfl _) (qa (.xi (UInt8.toNat (gi a0 1):Int)) rfl (gc (zax (zbe (zaz ?_))))))))
   obtain rfl:=oi h
   refine ke (pt AF0 2 (.xi (UInt8.toNat (gi a0 1):Int))) [] rfl (s1 rfl) ⟨rfl,rfl⟩
  .refine sr (gq (zbi rfl rfl (qa (.xb (decide (y1=10))) rfl (gc (kd (p:=y1=10) rfl h (λ hc h=> ?_) (λ hc h=> ?_))))))
   .refine zau (zdy [] [(0,0),(0,1),(0,2),(0,3),(0,4),(0,5),(0,6),(0,7),(0,8)] hmixP (by kernel_rfl) (pq rfl (zae (av:= .xs a0) rfl ?_)))
    obtain⟨n5,h⟩:=zag h
    refine pq rfl (zbj (by kernel_rfl) rfl rfl n5.1 n5.2 (pq rfl (zbz (k:= .i64) (r:=(UInt8.toNat (gi a0 1):Int)) (by kernel_rfl) rfl (zjx rfl _) (pq rfl (op_shl rfl rfl (by decide) rfl (pq rfl (zae (av:= .xs a0) rfl ?_)))))))
    obtain⟨n6,h⟩:=zag h
    refine pq rfl (zbj (by kernel_rfl) rfl rfl n6.1 n6.2 (pq rfl (zbz (k:= .i64) (r:=(UInt8.toNat (gi a0 2):Int)) (by kernel_rfl) rfl (zjx rfl _) (pq rfl (op_or rfl rfl rfl (pq rfl (zba (av:= .xi (bOr .i64 (i64 ((UInt8.toNat (gi a0 1):Int)*2^min (Int.toNat 8) IntKind.i64.bits)) (UInt8.toNat (gi a0 2):Int))) rfl (zdu (zad (zax (zbe (zaz ?_))))))))))))
    obtain rfl:=oi h
    refine ke (pt AF0 2 (.xi (bOr .i64 (i64 ((UInt8.toNat (gi a0 1):Int)*2^min (Int.toNat 8) IntKind.i64.bits)) (UInt8.toNat (gi a0 2):Int)))) [] rfl (s1 rfl) ⟨rfl,rfl⟩
   .refine zaq (zar (zad (sr (qa (.xi 0) rfl (gc (zax ?_))))))
    obtain rfl:=oi h
    refine ke (pt AF0 2 (.xi 0)) [] rfl (s1 rfl) ⟨rfl,rfl⟩
end
noncomputable section
open Go.RowKit
attribute [local irreducible] AV.exact AV.top AV.row AV.ptr AV.agg AV.tup AV.eptr AV.fn AV.nilq AV.nilqn opA opB opM opR Quiet Loud Reads wpG awp den Sub SubU Pure Fun vecI vecT boxI CellsAll CellsOf OneC LEs LEss
set_option maxRecDepth 100000
set_option maxHeartbeats 4000000
theorem m_ref16_between_ok (a0:List UInt8) (a1:Int) (a2:Int) (r:Bool) (h:zjh a0 a1 a2=some r):Pure Tryz.prog 125 [(.exact (.string (bs a0))),(.exact (.int .i64 a1)),(.exact (.int .i64 a2))] (.exact (.bool r)):=by
 unfold zjh at h
 refine Pure.ofFun (zan func125 rfl ntmps125 (by simp) rfl (res1 rfl) λ E hE=>zca (sr (qa (.xb false) rfl (gc (zbb h (λ(a:Bool)=>(pt AF0 6 (.xb a))) (λ(a:Bool)=>[]) (λ k1 h=> ?_) (λ a h=> ?_))))))
 .refine kr (qm (.xs a0) rfl ?_)
  obtain⟨y5,b,h⟩:=zac h
  refine gq (zai (zne _ _ b) func105 (by kernel_rfl) (lc lf ln) (gq (zbi rfl rfl (qm (.xb (decide (y5=1))) rfl (zcm (p:=y5=1) 10 rfl (λ hc=> ?_) (λ hc=> ?_))))))
  .replace h:=zdb h hc
   refine gy (zae (av:= .xs a0) rfl ?_)
   obtain⟨y6,c,h⟩:=zac h
   refine gy (zai (zgg _ _ c) func65 (by kernel_rfl) (lc lf ln) (gy (zae (av:= .xi a1) rfl (gy (op_geq rfl rfl (gq (zat rfl (av:= .xb (decide (a1≤y6))) rfl (qm (.xb (decide (a1≤y6))) rfl (zcm (p:=a1≤y6) 16 rfl (λ hc=> ?_) (λ hc=> ?_))))))))))
   .replace h:=zdb h hc
    refine gy (zae (av:= .xs a0) rfl ?_)
    obtain⟨y7,d,h⟩:=zac h
    refine gy (zai (zgg _ _ d) func65 (by kernel_rfl) (lc lf ln) (gy (zae (av:= .xi a2) rfl (gy (op_leq rfl rfl (gq (zat rfl (av:= .xb (decide (y7≤a2))) rfl (qa (.xb (decide (y7≤a2))) rfl (zay (zab ⟨_,h,s1 rfl⟩))))))))))
   .replace h:=zdc h hc
    refine gn (gn (gn (gn (gq (zao rfl (av:= .xb false) rfl (qa (.xb false) rfl (zay (zab ⟨_,h,s1 rfl⟩))))))))
  .replace h:=zdc h hc
   refine gn (gn (gn (gn (gq (zao rfl (av:= .xb false) rfl (qm (.xb false) rfl (gn (gn (gn (gn (gq (zao rfl (av:= .xb false) rfl (qa (.xb false) rfl (zay (zab ⟨_,h,s1 rfl⟩)))))))))))))))
 .refine zax ?_
  obtain rfl:=oi h
  refine ke (pt AF0 6 (.xb a)) [] rfl (s1 rfl) ⟨rfl,rfl⟩
theorem m_ref9_Compare_ok (a0:List UInt8) (a1:List UInt8) (r:Int) (h:zmy a0 a1=some r):Pure Tryz.prog 72 [(.exact (.string (bs a0))),(.exact (.string (bs a1)))] (.exact (.int .i64 r)):=by
 unfold zmy at h
 refine Pure.ofFun (zan func72 rfl ntmps72 (by simp) rfl (res1 rfl) λ E hE=>zca (sr (qa (.xi 0) rfl (gd (qm (.xs a0) rfl ?_)))))
 obtain⟨y1,e,h⟩:=zac h
 refine gq (zai (zli _ _ e) func84 (by kernel_rfl) (lc lf ln) (qm (.xs a1) rfl ?_))
 obtain⟨y2,f,h⟩:=zac h
 refine gq (zai (zli _ _ f) func84 (by kernel_rfl) (lc lf ln) (qa (.xb y1) rfl (qa (.xb y2) rfl (gc (zau (zas (zbb h (λ(d:Bool)=>(pt (pt (pt (pt (pt AF0 0 (.xs a0)) 1 (.xs a1)) 5 (.xb y1)) 6 (.xb y2)) 11 (.xb d))) (λ(d:Bool)=>[]) (λ k7 h=> ?_) (λ d h=> ?_))))))))
 .refine kr (qm (.xb y1) rfl (qm (.xb y1) rfl (G_splitB (c:=y1) 13 rfl (λ hc=> ?_) (λ hc=> ?_))))
  .replace h:=zdb h hc
   refine gy (zae (av:= .xb y2) rfl (gq (zat rfl (av:= .xb y2) rfl (qa (.xb y2) rfl (zay (zab ⟨_,h,so (l4 rfl rfl rfl rfl (lq rfl lt0))⟩))))))
  .replace h:=zdc h hc
   refine gn (gq (zao rfl (av:= .xb false) rfl (qa (.xb false) rfl (zay (zab ⟨_,h,so (l4 rfl rfl rfl rfl (lq rfl lt0))⟩)))))
 .refine kb (p:=d) rfl h (λ hc h=> ?_) (λ hc h=> ?_)
  .refine sr (qm (.xs a0) rfl (qm (.xs a1) rfl ?_))
   obtain⟨y8,g,h⟩:=zac h
   refine gq (zai (m_ref9_order_ok _ _ _ g) func112 (by kernel_rfl) (lc lf (lc lf ln)) (qa (.xi y8) rfl (gc (zax (zbe (zaz ?_))))))
   obtain rfl:=oi h
   refine ke (pt AF0 4 (.xi y8)) [] rfl (s1 rfl) ⟨rfl,rfl⟩
  .refine sr (qm (.xb y1) rfl (qm (.xb y2) rfl (gq (op_neqB (a:=y1) (b:=y2) (by kernel_rfl) rfl rfl (qa (.xb (decide (¬y1=y2))) rfl (gc (kd (p:= ¬y1=y2) rfl h (λ hc h=> ?_) (λ hc h=> ?_))))))))
   .refine sr (qm (.xb y2) rfl (qm (.xb y1) rfl ?_))
    obtain⟨y9,i,h⟩:=zac h
    refine gq (zai (m_ref9_sign_ok _ _ _ i) func113 (by kernel_rfl) (lc lf (lc lf ln)) (qa (.xi y9) rfl (gc (zax (zbe (zaz ?_))))))
    obtain rfl:=oi h
    refine ke (pt AF0 4 (.xi y9)) [] rfl (s1 rfl) ⟨rfl,rfl⟩
   .refine zaq (zar (zad (sr (qm (.xs a0) rfl (qm (.xs a1) rfl (gq (op_lssS rfl rfl (qm (.xs a0) rfl (qm (.xs a1) rfl (gq (op_gtrS rfl rfl ?_)))))))))))
    obtain⟨y10,j,h⟩:=zac h
    refine gq (zai (m_ref9_sign_ok _ _ _ j) func113 (by kernel_rfl) (lc lf (lc lf ln)) (qa (.xi y10) rfl (gc (zax ?_))))
    obtain rfl:=oi h
    refine ke (pt AF0 4 (.xi y10)) [] rfl (s1 rfl) ⟨rfl,rfl⟩
theorem m_ref16_offered_ok (d:(List UInt8)->Option Bool) (hself_ref16_term: ∀(a0:List UInt8) (r:Bool),d a0=some r->Pure Tryz.prog 85 [(.exact (.string (bs a0)))] (.exact (.bool r))) (a0:List (List UInt8)) (r:Bool) (h:m_ref16_offered d a0=some r):Pure Tryz.prog 126 [(.row 1 zaa a0)] (.exact (.bool r)):=by
 unfold m_ref16_offered at h
 refine Pure.ofFun (zan func126 rfl ntmps126 (by simp) rfl (res1 rfl) λ E hE=>zca (sr (qa (.xb false) rfl (gc (zau (zbb h (λ(e:Bool)=>(pt (pt AF0 0 (.row 1 zaa a0)) 12 (.xb e))) (λ(e:Bool)=>[]) (λ k3 h=> ?_) (λ e h=> ?_)))))))
 .refine kr (qm (.row 1 zaa a0) rfl (gq (zaw (by kernel_rfl) rfl (gq (zbi rfl rfl (qm (.xb (decide ((List.length a0:Int)=0))) rfl (zcm (p:=(List.length a0:Int)=0) 7 rfl (λ hc=> ?_) (λ hc=> ?_))))))))
  .replace h:=zdb h hc
   refine gn (gn (gn (gn (gq (zat rfl (av:= .xb true) rfl (zay (zab ⟨_,h,s2 rfl rfl⟩)))))))
  .replace h:=zdc h hc
   refine gy (zae (av:= .row 1 zaa a0) rfl (gy (zaw (by kernel_rfl) rfl (gy (op_rem rfl rfl (by decide) rfl (gy (zbi rfl rfl (gq (zao rfl (av:= .xb (decide ((Int.tmod (List.length a0:Int) 2)=1))) rfl (zay (zab ⟨_,h,s2 rfl rfl⟩)))))))))))
 .refine kb (p:=e) rfl h (λ hc h=> ?_) (λ hc h=> ?_)
  .refine sr (qa (.xb false) rfl (gc (zax (zaz ?_))))
   obtain rfl:=oi h
   refine ke (pt AF0 2 (.xb false)) [] rfl (s1 rfl) ⟨rfl,rfl⟩
  .refine zaq (zad (zdq h (AF0) ([]) (λ k4 h=> ?_) (λ  h=> ?_)))
   .refine sr (qa (.xi 0) rfl (gc (zas (zen (zjq d a0 k4) (zmb d a0 k4) (λ _=>rfl) (λ m _=>rfl) h (λ(b:Int)=>(pt (pt AF0 0 (.row 1 zaa a0)) 3 (.xi b))) (λ(b:Int)=>[]) ?_ (λ o b h=> ?_)))))
    .exact s2 rfl rfl
    .unfold zmb at h
     refine zau (sr (qm (.xi b) rfl (qm (.row 1 zaa a0) rfl (gq (zaw (by kernel_rfl) rfl (gq (zby rfl rfl (gc (kd (p:=b<(List.length a0:Int)) rfl h (λ hc h=> ?_) (λ hc h=> ?_))))))))))
     .refine zaq (zad (zau (zas (zau (zbb h (λ(f:Bool)=>(pt (pt (pt AF0 0 (.row 1 zaa a0)) 3 (.xi b)) 33 (.xb f))) (λ(f:Bool)=>[]) (λ k440 h=> ?_) (λ f h=> ?_))))))
      .refine kr (qm (.row 1 zaa a0) rfl (qm (.xi b) rfl ?_))
       obtain⟨n445,h⟩:=zag h
       refine gq (zaj (by kernel_rfl) rfl rfl n445.1 n445.2 (gq (zap (a:= .xs (gi a0 b)) (by kernel_rfl) rfl rfl ?_)))
       obtain⟨y446,i,h⟩:=zac h
       refine gq (zai (m_ref16_between_ok _ _ _ _ i) func125 (by kernel_rfl) (lc lf (lc lf (lc lf ln))) (gq (zgf rfl (qm (.xb (!y446)) rfl (G_splitB (c:= !y446) 25 rfl (λ hc=> ?_) (λ hc=> ?_))))))
       .replace h:=zdb h hc
        refine gn (gn (gn (gn (gn (gn (gn (gq (zat rfl (av:= .xb true) rfl (zay (zab ⟨_,h,s3 rfl rfl rfl⟩))))))))))
       .replace h:=zdc h hc
        refine gy (zae (av:= .row 1 zaa a0) rfl (gy (zae (av:= .xi b) rfl (gy (zbx rfl rfl rfl ?_)))))
        obtain⟨n447,h⟩:=zag h
        refine gy (zaj (by kernel_rfl) rfl rfl n447.1 n447.2 (gy (zap (a:= .xs (gi a0 (i64 (b+1)))) (by kernel_rfl) rfl rfl ?_)))
        obtain⟨y448,j,h⟩:=zac h
        refine gy (zai (hself_ref16_term _ _ j) func85 (by kernel_rfl) (lc lf ln) (gy (zgf rfl (gq (zao rfl (av:= .xb (!y448)) rfl (zay (zab ⟨_,h,s3 rfl rfl rfl⟩)))))))
      .refine kb (p:=f) rfl h (λ hc h=> ?_) (λ hc h=> ?_)
       .refine sr (qa (.xb false) rfl (gc (zax (zaz (zbe (zaz (zbr (zbe (zbr ?_)))))))))
        obtain rfl:=oi h
        refine ke (pt AF0 2 (.xb false)) [] rfl (s1 rfl) ⟨rfl,rfl⟩
       .refine zaq (zad (zbb h (λ(g:Bool)=>(pt (pt (pt AF0 0 (.row 1 zaa a0)) 3 (.xi b)) 75 (.xb g))) (λ(g:Bool)=>[]) (λ k449 h=> ?_) (λ g h=> ?_)))
        .refine zdy [] [(0,0),(0,1),(0,2),(0,3),(0,4),(0,5),(0,6),(0,7),(0,8),(0,9),(0,10),(0,11),(0,12),(0,13),(0,14),(0,15),(0,16),(0,17),(0,18),(0,19),(0,20),(0,21),(0,22),(0,23),(0,24),(0,25),(0,26),(0,27),(0,28),(0,29),(0,30),(0,31),(0,32),(0,33),(0,34),(0,35),(0,36),(0,37),(0,38),(0,39),(0,40),(0,41)] hmixP (by kernel_rfl) (pq rfl (zae (av:= .xi b) rfl (pq rfl (zlh rfl rfl (pq rfl (zae (av:= .xb (decide (0<b))) rfl (zix (p:=0<b) 36 rfl (λ hc=> ?_) (λ hc=> ?_))))))))
         .replace h:=zdb h hc
          refine py rfl (zae (av:= .row 1 zaa a0) rfl (py rfl (zae (av:= .xi b) rfl (py rfl (zfo rfl rfl rfl ?_)))))
          obtain⟨n459,h⟩:=zag h
          refine py rfl (zaj (by kernel_rfl) rfl rfl n459.1 n459.2 (py rfl (zap (a:= .xs (gi a0 (i64 (b - 2)))) (by kernel_rfl) rfl rfl ?_)))
          obtain⟨y460,k,h⟩:=zac h
          refine py rfl (zai (zgg _ _ k) func65 (by kernel_rfl) (lc lf ln) (py rfl (zae (av:= .row 1 zaa a0) rfl (py rfl (zae (av:= .xi b) rfl ?_)))))
          obtain⟨n461,h⟩:=zag h
          refine py rfl (zaj (by kernel_rfl) rfl rfl n461.1 n461.2 (py rfl (zap (a:= .xs (gi a0 b)) (by kernel_rfl) rfl rfl ?_)))
          obtain⟨y462,l,h⟩:=zac h
          refine py rfl (zai (zgg _ _ l) func65 (by kernel_rfl) (lc lf ln) (py rfl (zlh rfl rfl (py rfl (zae (av:= .xb (decide (y462<y460))) rfl (zix (p:=y462<y460) 49 rfl (λ hc=> ?_) (λ hc=> ?_)))))))
          .replace h:=zdb h hc
           refine pn rfl (pn rfl (pn rfl (pn rfl (pn rfl (pn rfl (pn rfl (pn rfl (pn rfl (pn rfl (pn rfl (pu rfl (pu rfl (pu rfl (pu rfl (pu rfl (pu rfl (pu rfl (pu rfl (pu rfl (pu rfl (pu rfl (pu rfl (pn rfl (py rfl (zat rfl (av:= .xb true) rfl ?_)))))))))))))))))))))))))
           refine pq rfl (zat rfl (av:= .xb true) rfl (zdu (zab ⟨_,h,s3 rfl rfl rfl⟩)))
          .replace h:=zdc h hc
           refine py rfl (zae (av:= .row 1 zaa a0) rfl (py rfl (zae (av:= .xi b) rfl (py rfl (zfo rfl rfl rfl ?_)))))
           obtain⟨n463,h⟩:=zag h
           refine py rfl (zaj (by kernel_rfl) rfl rfl n463.1 n463.2 (py rfl (zap (a:= .xs (gi a0 (i64 (b - 2)))) (by kernel_rfl) rfl rfl (py rfl (zae (av:= .row 1 zaa a0) rfl (py rfl (zae (av:= .xi b) rfl ?_)))))))
           obtain⟨n464,h⟩:=zag h
           refine py rfl (zaj (by kernel_rfl) rfl rfl n464.1 n464.2 (py rfl (zap (a:= .xs (gi a0 b)) (by kernel_rfl) rfl rfl (py rfl (op_eqlS rfl rfl (py rfl (zae (av:= .xb (decide ((gi a0 (i64 (b - 2)))=(gi a0 b)))) rfl (zix (p:=(gi a0 (i64 (b - 2)))=(gi a0 b)) 60 rfl (λ hc=> ?_) (λ hc=> ?_)))))))))
           .replace h:=zdb h hc
            refine py rfl (zae (av:= .row 1 zaa a0) rfl (py rfl (zae (av:= .xi b) rfl (py rfl (zfo rfl rfl rfl ?_)))))
            obtain⟨n465,h⟩:=zag h
            refine py rfl (zaj (by kernel_rfl) rfl rfl n465.1 n465.2 (py rfl (zap (a:= .xs (gi a0 (i64 (b - 1)))) (by kernel_rfl) rfl rfl (py rfl (zae (av:= .row 1 zaa a0) rfl (py rfl (zae (av:= .xi b) rfl (py rfl (zbx rfl rfl rfl ?_)))))))))
            obtain⟨n466,h⟩:=zag h
            refine py rfl (zaj (by kernel_rfl) rfl rfl n466.1 n466.2 (py rfl (zap (a:= .xs (gi a0 (i64 (b+1)))) (by kernel_rfl) rfl rfl ?_)))
            obtain⟨y467,n,h⟩:=zac h
            refine py rfl (zai (m_ref9_Compare_ok _ _ _ n) func72 (by kernel_rfl) (lc lf (lc lf ln)) (py rfl (op_geq rfl rfl (py rfl (zat rfl (av:= .xb (decide (0≤y467))) rfl (py rfl (zao rfl (av:= .xb (decide (0≤y467))) rfl (pq rfl (zat rfl (av:= .xb (decide (0≤y467))) rfl (zdu (zab ⟨_,h,s3 rfl rfl rfl⟩)))))))))))
           .replace h:=zdc h hc
            refine pn rfl (pn rfl (pn rfl (pn rfl (pn rfl (pn rfl (pn rfl (pn rfl (pn rfl (pn rfl (pn rfl (pn rfl (py rfl (zao rfl (av:= .xb false) rfl (py rfl (zao rfl (av:= .xb false) rfl (pq rfl (zat rfl (av:= .xb false) rfl (zdu (zab ⟨_,h,s3 rfl rfl rfl⟩)))))))))))))))))))
         .replace h:=zdc h hc
          refine pn rfl (pn rfl (pn rfl (pn rfl (pn rfl (pn rfl (pn rfl (pn rfl (pn rfl (pn rfl (pn rfl (pn rfl (pn rfl (pu rfl (pu rfl (pu rfl (pu rfl (pu rfl (pu rfl (pu rfl (pu rfl (pu rfl (pu rfl (pu rfl (pu rfl ?_))))))))))))))))))))))))
          refine pu rfl (pu rfl (pu rfl (pu rfl (pu rfl (pu rfl (pu rfl (pu rfl (pu rfl (pu rfl (pu rfl (pu rfl (pn rfl (pq rfl (zao rfl (av:= .xb false) rfl (zdu (zab ⟨_,h,s3 rfl rfl rfl⟩))))))))))))))))
        .refine kb (p:=g) rfl h (λ hc h=> ?_) (λ hc h=> ?_)
         .refine sr (qa (.xb false) rfl (gc (zax (zbe (zaz (zbr (zbe (zbr ?_))))))))
          obtain rfl:=oi h
          refine ke (pt AF0 2 (.xb false)) [] rfl (s1 rfl) ⟨rfl,rfl⟩
         .refine zaq (zar (zad (kr (qm (.xi b) rfl (gq (zbx rfl rfl rfl (qa (.xi (i64 (b+2))) rfl (zay (zab ⟨_,h,s2 rfl rfl⟩)))))))))
     .refine zcl (zbo (zbu (zbn (zab ⟨h,Sub.of_le lt0⟩))))
   .refine sr (qa (.xb true) rfl (gc (zax ?_)))
    obtain rfl:=oi h
    refine ke (pt AF0 2 (.xb true)) [] rfl (s1 rfl) ⟨rfl,rfl⟩
theorem m_ref16_layout_ok (a0:Int) (r:(List UInt8)) (h:zgw a0=some r):Pure Tryz.prog 73 [(.exact (.int .i64 a0))] (.exact (.string (bs r))):=by
 unfold zgw at h
 refine Pure.ofFun (zan func73 rfl ntmps73 (by simp) rfl (res1 rfl) λ E hE=>zca (sr (qa (.xs ([]:List UInt8)) rfl (gc (zau (sr (qm (.xi a0) rfl (gc (zas (zbb h (λ(a:Bool)=>(pt (pt AF0 3 (.xi a0)) 4 (.xb a))) (λ(a:Bool)=>[]) (λ k5 h=> ?_) (λ a h=> ?_)))))))))))
 .refine sr (gq (zbi rfl rfl (qa (.xb (decide (a0=7))) rfl (gc (kd (p:=a0=7) rfl h (λ hc h=> ?_) (λ hc h=> ?_))))))
  .refine zaq (zab ⟨_,h,s2 rfl rfl⟩)
  .refine sr (gq (zbi rfl rfl (qa (.xb (decide (a0=8))) rfl (gc (kd (p:=a0=8) rfl h (λ hc h=> ?_) (λ hc h=> ?_))))))
   .refine zaq (zab ⟨_,h,s2 rfl rfl⟩)
   .refine sr (gq (zbi rfl rfl (qa (.xb (decide (a0=9))) rfl (gc (kd (p:=a0=9) rfl h (λ hc h=> ?_) (λ hc h=> ?_))))))
    .refine zaq (zab ⟨_,h,s2 rfl rfl⟩)
    .refine sr (gq (zbi rfl rfl (qa (.xb (decide (a0=10))) rfl (gc (kd (p:=a0=10) rfl h (λ hc h=> ?_) (λ hc h=> ?_))))))
     .refine zaq (zab ⟨_,h,s2 rfl rfl⟩)
     .refine kr (gq (zbi rfl rfl (qa (.xb (decide (a0=11))) rfl (zay (zab ⟨_,h,s2 rfl rfl⟩)))))
 .refine kb (p:=a) rfl h (λ hc h=> ?_) (λ hc h=> ?_)
  .refine sr (qa (.exact (.string (bs [80,80]))) rfl (gc (zax (zbe (zaz ?_)))))
   obtain rfl:=oi h
   refine ke (pt AF0 2 (.exact (.string (bs [80,80])))) [] rfl (s1 rfl) ⟨rfl,rfl⟩
  .refine zbb h (λ(b:Bool)=>(pt (pt AF0 3 (.xi a0)) 10 (.xb b))) (λ(b:Bool)=>[]) (λ k6 h=> ?_) (λ b h=> ?_)
   .refine sr (gq (zbi rfl rfl (qa (.xb (decide (a0=12))) rfl (gc (kd (p:=a0=12) rfl h (λ hc h=> ?_) (λ hc h=> ?_))))))
    .refine zaq (zab ⟨_,h,s2 rfl rfl⟩)
    .refine sr (gq (zbi rfl rfl (qa (.xb (decide (a0=13))) rfl (gc (kd (p:=a0=13) rfl h (λ hc h=> ?_) (λ hc h=> ?_))))))
     .refine zaq (zab ⟨_,h,s2 rfl rfl⟩)
     .refine kr (gq (zbi rfl rfl (qa (.xb (decide (a0=16))) rfl (zay (zab ⟨_,h,s2 rfl rfl⟩)))))
   .refine kb (p:=b) rfl h (λ hc h=> ?_) (λ hc h=> ?_)
    .refine sr (qa (.exact (.string (bs [80,83,80]))) rfl (gc (zax (zbe (zaz ?_)))))
     obtain rfl:=oi h
     refine ke (pt AF0 2 (.exact (.string (bs [80,83,80])))) [] rfl (s1 rfl) ⟨rfl,rfl⟩
    .refine sr (gq (zbi rfl rfl (qa (.xb (decide (a0=17))) rfl (gc (kd (p:=a0=17) rfl h (λ hc h=> ?_) (λ hc h=> ?_))))))
     .refine sr (qa (.exact (.string (bs [80,83,83,80]))) rfl (gc (zax (zbe (zaz ?_)))))
      obtain rfl:=oi h
      refine ke (pt AF0 2 (.exact (.string (bs [80,83,83,80])))) [] rfl (s1 rfl) ⟨rfl,rfl⟩
     .refine sr (gq (zbi rfl rfl (qa (.xb (decide (a0=20))) rfl (gc (kd (p:=a0=20) rfl h (λ hc h=> ?_) (λ hc h=> ?_))))))
      .refine sr (qa (.exact (.string (bs [80,82,80]))) rfl (gc (zax (zbe (zaz ?_)))))
       obtain rfl:=oi h
       refine ke (pt AF0 2 (.exact (.string (bs [80,82,80])))) [] rfl (s1 rfl) ⟨rfl,rfl⟩
      .refine sr (gq (zbi rfl rfl (qa (.xb (decide (a0=14))) rfl (gc (kd (p:=a0=14) rfl h (λ hc h=> ?_) (λ hc h=> ?_))))))
       .refine sr (qa (.exact (.string (bs [80,83]))) rfl (gc (zax (zbe (zaz ?_)))))
        obtain rfl:=oi h
        refine ke (pt AF0 2 (.exact (.string (bs [80,83])))) [] rfl (s1 rfl) ⟨rfl,rfl⟩
       .refine zbb h (λ(c:Bool)=>(pt (pt AF0 3 (.xi a0)) 20 (.xb c))) (λ(c:Bool)=>[]) (λ k7 h=> ?_) (λ c h=> ?_)
        .refine sr (gq (zbi rfl rfl (qa (.xb (decide (a0=15))) rfl (gc (kd (p:=a0=15) rfl h (λ hc h=> ?_) (λ hc h=> ?_))))))
         .refine zaq (zab ⟨_,h,s2 rfl rfl⟩)
         .refine kr (gq (zbi rfl rfl (qa (.xb (decide (a0=18))) rfl (zay (zab ⟨_,h,s2 rfl rfl⟩)))))
        .refine kb (p:=c) rfl h (λ hc h=> ?_) (λ hc h=> ?_)
         .refine sr (qa (.exact (.string (bs [80,82]))) rfl (gc (zax (zbe (zaz ?_)))))
          obtain rfl:=oi h
          refine ke (pt AF0 2 (.exact (.string (bs [80,82])))) [] rfl (s1 rfl) ⟨rfl,rfl⟩
         .refine sr (gq (zbi rfl rfl (qa (.xb (decide (a0=19))) rfl (gc (kd (p:=a0=19) rfl h (λ hc h=> ?_) (λ hc h=> ?_))))))
          .refine sr (qa (.xs [80]) rfl (gc (zax (zbe (zaz ?_)))))
           obtain rfl:=oi h
           refine ke (pt AF0 2 (.xs [80])) [] rfl (s1 rfl) ⟨rfl,rfl⟩
          .refine zaq (zar (zad (sr (qa (.xs ([]:List UInt8)) rfl (gc (zax ?_))))))
           obtain rfl:=oi h
           refine ke (pt AF0 2 (.xs ([]:List UInt8))) [] rfl (s1 rfl) ⟨rfl,rfl⟩
theorem m_ref16_numbers_ok (a0:List (List UInt8)) (r:(List Int)×Bool) (h:znt a0=some r):Pure Tryz.prog 169 [(.row 1 zaa a0)] (.tup [.row 1 zbf r.1, .exact (.bool r.2)]):=by
 unfold znt at h
 refine Pure.ofFun (zan func169 rfl ntmps169 (by simp) rfl (res2 rfl) λ E hE=>zca (sr (qa (.exact (.slice none 0 0)) rfl (qa (.xb false) rfl (gd (qa (.exact (.slice none 0 0)) rfl (gc (zdl h (λ(e:List Int) (v4_j1:Value)=>(pt AF0 4 (.exact v4_j1))) (λ(e:List Int) (v4_j1:Value)=>[vecT Tryz.prog 23 1 zbf v4_j1 e]) (λ k1 h=> ?_) (λ e v4_j1 h=> ?_)))))))))
 .refine sr (qa (.xi 0) rfl (gc (zas (zei (zgz a0 k1) (zmp a0 k1) (λ _ _=>rfl) (λ m _ _=>rfl) h (λ(c:List Int) (b:Int) (v4_l2:Value)=>(pt (pt (pt AF0 0 (.row 1 zaa a0)) 4 (.exact v4_l2)) 5 (.xi b))) (λ(c:List Int) (b:Int) (v4_l2:Value)=>[vecT Tryz.prog 23 1 zbf v4_l2 c]) (.slice none 0 0) ?_ (λ j c b v4_l2 h=> ?_)))))
  .refine Sub.trans (SubU.to (SubU.nilT (P:=Tryz.prog) (t:=23) (n:=1) (enc:=zbf))) (s3 rfl rfl rfl)
  .unfold zmp at h
   refine zau (sr (qm (.xi b) rfl (qm (.row 1 zaa a0) rfl (gq (zaw (by kernel_rfl) rfl (gq (zby rfl rfl (gc (kd (p:=b<(List.length a0:Int)) rfl h (λ hc h=> ?_) (λ hc h=> ?_))))))))))
   .refine zaq (zad (zau (zas (zau (sr (qm (.row 1 zaa a0) rfl (qm (.xi b) rfl ?_)))))))
    obtain⟨n108,h⟩:=zag h
    refine gq (zaj (by kernel_rfl) rfl rfl n108.1 n108.2 (gq (zap (a:= .xs (gi a0 b)) (by kernel_rfl) rfl rfl ?_)))
    obtain⟨y109,g,h⟩:=zac h
    refine gq (zai (zne _ _ g) func105 (by kernel_rfl) (lc lf ln) (gq (zlq rfl rfl (gc (kd (p:= ¬y109=1) rfl h (λ hc h=> ?_) (λ hc h=> ?_))))))
    .refine sr (qa (.exact (.slice none 0 0)) rfl (qa (.xb false) rfl (gc (zax (zaz (zbe (zaz (zbr (zbe (zbr ?_))))))))))
     obtain rfl:=oi h
     refine ke (pt (pt AF0 2 (.row 1 zbf [])) 3 (.xb false)) [] rfl (Sub.trans (SubU.to SubU.drop) (so (lq rfl (AF.le_put (zep (by decide)) lt0)))) ⟨rfl,rfl⟩
    .refine zaq (zad (sr (qm (.row 1 zaa a0) rfl (qm (.xi b) rfl ?_))))
     obtain⟨n110,h⟩:=zag h
     refine gq (zaj (by kernel_rfl) rfl rfl n110.1 n110.2 (gq (zap (a:= .xs (gi a0 b)) (by kernel_rfl) rfl rfl ?_)))
     obtain⟨y111,i,h⟩:=zac h
     refine gq (zai (zgg _ _ i) func65 (by kernel_rfl) (lc lf ln) (qa (.xi y111) rfl (gc (zbb h (λ(d:Int)=>(pt (pt (pt (pt AF0 0 (.row 1 zaa a0)) 4 (.exact v4_l2)) 5 (.xi b)) 6 (.xi d))) (λ(d:Int)=>[vecT Tryz.prog 23 1 zbf v4_l2 c]) (λ k112 h=> ?_) (λ d h=> ?_)))))
     .refine zbb h (λ(f:Bool)=>(pt (pt (pt (pt (pt AF0 0 (.row 1 zaa a0)) 4 (.exact v4_l2)) 5 (.xi b)) 6 (.xi y111)) 29 (.xb f))) (λ(f:Bool)=>[vecT Tryz.prog 23 1 zbf v4_l2 c]) (λ k114 h=> ?_) (λ f h=> ?_)
      .refine kr (qm (.xi y111) rfl (gq (zby rfl rfl (qm (.xb (decide (y111<(-1)))) rfl (zcm (p:=y111<(-1)) 26 rfl (λ hc=> ?_) (λ hc=> ?_))))))
       .replace h:=zdb h hc
        refine gn (gn (gq (zat rfl (av:= .xb true) rfl (zay (zab ⟨_,h,so (l4 rfl rfl rfl rfl (lq rfl lt0))⟩)))))
       .replace h:=zdc h hc
        refine gy (zae (av:= .xi y111) rfl (gy (zlh rfl rfl (gq (zao rfl (av:= .xb (decide (1073741824<y111))) rfl (zay (zab ⟨_,h,so (l4 rfl rfl rfl rfl (lq rfl lt0))⟩)))))))
      .refine kb (p:=f) rfl h (λ hc h=> ?_) (λ hc h=> ?_)
       .refine kr (qa (.xi (-1)) rfl (zay (zab ⟨_,h,s4 rfl rfl rfl rfl⟩)))
       .refine zaq (zab ⟨_,h,s4 rfl rfl rfl rfl⟩)
     .refine kr (qm (.exact v4_l2) rfl (qm (.xi d) rfl (gq (zcf (n:=1) (enc:=zbf) [d] (CellsAll.cons rfl CellsOf.int CellsAll.nil) rfl (by kernel_rfl) (LEss.cons (lc lf ln) LEss.nil) ?_))))
      obtain⟨n115,h⟩:=zag h
      refine G_l rfl (zeb (by kernel_rfl) rfl rfl oc_c_int n115 (λ v116=>qa (.exact v116) rfl (zay (zar (zad (kr (qm (.xi b) rfl (gq (zbx rfl rfl rfl (qa (.xi (i64 (b+1))) rfl (zay (zab ⟨_,_,v116,h,s3 rfl rfl rfl⟩))))))))))))
   .refine zcl (zbo (zbu (zbn (zab ⟨_,v4_l2,h,s1 rfl⟩))))
 .refine sr (qm (.exact v4_j1) rfl (qa (.exact v4_j1) rfl (qa (.xb true) rfl (gc (zax ?_)))))
  obtain rfl:=oi h
  refine ke (pt (pt AF0 2 (.row 1 zbf e)) 3 (.xb true)) [] rfl (Sub.trans (SubU.to (SubU.freezeT (s:=2) rfl zgy)) (s2 rfl rfl)) ⟨rfl,rfl⟩
theorem zda (a0:Int) (r:Bool) (h:zds a0=some r):Pure Tryz.prog 71 [(.exact (.int .i64 a0))] (.exact (.bool r)):=by
 unfold zds at h
 refine Pure.ofFun (zan func71 rfl ntmps71 (by simp) rfl (res1 rfl) λ E hE=>zca (sr (qa (.xb false) rfl (gc (zbb h (λ(a:Bool)=>(pt AF0 2 (.xb a))) (λ(a:Bool)=>[]) (λ k1 h=> ?_) (λ a h=> ?_))))))
 .refine kr (qm (.xi a0) rfl (gq (op_geq rfl rfl (qm (.xb (decide (2≤a0))) rfl (zcm (p:=2≤a0) 5 rfl (λ hc=> ?_) (λ hc=> ?_))))))
  .replace h:=zdb h hc
   refine gy (zae (av:= .xi a0) rfl (gy (zby rfl rfl (gq (zat rfl (av:= .xb (decide (a0<1026))) rfl (qa (.xb (decide (a0<1026))) rfl (zay (zab ⟨_,h,s1 rfl⟩))))))))
  .replace h:=zdc h hc
   refine gn (gn (gq (zao rfl (av:= .xb false) rfl (qa (.xb false) rfl (zay (zab ⟨_,h,s1 rfl⟩))))))
 .refine zax ?_
  obtain rfl:=oi h
  refine ke (pt AF0 2 (.xb a)) [] rfl (s1 rfl) ⟨rfl,rfl⟩
theorem m_ref16_ValidSet_ok (a0:List Int) (r:Bool) (h:m_ref16_ValidSet a0=some r):Pure Tryz.prog 170 [(.row 1 zbf a0)] (.exact (.bool r)):=by
 unfold m_ref16_ValidSet at h
 refine Pure.ofFun (zan func170 rfl ntmps170 (by simp) rfl (res1 rfl) λ E hE=>zca (sr (qa (.xb false) rfl (gc (zdq h (AF0) ([]) (λ k1 h=> ?_) (λ  h=> ?_))))))
 .refine sr (qa (.xi 0) rfl (gc (zas (zen (zif a0 k1) (zkx a0 k1) (λ _=>rfl) (λ m _=>rfl) h (λ(b:Int)=>(pt (pt AF0 0 (.row 1 zbf a0)) 3 (.xi b))) (λ(b:Int)=>[]) ?_ (λ f b h=> ?_)))))
  .exact s2 rfl rfl
  .unfold zkx at h
   refine zau (sr (qm (.xi b) rfl (qm (.row 1 zbf a0) rfl (gq (zaw (by kernel_rfl) rfl (gq (zby rfl rfl (gc (kd (p:=b<(List.length a0:Int)) rfl h (λ hc h=> ?_) (λ hc h=> ?_))))))))))
   .refine zaq (zad (zau (zas (zbb h (λ(d:Bool)=>(pt (pt (pt AF0 0 (.row 1 zbf a0)) 3 (.xi b)) 31 (.xb d))) (λ(d:Bool)=>[]) (λ k108 h=> ?_) (λ d h=> ?_)))))
    .refine zdy [] [(0,0),(0,1),(0,2),(0,3),(0,4),(0,5),(0,6),(0,7),(0,8),(0,9),(0,10),(0,11),(0,12),(0,13),(0,14),(0,15),(0,16),(0,17),(0,18),(0,19),(0,20),(0,21)] hmixP (by kernel_rfl) (pq rfl (zae (av:= .row 1 zbf a0) rfl (pq rfl (zae (av:= .xi b) rfl ?_))))
     obtain⟨n113,h⟩:=zag h
     refine pq rfl (zaj (by kernel_rfl) rfl rfl n113.1 n113.2 (pq rfl (zap (a:= .xi (gi a0 b)) (by kernel_rfl) rfl rfl ?_)))
     obtain⟨y114,e,h⟩:=zac h
     refine pq rfl (zai (zda _ _ e) func71 (by kernel_rfl) (lc lf ln) (pq rfl (zgf rfl (pq rfl (zae (av:= .xb (!y114)) rfl (P_splitB (c:= !y114) 16 rfl (λ hc=> ?_) (λ hc=> ?_)))))))
     .replace h:=zdb h hc
      refine pn rfl (pn rfl (pn rfl (pu rfl (pu rfl (pu rfl (pu rfl (pu rfl (pu rfl (pu rfl (pu rfl (pu rfl (pu rfl (pn rfl (pq rfl (zat rfl (av:= .xb true) rfl (zdu (zab ⟨_,h,s3 rfl rfl rfl⟩)))))))))))))))))
     .replace h:=zdc h hc
      refine py rfl (zae (av:= .xi b) rfl (py rfl (zlh rfl rfl (py rfl (zae (av:= .xb (decide (0<b))) rfl (zix (p:=0<b) 19 rfl (λ hc=> ?_) (λ hc=> ?_)))))))
      .replace h:=zdb h hc
       refine py rfl (zae (av:= .row 1 zbf a0) rfl (py rfl (zae (av:= .xi b) rfl ?_)))
       obtain⟨n115,h⟩:=zag h
       refine py rfl (zaj (by kernel_rfl) rfl rfl n115.1 n115.2 (py rfl (zap (a:= .xi (gi a0 b)) (by kernel_rfl) rfl rfl (py rfl (zae (av:= .row 1 zbf a0) rfl (py rfl (zae (av:= .xi b) rfl (py rfl (zfo rfl rfl rfl ?_)))))))))
       obtain⟨n116,h⟩:=zag h
       refine py rfl (zaj (by kernel_rfl) rfl rfl n116.1 n116.2 (py rfl (zap (a:= .xi (gi a0 (i64 (b - 1)))) (by kernel_rfl) rfl rfl (py rfl (op_leq rfl rfl (py rfl (zat rfl (av:= .xb (decide ((gi a0 b)≤(gi a0 (i64 (b - 1)))))) rfl (pq rfl (zao rfl (av:= .xb (decide ((gi a0 b)≤(gi a0 (i64 (b - 1)))))) rfl (zdu (zab ⟨_,h,s3 rfl rfl rfl⟩)))))))))))
      .replace h:=zdc h hc
       refine pn rfl (pn rfl (pn rfl (pn rfl (pn rfl (pn rfl (pn rfl (pn rfl (pn rfl (pn rfl (py rfl (zao rfl (av:= .xb false) rfl (pq rfl (zao rfl (av:= .xb false) rfl (zdu (zab ⟨_,h,s3 rfl rfl rfl⟩)))))))))))))))
    .refine kb (p:=d) rfl h (λ hc h=> ?_) (λ hc h=> ?_)
     .refine sr (qa (.xb false) rfl (gc (zax (zbe (zaz (zbr (zbe (zbr ?_))))))))
      obtain rfl:=oi h
      refine ke (pt AF0 2 (.xb false)) [] rfl (s1 rfl) ⟨rfl,rfl⟩
     .refine zaq (zar (zad (kr (qm (.xi b) rfl (gq (zbx rfl rfl rfl (qa (.xi (i64 (b+1))) rfl (zay (zab ⟨_,h,s2 rfl rfl⟩)))))))))
   .refine zcl (zbo (zbu (zbn (zab ⟨h,Sub.of_le lt0⟩))))
 .refine sr (qa (.xb true) rfl (gc (zax ?_)))
  obtain rfl:=oi h
  refine ke (pt AF0 2 (.xb true)) [] rfl (s1 rfl) ⟨rfl,rfl⟩
theorem m_ref16_events_ok (a0:List UInt8) (r:(List Int)×Bool) (h:m_ref16_events a0=some r):Pure Tryz.prog 127 [(.exact (.string (bs a0)))] (.tup [.row 1 zbf r.1, .exact (.bool r.2)]):=by
 unfold m_ref16_events at h
 refine Pure.ofFun (zan func127 rfl ntmps127 (by simp) rfl (res2 rfl) λ E hE=>zca (sr (qa (.exact (.slice none 0 0)) rfl (qa (.xb false) rfl (gd (qm (.xs a0) rfl ?_))))))
 obtain⟨y1,b,h⟩:=zac h
 refine gq (zai (zha _ _ b) func66 (by kernel_rfl) (lc lf ln) ?_)
 obtain⟨y2,d,h⟩:=zac h
 refine gq (zai (m_ref16_numbers_ok _ _ d) func169 (by kernel_rfl) (lc lf ln) (qm (.tup [.row 1 zbf y2.1, .xb y2.2]) rfl (gq (zbh (av:= .row 1 zbf y2.1) rfl rfl (gq (zbh (av:= .xb y2.2) rfl rfl (qa (.row 1 zbf y2.1) rfl (qa (.xb y2.2) rfl (gc (zbb h (λ(a:Bool)=>(pt (pt AF0 2 (.row 1 zbf y2.1)) 3 (.xb a))) (λ(a:Bool)=>[]) (λ k3 h=> ?_) (λ a h=> ?_)))))))))))
 .refine kr (qm (.row 1 zbf y2.1) rfl (qm (.xb y2.2) rfl (qm (.xb y2.2) rfl (G_splitB (c:=y2.2) 14 rfl (λ hc=> ?_) (λ hc=> ?_)))))
  .replace h:=zdb h hc
   refine gy (zae (av:= .xs a0) rfl ?_)
   obtain⟨y6,e,h⟩:=zac h
   refine gy (zai (zne _ _ e) func105 (by kernel_rfl) (lc lf ln) (gy (zbi rfl rfl (gq (zat rfl (av:= .xb (decide (y6=5))) rfl (qm (.xb (decide (y6=5))) rfl (zcm (p:=y6=5) 19 rfl (λ hc=> ?_) (λ hc=> ?_))))))))
   .replace h:=zdb h hc
    refine gy (zae (av:= .row 1 zbf y2.1) rfl ?_)
    obtain⟨y7,f,h⟩:=zac h
    refine gy (zai (m_ref16_ValidSet_ok _ _ f) func170 (by kernel_rfl) (lc lf ln) (gq (zat rfl (av:= .xb y7) rfl (qa (.row 1 zbf y2.1) rfl (qa (.xb y7) rfl (zay (zab ⟨_,h,s2 rfl rfl⟩)))))))
   .replace h:=zdc h hc
    refine gn (gn (gq (zao rfl (av:= .xb false) rfl (qa (.row 1 zbf y2.1) rfl (qa (.xb false) rfl (zay (zab ⟨_,h,s2 rfl rfl⟩)))))))
  .replace h:=zdc h hc
   refine gn (gn (gn (gq (zao rfl (av:= .xb false) rfl (qm (.xb false) rfl (gn (gn (gq (zao rfl (av:= .xb false) rfl (qa (.row 1 zbf y2.1) rfl (qa (.xb false) rfl (zay (zab ⟨_,h,s2 rfl rfl⟩)))))))))))))
 .refine zax ?_
  obtain rfl:=oi h
  refine ke (pt (pt AF0 2 (.row 1 zbf y2.1)) 3 (.xb a)) [] rfl (s2 rfl rfl) ⟨rfl,rfl⟩
theorem m_ref16_before_ok (a0:Int×Int) (a1:Int×Int) (r:Bool) (h:zmx a0 a1=some r):Pure Tryz.prog 86 [(.agg (zak a0)),(.agg (zak a1))] (.exact (.bool r)):=by
 unfold zmx at h
 refine Pure.ofFun (zan func86 rfl ntmps86 (by simp) rfl (res1 rfl) λ E hE=>zca (sr (gq (op_box (c:=zak a0) rfl CellsOf.agg (gq (op_box (c:=zak a1) rfl CellsOf.agg (qa (.xb false) rfl (gc (zbb h (λ(b:Bool)=>(pt AF0 4 (.xb b))) (λ(b:Bool)=>[]) (λ k1 h=> ?_) (λ b h=> ?_))))))))))
 .refine kr (gq (zav (o:=0) (c':=(List.drop 0 (zak a0))) (by kernel_rfl) rfl rfl (gq (zap (a:= .xi a0.1) (by kernel_rfl) rfl rfl (gq (zav (o:=0) (c':=(List.drop 0 (zak a1))) (by kernel_rfl) rfl rfl (gq (zap (a:= .xi a1.1) (by kernel_rfl) rfl rfl (gq (zby rfl rfl (qm (.xb (decide (a0.1<a1.1))) rfl (zcm (p:=a0.1<a1.1) 10 rfl (λ hc=> ?_) (λ hc=> ?_)))))))))))))
  .replace h:=zdb h hc
   refine gn (gn (gn (gn (gn (gn (G_u rfl rfl (G_u rfl rfl (G_u rfl rfl (G_u rfl rfl (G_u rfl rfl (gn (gq (zat rfl (av:= .xb true) rfl (qa (.xb true) rfl (zay (zab ⟨_,h,s1 rfl⟩))))))))))))))))
  .replace h:=zdc h hc
   refine gy (zav (o:=0) (c':=(List.drop 0 (zak a0))) (by kernel_rfl) rfl rfl (gy (zap (a:= .xi a0.1) (by kernel_rfl) rfl rfl (gy (zav (o:=0) (c':=(List.drop 0 (zak a1))) (by kernel_rfl) rfl rfl (gy (zap (a:= .xi a1.1) (by kernel_rfl) rfl rfl (gy (zbi rfl rfl (gy (zae (av:= .xb (decide (a0.1=a1.1))) rfl (zcm (p:=a0.1=a1.1) 16 rfl (λ hc=> ?_) (λ hc=> ?_)))))))))))))
   .replace h:=zdb h hc
    refine gy (zav (o:=1) (c':=(List.drop 1 (zak a0))) (by kernel_rfl) rfl rfl (gy (zap (a:= .xi a0.2) (by kernel_rfl) rfl rfl (gy (zav (o:=1) (c':=(List.drop 1 (zak a1))) (by kernel_rfl) rfl rfl (gy (zap (a:= .xi a1.2) (by kernel_rfl) rfl rfl (gy (zby rfl rfl (gy (zat rfl (av:= .xb (decide (a0.2<a1.2))) rfl (gq (zao rfl (av:= .xb (decide (a0.2<a1.2))) rfl (qa (.xb (decide (a0.2<a1.2))) rfl (zay (zab ⟨_,h,s1 rfl⟩))))))))))))))))
   .replace h:=zdc h hc
    refine gn (gn (gn (gn (gn (gy (zao rfl (av:= .xb false) rfl (gq (zao rfl (av:= .xb false) rfl (qa (.xb false) rfl (zay (zab ⟨_,h,s1 rfl⟩)))))))))))
 .refine zax ?_
  obtain rfl:=oi h
  refine ke (pt AF0 4 (.xb b)) [] rfl (s1 rfl) ⟨rfl,rfl⟩
theorem m_ref16_ValidRelation_ok (a0:List (Int×Int)) (r:Bool) (h:zgp a0=some r):Pure Tryz.prog 171 [(.row 2 zak a0)] (.exact (.bool r)):=by
 unfold zgp at h
 refine Pure.ofFun (zan func171 rfl ntmps171 (by simp) rfl (res1 rfl) λ E hE=>zca (sr (qa (.xb false) rfl (gc (zdq h (AF0) ([]) (λ k1 h=> ?_) (λ  h=> ?_))))))
 .refine sr (qa (.xi 0) rfl (gc (zas (zen (zfb a0 k1) (zgo a0 k1) (λ _=>rfl) (λ m _=>rfl) h (λ(b:Int)=>(pt (pt AF0 0 (.row 2 zak a0)) 3 (.xi b))) (λ(b:Int)=>[]) ?_ (λ i b h=> ?_)))))
  .exact s2 rfl rfl
  .unfold zgo at h
   refine zau (sr (qm (.xi b) rfl (qm (.row 2 zak a0) rfl (gq (zaw (by kernel_rfl) rfl (gq (zby rfl rfl (gc (kd (p:=b<(List.length a0:Int)) rfl h (λ hc h=> ?_) (λ hc h=> ?_))))))))))
   .refine zaq (zad (zau (zas (zbb h (λ(d:Bool)=>(pt (pt (pt AF0 0 (.row 2 zak a0)) 3 (.xi b)) 42 (.xb d))) (λ(d:Bool)=>[]) (λ k174 h=> ?_) (λ d h=> ?_)))))
    .refine zdy [] [(0,0),(0,1),(0,2),(0,3),(0,4),(0,5),(0,6),(0,7),(0,8),(0,9),(0,10),(0,11),(0,12),(0,13),(0,14),(0,15),(0,16),(0,17),(0,18),(0,19),(0,20),(0,21),(0,22),(0,23),(0,24),(0,25),(0,26),(0,27),(0,28),(0,29),(0,30),(0,31),(0,32)] hmixP (by kernel_rfl) (pq rfl (zae (av:= .row 2 zak a0) rfl (pq rfl (zae (av:= .xi b) rfl ?_))))
     obtain⟨n182,h⟩:=zag h
     refine pq rfl (zaj (by kernel_rfl) rfl rfl n182.1 n182.2 (pq rfl (zav (o:=0) (c':=(List.drop 0 (zak (gi a0 b)))) (by kernel_rfl) rfl rfl (pq rfl (zap (a:= .xi ((gi a0 b).1)) (by kernel_rfl) rfl rfl ?_)))))
     obtain⟨y183,e,h⟩:=zac h
     refine pq rfl (zai (zda _ _ e) func71 (by kernel_rfl) (lc lf ln) (pq rfl (zgf rfl (pq rfl (zae (av:= .xb (!y183)) rfl (P_splitB (c:= !y183) 17 rfl (λ hc=> ?_) (λ hc=> ?_)))))))
     .replace h:=zdb h hc
      refine pn rfl (pn rfl (pn rfl (pn rfl (pn rfl (pn rfl (pn rfl (pq rfl (zat rfl (av:= .xb true) rfl (pq rfl (zae (av:= .xb true) rfl (pn rfl (pn rfl (pn rfl (pu rfl (pu rfl (pu rfl (pu rfl (pu rfl (pu rfl (pu rfl (pu rfl (pu rfl (pu rfl (pu rfl (pn rfl (pq rfl (zat rfl (av:= .xb true) rfl ?_)))))))))))))))))))))))))))
      refine zdu (zab ⟨_,h,s3 rfl rfl rfl⟩)
     .replace h:=zdc h hc
      refine py rfl (zae (av:= .row 2 zak a0) rfl (py rfl (zae (av:= .xi b) rfl ?_)))
      obtain⟨n184,h⟩:=zag h
      refine py rfl (zaj (by kernel_rfl) rfl rfl n184.1 n184.2 (py rfl (zav (o:=1) (c':=(List.drop 1 (zak (gi a0 b)))) (by kernel_rfl) rfl rfl (py rfl (zap (a:= .xi ((gi a0 b).2)) (by kernel_rfl) rfl rfl ?_)))))
      obtain⟨y185,f,h⟩:=zac h
      refine py rfl (zai (zda _ _ f) func71 (by kernel_rfl) (lc lf ln) (py rfl (zgf rfl (pq rfl (zao rfl (av:= .xb (!y185)) rfl (pq rfl (zae (av:= .xb (!y185)) rfl (P_splitB (c:= !y185) 26 rfl (λ hc=> ?_) (λ hc=> ?_)))))))))
      .replace h:=zdb h hc
       refine pn rfl (pn rfl (pn rfl (pu rfl (pu rfl (pu rfl (pu rfl (pu rfl (pu rfl (pu rfl (pu rfl (pu rfl (pu rfl (pu rfl (pn rfl (pq rfl (zat rfl (av:= .xb true) rfl (zdu (zab ⟨_,h,s3 rfl rfl rfl⟩))))))))))))))))))
      .replace h:=zdc h hc
       refine py rfl (zae (av:= .xi b) rfl (py rfl (zlh rfl rfl (py rfl (zae (av:= .xb (decide (0<b))) rfl (zix (p:=0<b) 29 rfl (λ hc=> ?_) (λ hc=> ?_)))))))
       .replace h:=zdb h hc
        refine py rfl (zae (av:= .row 2 zak a0) rfl (py rfl (zae (av:= .xi b) rfl (py rfl (zfo rfl rfl rfl ?_)))))
        obtain⟨n186,h⟩:=zag h
        refine py rfl (zaj (by kernel_rfl) rfl rfl n186.1 n186.2 (py rfl (zke (m:=2) (c':=zak (gi a0 (i64 (b - 1)))) (by kernel_rfl) rfl rfl rfl (py rfl (zae (av:= .row 2 zak a0) rfl (py rfl (zae (av:= .xi b) rfl ?_)))))))
        obtain⟨n187,h⟩:=zag h
        refine py rfl (zaj (by kernel_rfl) rfl rfl n187.1 n187.2 (py rfl (zke (m:=2) (c':=zak (gi a0 b)) (by kernel_rfl) rfl rfl rfl ?_)))
        obtain⟨y188,g,h⟩:=zac h
        refine py rfl (zai (m_ref16_before_ok _ _ _ g) func86 (by kernel_rfl) (lc lf (lc lf ln)) (py rfl (zgf rfl (py rfl (zat rfl (av:= .xb (!y188)) rfl (pq rfl (zao rfl (av:= .xb (!y188)) rfl (zdu (zab ⟨_,h,s3 rfl rfl rfl⟩)))))))))
       .replace h:=zdc h hc
        refine pn rfl (pn rfl (pn rfl (pn rfl (pn rfl (pn rfl (pn rfl (pn rfl (pn rfl (pn rfl (pn rfl (py rfl (zao rfl (av:= .xb false) rfl (pq rfl (zao rfl (av:= .xb false) rfl (zdu (zab ⟨_,h,s3 rfl rfl rfl⟩))))))))))))))))
    .refine kb (p:=d) rfl h (λ hc h=> ?_) (λ hc h=> ?_)
     .refine sr (qa (.xb false) rfl (gc (zax (zbe (zaz (zbr (zbe (zbr ?_))))))))
      obtain rfl:=oi h
      refine ke (pt AF0 2 (.xb false)) [] rfl (s1 rfl) ⟨rfl,rfl⟩
     .refine zaq (zar (zad (kr (qm (.xi b) rfl (gq (zbx rfl rfl rfl (qa (.xi (i64 (b+1))) rfl (zay (zab ⟨_,h,s2 rfl rfl⟩)))))))))
   .refine zcl (zbo (zbu (zbn (zab ⟨h,Sub.of_le lt0⟩))))
 .refine sr (qa (.xb true) rfl (gc (zax ?_)))
  obtain rfl:=oi h
  refine ke (pt AF0 2 (.xb true)) [] rfl (s1 rfl) ⟨rfl,rfl⟩
theorem m_ref16_pairs_ok (a0:List UInt8) (r:(List (Int×Int))×Bool) (h:m_ref16_pairs a0=some r):Pure Tryz.prog 128 [(.exact (.string (bs a0)))] (.tup [.row 2 zak r.1, .exact (.bool r.2)]):=by
 unfold m_ref16_pairs at h
 refine Pure.ofFun (zan func128 rfl ntmps128 (by simp) rfl (res2 rfl) λ E hE=>zca (sr (qa (.exact (.slice none 0 0)) rfl (qa (.xb false) rfl (gc (zau (sr (qm (.xs a0) rfl ?_))))))))
 obtain⟨y1,g,h⟩:=zac h
 refine gq (zai (zne _ _ g) func105 (by kernel_rfl) (lc lf ln) (gq (zlq rfl rfl (gc (kd (p:= ¬y1=5) rfl h (λ hc h=> ?_) (λ hc h=> ?_))))))
 .refine sr (qa (.exact (.slice none 0 0)) rfl (qa (.xb false) rfl (gc (zax (zaz ?_)))))
  obtain rfl:=oi h
  refine ke (pt (pt AF0 2 (.row 2 zak [])) 3 (.xb false)) [] rfl (so (lq rfl (AF.le_put (zep (by decide)) lt0))) ⟨rfl,rfl⟩
 .refine zaq (zad (sr (qa (.exact (.slice none 0 0)) rfl (gd (qm (.xs a0) rfl ?_)))))
  obtain⟨y2,i,h⟩:=zac h
  refine gq (zai (zha _ _ i) func66 (by kernel_rfl) (lc lf ln) (qa (.row 1 zaa y2) rfl (gc (zdl h (λ(d:List (Int×Int)) (v4_j3:Value)=>(pt AF0 4 (.exact v4_j3))) (λ(d:List (Int×Int)) (v4_j3:Value)=>[vecT Tryz.prog 24 2 zak v4_j3 d]) (λ k3 h=> ?_) (λ d v4_j3 h=> ?_)))))
  .refine sr (qa (.xi 0) rfl (gc (zas (zei (zlw y2 k3) (m_ref16_pairs_B2 y2 k3) (λ _ _=>rfl) (λ m _ _=>rfl) h (λ(e:List (Int×Int)) (b:Int) (v4_l2:Value)=>(pt (pt (pt AF0 4 (.exact v4_l2)) 5 (.row 1 zaa y2)) 6 (.xi b))) (λ(e:List (Int×Int)) (b:Int) (v4_l2:Value)=>[vecT Tryz.prog 24 2 zak v4_l2 e]) (.slice none 0 0) ?_ (λ q e b v4_l2 h=> ?_)))))
   .refine Sub.trans (SubU.to (SubU.nilT (P:=Tryz.prog) (t:=24) (n:=2) (enc:=zak))) (s3 rfl rfl rfl)
   .unfold m_ref16_pairs_B2 at h
    refine zau (sr (qm (.xi b) rfl (qm (.row 1 zaa y2) rfl (gq (zaw (by kernel_rfl) rfl (gq (zby rfl rfl (gc (kd (p:=b<(List.length y2:Int)) rfl h (λ hc h=> ?_) (λ hc h=> ?_))))))))))
    .refine zaq (zad (zau (zas (sr (qm (.row 1 zaa y2) rfl (qm (.xi b) rfl ?_))))))
     obtain⟨n209,h⟩:=zag h
     refine gq (zaj (by kernel_rfl) rfl rfl n209.1 n209.2 (gq (zap (a:= .xs (gi y2 b)) (by kernel_rfl) rfl rfl ?_)))
     obtain⟨y210,j,h⟩:=zac h
     refine gq (zai (zha _ _ j) func66 (by kernel_rfl) (lc lf ln) ?_)
     obtain⟨y211,k,h⟩:=zac h
     refine gq (zai (m_ref16_numbers_ok _ _ k) func169 (by kernel_rfl) (lc lf ln) (qm (.tup [.row 1 zbf y211.1, .xb y211.2]) rfl (gq (zbh (av:= .row 1 zbf y211.1) rfl rfl (gq (zbh (av:= .xb y211.2) rfl rfl (qa (.row 1 zbf y211.1) rfl (qa (.xb y211.2) rfl (gc (zau (zbb h (λ(f:Bool)=>(pt (pt (pt (pt (pt AF0 4 (.exact v4_l2)) 5 (.row 1 zaa y2)) 6 (.xi b)) 7 (.row 1 zbf y211.1)) 43 (.xb f))) (λ(f:Bool)=>[vecT Tryz.prog 24 2 zak v4_l2 e]) (λ k218 h=> ?_) (λ f h=> ?_))))))))))))
     .refine kr (qm (.row 1 zaa y2) rfl (qm (.xi b) rfl ?_))
      obtain⟨n221,h⟩:=zag h
      refine gq (zaj (by kernel_rfl) rfl rfl n221.1 n221.2 (gq (zap (a:= .xs (gi y2 b)) (by kernel_rfl) rfl rfl ?_)))
      obtain⟨y222,l,h⟩:=zac h
      refine gq (zai (zne _ _ l) func105 (by kernel_rfl) (lc lf ln) (gq (zlq rfl rfl (qm (.xb (decide (¬y222=3))) rfl (zcm (p:= ¬y222=3) 35 rfl (λ hc=> ?_) (λ hc=> ?_))))))
      .replace h:=zdb h hc
       refine gn (gn (gq (zat rfl (av:= .xb true) rfl (qm (.xb true) rfl (gn (gn (gn (gq (zat rfl (av:= .xb true) rfl (zay (zab ⟨_,h,so (l4 rfl rfl rfl rfl (lq rfl lt0))⟩)))))))))))
      .replace h:=zdc h hc
       refine gy (zae (av:= .xb y211.2) rfl (gy (zgf rfl (gq (zao rfl (av:= .xb (!y211.2)) rfl (qm (.xb (!y211.2)) rfl (G_splitB (c:= !y211.2) 39 rfl (λ hc=> ?_) (λ hc=> ?_))))))))
       .replace h:=zdb h hc
        refine gn (gn (gn (gq (zat rfl (av:= .xb true) rfl (zay (zab ⟨_,h,so (l4 rfl rfl rfl rfl (lq rfl lt0))⟩))))))
       .replace h:=zdc h hc
        refine gy (zae (av:= .row 1 zbf y211.1) rfl (gy (zaw (by kernel_rfl) rfl (gy (zlq rfl rfl (gq (zao rfl (av:= .xb (decide (¬(List.length y211.1:Int)=2))) rfl (zay (zab ⟨_,h,so (l4 rfl rfl rfl rfl (lq rfl lt0))⟩)))))))))
     .refine kb (p:=f) rfl h (λ hc h=> ?_) (λ hc h=> ?_)
      .refine sr (qa (.exact (.slice none 0 0)) rfl (qa (.xb false) rfl (gc (zax (zaz (zbe (zaz (zbr (zbe (zbr ?_))))))))))
       obtain rfl:=oi h
       refine ke (pt (pt AF0 2 (.row 2 zak [])) 3 (.xb false)) [] rfl (Sub.trans (SubU.to SubU.drop) (so (lq rfl (AF.le_put (zep (by decide)) lt0)))) ⟨rfl,rfl⟩
      .refine zaq (zad (zdy [] [(0,0),(0,1),(0,2),(0,3),(0,4),(0,5),(0,6),(0,7),(0,8),(2,9),(0,10)] hmixP (by kernel_rfl) (pq rfl (zae (av:= .exact v4_l2) rfl (pq rfl (zae (av:= .row 1 zbf y211.1) rfl ?_))))))
       obtain⟨n223,h⟩:=zag h
       refine pq rfl (zaj (by kernel_rfl) rfl rfl n223.1 n223.2 (pq rfl (zap (a:= .xi (gi y211.1 0)) (by kernel_rfl) rfl rfl (pq rfl (zae (av:= .row 1 zbf y211.1) rfl ?_)))))
       obtain⟨n224,h⟩:=zag h
       refine pq rfl (zaj (by kernel_rfl) rfl rfl n224.1 n224.2 (pq rfl (zap (a:= .xi (gi y211.1 1)) (by kernel_rfl) rfl rfl (pq rfl (op_bld (c':=zak (gi y211.1 0,gi y211.1 1)) (CellsAll.cons rfl CellsOf.int (CellsAll.cons rfl CellsOf.int CellsAll.nil)) rfl (lc lf (lc lf ln)) (pq rfl (zcf (n:=2) (enc:=zak) [(gi y211.1 0,gi y211.1 1)] (CellsAll.cons rfl CellsOf.agg CellsAll.nil) rfl (by kernel_rfl) (LEss.cons (lc lf (lc lf ln)) LEss.nil) ?_)))))))
       obtain⟨n225,h⟩:=zag h
       refine P_l rfl (zeb (by kernel_rfl) rfl rfl ziq n225 (λ v226=>pq rfl (zba (av:= .exact v226) rfl (zdu (zar (zad (kr (qm (.xi b) rfl (gq (zbx rfl rfl rfl (qa (.xi (i64 (b+1))) rfl (zay (zab ⟨_,_,v226,h,s3 rfl rfl rfl⟩)))))))))))))
    .refine zcl (zbo (zbu (zbn (zab ⟨_,v4_l2,h,s1 rfl⟩))))
  .refine sr (qm (.exact v4_j3) rfl (qm (.exact v4_j3) rfl (G_sub rfl (SubU.freezeT3 (s1:=4) (s2:=54) (s3:=55) rfl rfl rfl zco) ?_)))
   obtain⟨y227,o,h⟩:=zac h
   refine gq (zai (m_ref16_ValidRelation_ok _ _ o) func171 (by kernel_rfl) (lc lf ln) (qa (.row 2 zak d) rfl (qa (.xb y227) rfl (gc (zax ?_)))))
   obtain rfl:=oi h
   refine ke (pt (pt AF0 2 (.row 2 zak d)) 3 (.xb y227)) [] rfl (s2 rfl rfl) ⟨rfl,rfl⟩
theorem m_ref16_Above_ok (a0:List (Int×Int)) (r:(List (Int×Int))) (h:m_ref16_Above a0=some r):Pure Tryz.prog 129 [(.row 2 zak a0)] (.row 2 zal r):=by
 unfold m_ref16_Above at h
 refine Pure.ofFun (zan func129 rfl ntmps129 (by simp) rfl (res1 rfl) λ E hE=>zca (sr (qa (.exact (.slice none 0 0)) rfl (gd (qa (.exact (.slice none 0 0)) rfl (gc (zdl h (λ(c:List (Int×Int)) (v3_j1:Value)=>(pt AF0 3 (.exact v3_j1))) (λ(c:List (Int×Int)) (v3_j1:Value)=>[vecT Tryz.prog 25 2 zal v3_j1 c]) (λ k1 h=> ?_) (λ c v3_j1 h=> ?_))))))))
 .refine sr (qa (.xi 0) rfl (gc (zas (zei (zlr a0 k1) (m_ref16_Above_B2 a0 k1) (λ _ _=>rfl) (λ m _ _=>rfl) h (λ(d:List (Int×Int)) (b:Int) (v3_l2:Value)=>(pt (pt (pt AF0 0 (.row 2 zak a0)) 3 (.exact v3_l2)) 4 (.xi b))) (λ(d:List (Int×Int)) (b:Int) (v3_l2:Value)=>[vecT Tryz.prog 25 2 zal v3_l2 d]) (.slice none 0 0) ?_ (λ e d b v3_l2 h=> ?_)))))
  .refine Sub.trans (SubU.to (SubU.nilT (P:=Tryz.prog) (t:=25) (n:=2) (enc:=zal))) (s3 rfl rfl rfl)
  .unfold m_ref16_Above_B2 at h
   refine zau (sr (qm (.xi b) rfl (qm (.row 2 zak a0) rfl (gq (zaw (by kernel_rfl) rfl (gq (zby rfl rfl (gc (kd (p:=b<(List.length a0:Int)) rfl h (λ hc h=> ?_) (λ hc h=> ?_))))))))))
   .refine zaq (zad (zau (zas (zdy [] [(0,0),(0,1),(0,2),(0,3),(0,4),(0,5),(0,6),(0,7),(0,8),(0,9),(0,10),(0,11),(0,12),(2,13),(0,14)] hmixP (by kernel_rfl) (pq rfl (zae (av:= .exact v3_l2) rfl (pq rfl (zae (av:= .row 2 zak a0) rfl (pq rfl (zae (av:= .xi b) rfl ?_))))))))))
    obtain⟨n23,h⟩:=zag h
    refine pq rfl (zaj (by kernel_rfl) rfl rfl n23.1 n23.2 (pq rfl (zav (o:=0) (c':=(List.drop 0 (zak (gi a0 b)))) (by kernel_rfl) rfl rfl (pq rfl (zap (a:= .xi ((gi a0 b).1)) (by kernel_rfl) rfl rfl (pq rfl (zae (av:= .row 2 zak a0) rfl (pq rfl (zae (av:= .xi b) rfl ?_)))))))))
    obtain⟨n24,h⟩:=zag h
    refine pq rfl (zaj (by kernel_rfl) rfl rfl n24.1 n24.2 (pq rfl (zav (o:=1) (c':=(List.drop 1 (zak (gi a0 b)))) (by kernel_rfl) rfl rfl (pq rfl (zap (a:= .xi ((gi a0 b).2)) (by kernel_rfl) rfl rfl (pq rfl (op_bld (c':=zal ((gi a0 b).1,(gi a0 b).2)) (CellsAll.cons rfl CellsOf.int (CellsAll.cons rfl CellsOf.int CellsAll.nil)) rfl (lc lf (lc lf ln)) (pq rfl (zcf (n:=2) (enc:=zal) [((gi a0 b).1,(gi a0 b).2)] (CellsAll.cons rfl CellsOf.agg CellsAll.nil) rfl (by kernel_rfl) (LEss.cons (lc lf (lc lf ln)) LEss.nil) ?_)))))))))
    obtain⟨n25,h⟩:=zag h
    refine P_l rfl (zeb (by kernel_rfl) rfl rfl zmz n25 (λ v26=>pq rfl (zba (av:= .exact v26) rfl (zdu (zar (zad (kr (qm (.xi b) rfl (gq (zbx rfl rfl rfl (qa (.xi (i64 (b+1))) rfl (zay (zab ⟨_,_,v26,h,s3 rfl rfl rfl⟩)))))))))))))
   .refine zcl (zbo (zbu (zbn (zab ⟨_,v3_l2,h,s1 rfl⟩))))
 .refine sr (qm (.exact v3_j1) rfl (qa (.exact v3_j1) rfl (gc (zax ?_))))
  obtain rfl:=oi h
  refine ke (pt AF0 2 (.row 2 zal c)) [] rfl (Sub.trans (SubU.to (SubU.freezeT (s:=2) rfl len_c_api_Above)) (s1 rfl)) ⟨rfl,rfl⟩
end
noncomputable section
open Go.RowKit
attribute [local irreducible] AV.exact AV.top AV.row AV.ptr AV.agg AV.tup AV.eptr AV.fn AV.nilq AV.nilqn opA opB opM opR Quiet Loud Reads wpG awp den Sub SubU Pure Fun vecI vecT boxI CellsAll CellsOf OneC LEs LEss
set_option maxRecDepth 100000
set_option maxHeartbeats 4000000
theorem m_ref16_greater_ok (a0:List (Int×Int)) (a1:Int) (a2:Int) (r:Bool) (h:m_ref16_greater a0 a1 a2=some r):Pure Tryz.prog 87 [(.row 2 zal a0),(.exact (.int .i64 a1)),(.exact (.int .i64 a2))] (.exact (.bool r)):=by
 unfold m_ref16_greater at h
 refine Pure.ofFun (zan func87 rfl ntmps87 (by simp) rfl (res1 rfl) λ E hE=>zca (sr (qa (.xb false) rfl (gc (zdq h (AF0) ([]) (λ k1 h=> ?_) (λ  h=> ?_))))))
 .refine sr (qa (.xi 0) rfl (gc (zas (zen (zjr a0 a1 a2 k1) (zmd a0 a1 a2 k1) (λ _=>rfl) (λ m _=>rfl) h (λ(b:Int)=>(pt (pt (pt (pt AF0 0 (.row 2 zal a0)) 1 (.xi a1)) 2 (.xi a2)) 7 (.xi b))) (λ(b:Int)=>[]) ?_ (λ d b h=> ?_)))))
  .exact s4 rfl rfl rfl rfl
  .unfold zmd at h
   refine zau (sr (qm (.xi b) rfl (qm (.row 2 zal a0) rfl (gq (zaw (by kernel_rfl) rfl (gq (zby rfl rfl (gc (kd (p:=b<(List.length a0:Int)) rfl h (λ hc h=> ?_) (λ hc h=> ?_))))))))))
   .refine zaq (zad (zau (zas (zbb h (λ(c:Bool)=>(pt (pt (pt (pt (pt AF0 0 (.row 2 zal a0)) 1 (.xi a1)) 2 (.xi a2)) 7 (.xi b)) 29 (.xb c))) (λ(c:Bool)=>[]) (λ k64 h=> ?_) (λ c h=> ?_)))))
    .refine kr (qm (.row 2 zal a0) rfl (qm (.xi b) rfl ?_))
     obtain⟨n67,h⟩:=zag h
     refine gq (zaj (by kernel_rfl) rfl rfl n67.1 n67.2 (gq (zav (o:=0) (c':=(List.drop 0 (zal (gi a0 b)))) (by kernel_rfl) rfl rfl (gq (zap (a:= .xi ((gi a0 b).1)) (by kernel_rfl) rfl rfl (qm (.xi a1) rfl (gq (zbi rfl rfl (qm (.xb (decide (((gi a0 b).1)=a1))) rfl (zcm (p:=((gi a0 b).1)=a1) 21 rfl (λ hc=> ?_) (λ hc=> ?_)))))))))))
     .replace h:=zdb h hc
      refine gy (zae (av:= .row 2 zal a0) rfl (gy (zae (av:= .xi b) rfl ?_)))
      obtain⟨n68,h⟩:=zag h
      refine gy (zaj (by kernel_rfl) rfl rfl n68.1 n68.2 (gy (zav (o:=1) (c':=(List.drop 1 (zal (gi a0 b)))) (by kernel_rfl) rfl rfl (gy (zap (a:= .xi ((gi a0 b).2)) (by kernel_rfl) rfl rfl (gy (zae (av:= .xi a2) rfl (gy (zbi rfl rfl (gq (zat rfl (av:= .xb (decide (((gi a0 b).2)=a2))) rfl (zay (zab ⟨_,h,so (l4 rfl rfl rfl rfl (lq rfl lt0))⟩)))))))))))))
     .replace h:=zdc h hc
      refine gn (gn (gn (gn (gn (gn (gn (gq (zao rfl (av:= .xb false) rfl (zay (zab ⟨_,h,so (l4 rfl rfl rfl rfl (lq rfl lt0))⟩))))))))))
    .refine kb (p:=c) rfl h (λ hc h=> ?_) (λ hc h=> ?_)
     .refine sr (qa (.xb true) rfl (gc (zax (zbe (zaz (zbr (zbe (zbr ?_))))))))
      obtain rfl:=oi h
      refine ke (pt AF0 6 (.xb true)) [] rfl (s1 rfl) ⟨rfl,rfl⟩
     .refine zaq (zar (zad (kr (qm (.xi b) rfl (gq (zbx rfl rfl rfl (qa (.xi (i64 (b+1))) rfl (zay (zab ⟨_,h,s4 rfl rfl rfl rfl⟩)))))))))
   .refine zcl (zbo (zbu (zbn (zab ⟨h,Sub.of_le lt0⟩))))
 .refine sr (qa (.xb false) rfl (gc (zax ?_)))
  obtain rfl:=oi h
  refine ke (pt AF0 6 (.xb false)) [] rfl (s1 rfl) ⟨rfl,rfl⟩
theorem m_ref16_ValidOrder_ok (a0:List (Int×Int)) (r:Bool) (h:zmu a0=some r):Pure Tryz.prog 41 [(.row 2 zal a0)] (.exact (.bool r)):=by
 unfold zmu at h
 refine Pure.ofFun (zan func41 rfl ntmps41 (by simp) rfl (res1 rfl) λ E hE=>zca (sr (qa (.xb false) rfl (gc (zdq h ((pt AF0 0 (.row 2 zal a0))) ([]) (λ k1 h=> ?_) (λ  h=> ?_))))))
 .refine sr (qa (.xi 0) rfl (gc (zas (zen (zgn a0 k1) (zir a0 k1) (λ _=>rfl) (λ m _=>rfl) h (λ(b:Int)=>(pt (pt AF0 0 (.row 2 zal a0)) 3 (.xi b))) (λ(b:Int)=>[]) ?_ (λ n b h=> ?_)))))
  .exact s2 rfl rfl
  .unfold zir at h
   refine zau (sr (qm (.xi b) rfl (qm (.row 2 zal a0) rfl (gq (zaw (by kernel_rfl) rfl (gq (zby rfl rfl (gc (kd (p:=b<(List.length a0:Int)) rfl h (λ hc h=> ?_) (λ hc h=> ?_))))))))))
   .refine zaq (zad (zau (zas (sr (qm (.row 2 zal a0) rfl (qm (.xi b) rfl ?_))))))
    obtain⟨n152,h⟩:=zag h
    refine gq (zaj (by kernel_rfl) rfl rfl n152.1 n152.2 (gq (zke (m:=2) (c':=zal (gi a0 b)) (by kernel_rfl) rfl rfl rfl (G_l rfl (op_alloc (c:=[.xi ((0,0).1), .xi ((0,0).2)]) rfl (lc lf (lc lf ln)) (λ b153=>G_l rfl (op_store_box (c':=[.xi ((gi a0 b).1), .xi ((gi a0 b).2)]) (c3:=[.xi ((gi a0 b).1), .xi ((gi a0 b).2)]) rfl rfl CellsOf.agg (lc lf (lc lf ln)) (zmz _) (by kernel_rfl) (Nat.le_of_ble_eq_true rfl) rfl (gc (zbb h (λ(f:Bool)=>(pt (pt (pt AF0 0 (.row 2 zal a0)) 3 (.xi b)) 59 (.xb f))) (λ(f:Bool)=>[]) (λ k154 h=> ?_) (λ f h=> ?_))))))))))
    .refine zdy [] [(0,0),(1,1),(0,2),(0,3),(0,4),(0,5),(1,6),(0,7),(0,8),(0,9),(0,10),(0,11),(0,13),(1,12),(1,14),(0,15),(0,16),(0,17),(0,18),(0,19),(0,20),(0,21),(0,22),(0,23),(0,24),(0,25),(0,26),(0,27),(0,28),(0,29),(0,30),(0,31),(0,32),(0,33),(0,34),(0,36),(1,35),(1,37),(0,38),(0,39),(0,40),(0,41),(0,42)] hmixP (by kernel_rfl) (pq rfl (zeq (o:=0) (by kernel_rfl) rfl (P_r rfl (zer (a:= .xi ((gi a0 b).1)) (by kernel_rfl) rfl rfl ?_))))
     obtain⟨y160,i,h⟩:=zac h
     refine pq rfl (zai (zda _ _ i) func71 (by kernel_rfl) (lc lf ln) (pq rfl (zgf rfl (pq rfl (zae (av:= .xb (!y160)) rfl (P_splitB (c:= !y160) 21 rfl (λ hc=> ?_) (λ hc=> ?_)))))))
     .replace h:=zdb h hc
      refine pn rfl (P_n zja rfl rfl rfl (pn rfl (pn rfl (pq rfl (zat rfl (av:= .xb true) rfl (pq rfl (zae (av:= .xb true) rfl (pn rfl (pn rfl (P_n zja rfl rfl rfl (P_n zja rfl rfl rfl (pn rfl (pq rfl (zat rfl (av:= .xb true) rfl (pq rfl (zae (av:= .xb true) rfl (pn rfl (pn rfl (pn rfl (pu rfl (pu rfl (pu rfl (pu rfl (pu rfl (pu rfl (pu rfl (pu rfl (pu rfl ?_))))))))))))))))))))))))))))
      refine pu rfl (pu rfl (pu rfl (pu rfl (pu rfl (pu rfl (P_u zja rfl rfl rfl (P_u zja rfl rfl rfl (pu rfl (pu rfl (pu rfl (pn rfl (pq rfl (zat rfl (av:= .xb true) rfl (zdu (zab ⟨_,h, ?_⟩)))))))))))))))
      refine Sub.trans (SubU.to SubU.drop) (s3 rfl rfl rfl)
     .replace h:=zdc h hc
      refine py rfl (zeq (o:=1) (by kernel_rfl) rfl (Py_r rfl rfl rfl (zer (a:= .xi ((gi a0 b).2)) (by kernel_rfl) rfl rfl ?_)))
      obtain⟨y161,j,h⟩:=zac h
      refine py rfl (zai (zda _ _ j) func71 (by kernel_rfl) (lc lf ln) (py rfl (zgf rfl (pq rfl (zao rfl (av:= .xb (!y161)) rfl (pq rfl (zae (av:= .xb (!y161)) rfl (P_splitB (c:= !y161) 27 rfl (λ hc=> ?_) (λ hc=> ?_)))))))))
      .replace h:=zdb h hc
       refine pn rfl (pn rfl (P_n zja rfl rfl rfl (P_n zja rfl rfl rfl (pn rfl (pq rfl (zat rfl (av:= .xb true) rfl (pq rfl (zae (av:= .xb true) rfl (pn rfl (pn rfl (pn rfl (pu rfl (pu rfl (pu rfl (pu rfl (pu rfl (pu rfl (pu rfl (pu rfl (pu rfl (pu rfl (pu rfl (pu rfl (pu rfl (pu rfl (pu rfl ?_))))))))))))))))))))))))))
       refine P_u zja rfl rfl rfl (P_u zja rfl rfl rfl (pu rfl (pu rfl (pu rfl (pn rfl (pq rfl (zat rfl (av:= .xb true) rfl (zdu (zab ⟨_,h, ?_⟩)))))))))
       refine Sub.trans (SubU.to SubU.drop) (s3 rfl rfl rfl)
      .replace h:=zdc h hc
       refine py rfl (zeq (o:=0) (by kernel_rfl) rfl (py rfl (zeq (o:=1) (by kernel_rfl) rfl (Py_r rfl rfl rfl (zer (a:= .xi ((gi a0 b).1)) (by kernel_rfl) rfl rfl (Py_r rfl rfl rfl (zer (a:= .xi ((gi a0 b).2)) (by kernel_rfl) rfl rfl (py rfl (zbi rfl rfl (pq rfl (zao rfl (av:= .xb (decide (((gi a0 b).1)=((gi a0 b).2)))) rfl (pq rfl (zae (av:= .xb (decide (((gi a0 b).1)=((gi a0 b).2)))) rfl (zix (p:=((gi a0 b).1)=((gi a0 b).2)) 34 rfl (λ hc=> ?_) (λ hc=> ?_)))))))))))))))
       .replace h:=zdb h hc
        refine pn rfl (pn rfl (pn rfl (pu rfl (pu rfl (pu rfl (pu rfl (pu rfl (pu rfl (pu rfl (pu rfl (pu rfl (pu rfl (pu rfl (pu rfl (pu rfl (pu rfl (pu rfl (P_u zja rfl rfl rfl (P_u zja rfl rfl rfl (pu rfl (pu rfl (pu rfl (pn rfl (pq rfl (zat rfl (av:= .xb true) rfl ?_)))))))))))))))))))))))))
        refine zdu (zab ⟨_,h, ?_⟩)
        refine Sub.trans (SubU.to SubU.drop) (s3 rfl rfl rfl)
       .replace h:=zdc h hc
        refine py rfl (zae (av:= .xi b) rfl (py rfl (zlh rfl rfl (py rfl (zae (av:= .xb (decide (0<b))) rfl (zix (p:=0<b) 37 rfl (λ hc=> ?_) (λ hc=> ?_)))))))
        .replace h:=zdb h hc
         refine py rfl (zae (av:= .row 2 zal a0) rfl (py rfl (zae (av:= .xi b) rfl (py rfl (zfo rfl rfl rfl ?_)))))
         obtain⟨n162,h⟩:=zag h
         refine py rfl (zaj (by kernel_rfl) rfl rfl n162.1 n162.2 (py rfl (zav (o:=0) (c':=(List.drop 0 (zal (gi a0 (i64 (b - 1)))))) (by kernel_rfl) rfl rfl (py rfl (zap (a:= .xi ((gi a0 (i64 (b - 1))).1)) (by kernel_rfl) rfl rfl (py rfl (zae (av:= .row 2 zal a0) rfl (py rfl (zae (av:= .xi b) rfl (py rfl (zfo rfl rfl rfl ?_)))))))))))
         obtain⟨n163,h⟩:=zag h
         refine py rfl (zaj (by kernel_rfl) rfl rfl n163.1 n163.2 (py rfl (zav (o:=1) (c':=(List.drop 1 (zal (gi a0 (i64 (b - 1)))))) (by kernel_rfl) rfl rfl (py rfl (zap (a:= .xi ((gi a0 (i64 (b - 1))).2)) (by kernel_rfl) rfl rfl (py rfl (op_bld (c':=zak ((gi a0 (i64 (b - 1))).1,(gi a0 (i64 (b - 1))).2)) (CellsAll.cons rfl CellsOf.int (CellsAll.cons rfl CellsOf.int CellsAll.nil)) rfl (lc lf (lc lf ln)) (py rfl (zeq (o:=0) (by kernel_rfl) rfl (py rfl (zeq (o:=1) (by kernel_rfl) rfl (Py_r rfl rfl rfl (zer (a:= .xi ((gi a0 b).1)) (by kernel_rfl) rfl rfl (Py_r rfl rfl rfl (zer (a:= .xi ((gi a0 b).2)) (by kernel_rfl) rfl rfl (py rfl (op_bld (c':=zak ((gi a0 b).1,(gi a0 b).2)) (CellsAll.cons rfl CellsOf.int (CellsAll.cons rfl CellsOf.int CellsAll.nil)) rfl (lc lf (lc lf ln)) ?_)))))))))))))))))
         obtain⟨y164,k,h⟩:=zac h
         refine py rfl (zai (m_ref16_before_ok _ _ _ k) func86 (by kernel_rfl) (lc lf (lc lf ln)) (py rfl (zgf rfl (py rfl (zat rfl (av:= .xb (!y164)) rfl (pq rfl (zao rfl (av:= .xb (!y164)) rfl (zdu (zab ⟨_,h, ?_⟩)))))))))
         refine Sub.trans (SubU.to SubU.drop) (s3 rfl rfl rfl)
        .replace h:=zdc h hc
         refine pn rfl (pn rfl (pn rfl (pn rfl (pn rfl (pn rfl (pn rfl (pn rfl (pn rfl (pn rfl (pn rfl (pn rfl (pn rfl (pn rfl (pn rfl (P_n zja rfl rfl rfl (P_n zja rfl rfl rfl (pn rfl (pn rfl (pn rfl (py rfl (zao rfl (av:= .xb false) rfl (pq rfl (zao rfl (av:= .xb false) rfl (zdu (zab ⟨_,h, ?_⟩)))))))))))))))))))))))))
         refine Sub.trans (SubU.to SubU.drop) (s3 rfl rfl rfl)
    .refine kb (p:=f) rfl h (λ hc h=> ?_) (λ hc h=> ?_)
     .refine sr (qa (.xb false) rfl (gc (zax (zbe (zaz (zbr (zbe (zbr ?_))))))))
      obtain rfl:=oi h
      refine ke (pt AF0 2 (.xb false)) [] rfl (s1 rfl) ⟨rfl,rfl⟩
     .refine zaq (zar (zad (kr (qm (.xi b) rfl (gq (zbx rfl rfl rfl (qa (.xi (i64 (b+1))) rfl (zay (zab ⟨_,h,s2 rfl rfl⟩)))))))))
   .refine zcl (zbo (zbu (zbn (zab ⟨h,s1 rfl⟩))))
 .refine zdq h (AF0) ([]) (λ k165 h=> ?_) (λ  h=> ?_)
  .refine sr (qa (.xi 0) rfl (gc (zas (zen (zek a0 k165) (zhu a0 k165) (λ _=>rfl) (λ m _=>rfl) h (λ(d:Int)=>(pt (pt AF0 0 (.row 2 zal a0)) 5 (.xi d))) (λ(d:Int)=>[]) ?_ (λ q d h=> ?_)))))
   .exact s2 rfl rfl
   .unfold zhu at h
    refine zau (sr (qm (.xi d) rfl (qm (.row 2 zal a0) rfl (gq (zaw (by kernel_rfl) rfl (gq (zby rfl rfl (gc (kd (p:=d<(List.length a0:Int)) rfl h (λ hc h=> ?_) (λ hc h=> ?_))))))))))
    .refine zaq (zad (zdq h ((pt (pt AF0 0 (.row 2 zal a0)) 5 (.xi d))) ([]) (λ k872 h=> ?_) (λ  h=> ?_)))
     .refine zas (sr (qa (.xi 0) rfl (gc (zas (zen (zex a0 d k872) (zia a0 d k872) (λ _=>rfl) (λ m _=>rfl) h (λ(e:Int)=>(pt (pt (pt AF0 0 (.row 2 zal a0)) 5 (.xi d)) 6 (.xi e))) (λ(e:Int)=>[]) ?_ (λ s e h=> ?_))))))
      .exact s3 rfl rfl rfl
      .unfold zia at h
       refine zau (sr (qm (.xi e) rfl (qm (.row 2 zal a0) rfl (gq (zaw (by kernel_rfl) rfl (gq (zby rfl rfl (gc (kd (p:=e<(List.length a0:Int)) rfl h (λ hc h=> ?_) (λ hc h=> ?_))))))))))
       .refine zaq (zad (zau (zas (zbb h (λ(g:Bool)=>(pt (pt (pt (pt AF0 0 (.row 2 zal a0)) 5 (.xi d)) 6 (.xi e)) 97 (.xb g))) (λ(g:Bool)=>[]) (λ k1001 h=> ?_) (λ g h=> ?_)))))
        .refine zdy [] [(0,0),(0,1),(0,2),(0,3),(0,4),(0,5),(0,6),(0,7),(0,8),(0,9),(0,10),(0,11),(0,12),(0,13),(0,14),(0,15),(0,16),(0,17),(0,18),(0,19),(0,20),(0,21),(0,22),(0,23),(0,24),(0,25)] hmixP (by kernel_rfl) (pq rfl (zae (av:= .row 2 zal a0) rfl (pq rfl (zae (av:= .xi d) rfl ?_))))
         obtain⟨n1007,h⟩:=zag h
         refine pq rfl (zaj (by kernel_rfl) rfl rfl n1007.1 n1007.2 (pq rfl (zav (o:=1) (c':=(List.drop 1 (zal (gi a0 d)))) (by kernel_rfl) rfl rfl (pq rfl (zap (a:= .xi ((gi a0 d).2)) (by kernel_rfl) rfl rfl (pq rfl (zae (av:= .row 2 zal a0) rfl (pq rfl (zae (av:= .xi e) rfl ?_)))))))))
         obtain⟨n1008,h⟩:=zag h
         refine pq rfl (zaj (by kernel_rfl) rfl rfl n1008.1 n1008.2 (pq rfl (zav (o:=0) (c':=(List.drop 0 (zal (gi a0 e)))) (by kernel_rfl) rfl rfl (pq rfl (zap (a:= .xi ((gi a0 e).1)) (by kernel_rfl) rfl rfl (pq rfl (zbi rfl rfl (pq rfl (zae (av:= .xb (decide (((gi a0 d).2)=((gi a0 e).1)))) rfl (zix (p:=((gi a0 d).2)=((gi a0 e).1)) 83 rfl (λ hc=> ?_) (λ hc=> ?_)))))))))))
         .replace h:=zdb h hc
          refine py rfl (zae (av:= .row 2 zal a0) rfl (py rfl (zae (av:= .row 2 zal a0) rfl (py rfl (zae (av:= .xi d) rfl ?_)))))
          obtain⟨n1009,h⟩:=zag h
          refine py rfl (zaj (by kernel_rfl) rfl rfl n1009.1 n1009.2 (py rfl (zav (o:=0) (c':=(List.drop 0 (zal (gi a0 d)))) (by kernel_rfl) rfl rfl (py rfl (zap (a:= .xi ((gi a0 d).1)) (by kernel_rfl) rfl rfl (py rfl (zae (av:= .row 2 zal a0) rfl (py rfl (zae (av:= .xi e) rfl ?_)))))))))
          obtain⟨n1010,h⟩:=zag h
          refine py rfl (zaj (by kernel_rfl) rfl rfl n1010.1 n1010.2 (py rfl (zav (o:=1) (c':=(List.drop 1 (zal (gi a0 e)))) (by kernel_rfl) rfl rfl (py rfl (zap (a:= .xi ((gi a0 e).2)) (by kernel_rfl) rfl rfl ?_)))))
          obtain⟨y1011,l,h⟩:=zac h
          refine py rfl (zai (m_ref16_greater_ok _ _ _ _ l) func87 (by kernel_rfl) (lc lf (lc lf (lc lf ln))) (py rfl (zgf rfl (pq rfl (zat rfl (av:= .xb (!y1011)) rfl (zdu (zab ⟨_,h,s4 rfl rfl rfl rfl⟩)))))))
         .replace h:=zdc h hc
          refine pn rfl (pn rfl (pn rfl (pn rfl (pn rfl (pn rfl (pn rfl (pn rfl (pn rfl (pn rfl (pn rfl (pn rfl (pn rfl (pq rfl (zao rfl (av:= .xb false) rfl (zdu (zab ⟨_,h,s4 rfl rfl rfl rfl⟩))))))))))))))))
        .refine kb (p:=g) rfl h (λ hc h=> ?_) (λ hc h=> ?_)
         .refine sr (qa (.xb false) rfl (gc (zax (zbe (zaz (zbr (zbe (zbe (zbr (zbr (zbe (zbr ?_))))))))))))
          obtain rfl:=oi h
          refine ke (pt AF0 2 (.xb false)) [] rfl (s1 rfl) ⟨rfl,rfl⟩
         .refine zaq (zar (zad (kr (qm (.xi e) rfl (gq (zbx rfl rfl rfl (qa (.xi (i64 (e+1))) rfl (zay (zab ⟨_,h,s3 rfl rfl rfl⟩)))))))))
       .refine zcl (zbo (zbu (zbn (zar (zab ⟨h,s2 rfl rfl⟩)))))
     .refine kr (qm (.xi d) rfl (gq (zbx rfl rfl rfl (qa (.xi (i64 (d+1))) rfl (zay (zab ⟨_,h,s2 rfl rfl⟩))))))
    .refine zcl (zbo (zbu (zbn (zab ⟨h,Sub.of_le lt0⟩))))
  .refine sr (qa (.xb true) rfl (gc (zax ?_)))
   obtain rfl:=oi h
   refine ke (pt AF0 2 (.xb true)) [] rfl (s1 rfl) ⟨rfl,rfl⟩
theorem m_ref16_term_F_ok (e:(List UInt8)->Option Bool) (hself_ref16_term: ∀(a0:List UInt8) (r:Bool),e a0=some r->Pure Tryz.prog 85 [(.exact (.string (bs a0)))] (.exact (.bool r))) (a0:List UInt8) (r:Bool) (h:znc e a0=some r):Pure Tryz.prog 85 [(.exact (.string (bs a0)))] (.exact (.bool r)):=by
 unfold znc at h
 refine Pure.ofFun (zan func85 rfl ntmps85 (by simp) rfl (res1 rfl) λ E hE=>zca (sr (qa (.xb false) rfl (gd (qm (.xs a0) rfl ?_)))))
 obtain⟨y1,k,h⟩:=zac h
 refine gq (zai (zha _ _ k) func66 (by kernel_rfl) (lc lf ln) (qa (.row 1 zaa y1) rfl (gc (zau (sr (qm (.xs a0) rfl ?_))))))
 obtain⟨y2,l,h⟩:=zac h
 refine gq (zai (zne _ _ l) func105 (by kernel_rfl) (lc lf ln) (gq (zlq rfl rfl (gc (kd (p:= ¬y2=9) rfl h (λ hc h=> ?_) (λ hc h=> ?_))))))
 .refine sr (qa (.xb false) rfl (gc (zax (zaz ?_))))
  obtain rfl:=oi h
  refine ke (pt AF0 2 (.xb false)) [] rfl (s1 rfl) ⟨rfl,rfl⟩
 .refine zaq (zad (sr (qm (.row 1 zaa y1) rfl ?_)))
  obtain⟨n3,h⟩:=zag h
  refine gq (zaj (by kernel_rfl) rfl rfl n3.1 n3.2 (gq (zap (a:= .xs (gi y1 0)) (by kernel_rfl) rfl rfl ?_)))
  obtain⟨y4,n,h⟩:=zac h
  refine gq (zai (zgg _ _ n) func65 (by kernel_rfl) (lc lf ln) (qa (.xi y4) rfl (gd (qm (.row 1 zaa y1) rfl ?_))))
  obtain⟨n5,h⟩:=zag h
  refine gq (op_slice_rowd (by kernel_rfl) rfl (zef rfl) zel (by decide) n5 (Int.le_refl _) (qa (.row 1 zaa (List.drop (Int.toNat 1) y1)) rfl (gc (zau (sr (qm (.xi y4) rfl (gc (zas (zbb h (λ(g:Bool)=>(pt (pt (pt (pt AF0 3 (.row 1 zaa (List.drop (Int.toNat 1) y1))) 4 (.xi y4)) 20 (.xi y4)) 21 (.xb g))) (λ(g:Bool)=>[]) (λ k19 h=> ?_) (λ g h=> ?_))))))))))
  .refine sr (gq (zbi rfl rfl (qa (.xb (decide (y4=1))) rfl (gc (kd (p:=y4=1) rfl h (λ hc h=> ?_) (λ hc h=> ?_))))))
   .refine zaq (zab ⟨_,h,s4 rfl rfl rfl rfl⟩)
   .refine sr (gq (zbi rfl rfl (qa (.xb (decide (y4=2))) rfl (gc (kd (p:=y4=2) rfl h (λ hc h=> ?_) (λ hc h=> ?_))))))
    .refine zaq (zab ⟨_,h,s4 rfl rfl rfl rfl⟩)
    .refine sr (gq (zbi rfl rfl (qa (.xb (decide (y4=3))) rfl (gc (kd (p:=y4=3) rfl h (λ hc h=> ?_) (λ hc h=> ?_))))))
     .refine zaq (zab ⟨_,h,s4 rfl rfl rfl rfl⟩)
     .refine kr (gq (zbi rfl rfl (qa (.xb (decide (y4=4))) rfl (zay (zab ⟨_,h,s4 rfl rfl rfl rfl⟩)))))
  .refine kb (p:=g) rfl h (λ hc h=> ?_) (λ hc h=> ?_)
   .refine sr (qm (.row 1 zaa (List.drop (Int.toNat 1) y1)) rfl (gq (zaw (by kernel_rfl) rfl (gq (zbi rfl rfl (qa (.xb (decide ((List.length (List.drop (Int.toNat 1) y1):Int)=0))) rfl (gc (zax (zbe (zaz ?_))))))))))
    obtain rfl:=oi h
    refine ke (pt AF0 2 (.xb (decide ((List.length (List.drop (Int.toNat 1) y1):Int)=0)))) [] rfl (s1 rfl) ⟨rfl,rfl⟩
   .refine sr (gq (zbi rfl rfl (qa (.xb (decide (y4=5))) rfl (gc (kd (p:=y4=5) rfl h (λ hc h=> ?_) (λ hc h=> ?_))))))
    .refine zbb h (λ(i:Bool)=>(pt AF0 2 (.xb i))) (λ(i:Bool)=>[]) (λ k20 h=> ?_) (λ i h=> ?_)
     .refine kr (qm (.row 1 zaa (List.drop (Int.toNat 1) y1)) rfl (gq (zaw (by kernel_rfl) rfl (gq (op_geq rfl rfl (qm (.xb (decide (1≤(List.length (List.drop (Int.toNat 1) y1):Int)))) rfl (zcm (p:=1≤(List.length (List.drop (Int.toNat 1) y1):Int)) 34 rfl (λ hc=> ?_) (λ hc=> ?_))))))))
      .replace h:=zdb h hc
       refine gy (zae (av:= .row 1 zaa (List.drop (Int.toNat 1) y1)) rfl (gy (zaw (by kernel_rfl) rfl (gy (op_leq rfl rfl (gq (zat rfl (av:= .xb (decide ((List.length (List.drop (Int.toNat 1) y1):Int)≤33))) rfl (qm (.xb (decide ((List.length (List.drop (Int.toNat 1) y1):Int)≤33))) rfl (zcm (p:=(List.length (List.drop (Int.toNat 1) y1):Int)≤33) 39 rfl (λ hc=> ?_) (λ hc=> ?_))))))))))
       .replace h:=zdb h hc
        refine gy (zae (av:= .row 1 zaa (List.drop (Int.toNat 1) y1)) rfl ?_)
        obtain⟨n23,h⟩:=zag h
        refine gy (zaj (by kernel_rfl) rfl rfl n23.1 n23.2 (gy (zap (a:= .xs (gi (List.drop (Int.toNat 1) y1) 0)) (by kernel_rfl) rfl rfl ?_)))
        obtain⟨y24,o,h⟩:=zac h
        refine gy (zai (m_ref16_between_ok _ _ _ _ o) func125 (by kernel_rfl) (lc lf (lc lf (lc lf ln))) (gq (zat rfl (av:= .xb y24) rfl (qa (.xb y24) rfl (zay (zab ⟨_,h,s1 rfl⟩))))))
       .replace h:=zdc h hc
        refine gn (gn (gn (gn (gq (zao rfl (av:= .xb false) rfl (qa (.xb false) rfl (zay (zab ⟨_,h,s1 rfl⟩))))))))
      .replace h:=zdc h hc
       refine gn (gn (gn (gq (zao rfl (av:= .xb false) rfl (qm (.xb false) rfl (gn (gn (gn (gn (gq (zao rfl (av:= .xb false) rfl (qa (.xb false) rfl (zay (zab ⟨_,h,s1 rfl⟩))))))))))))))
     .refine zax (zbe (zaz ?_))
      obtain rfl:=oi h
      refine ke (pt AF0 2 (.xb i)) [] rfl (s1 rfl) ⟨rfl,rfl⟩
    .refine sr (gq (zbi rfl rfl (qa (.xb (decide (y4=21))) rfl (gc (kd (p:=y4=21) rfl h (λ hc h=> ?_) (λ hc h=> ?_))))))
     .refine zbb h (λ(j:Bool)=>(pt AF0 2 (.xb j))) (λ(j:Bool)=>[]) (λ k25 h=> ?_) (λ j h=> ?_)
      .refine kr (qm (.row 1 zaa (List.drop (Int.toNat 1) y1)) rfl (gq (zaw (by kernel_rfl) rfl (gq (zbi rfl rfl (qm (.xb (decide ((List.length (List.drop (Int.toNat 1) y1):Int)=1))) rfl (zcm (p:=(List.length (List.drop (Int.toNat 1) y1):Int)=1) 50 rfl (λ hc=> ?_) (λ hc=> ?_))))))))
       .replace h:=zdb h hc
        refine gy (zae (av:= .row 1 zaa (List.drop (Int.toNat 1) y1)) rfl ?_)
        obtain⟨n28,h⟩:=zag h
        refine gy (zaj (by kernel_rfl) rfl rfl n28.1 n28.2 (gy (zap (a:= .xs (gi (List.drop (Int.toNat 1) y1) 0)) (by kernel_rfl) rfl rfl ?_)))
        obtain⟨y29,q,h⟩:=zac h
        refine gy (zai (m_ref16_between_ok _ _ _ _ q) func125 (by kernel_rfl) (lc lf (lc lf (lc lf ln))) (gq (zat rfl (av:= .xb y29) rfl (qa (.xb y29) rfl (zay (zab ⟨_,h,s1 rfl⟩))))))
       .replace h:=zdc h hc
        refine gn (gn (gn (gn (gq (zao rfl (av:= .xb false) rfl (qa (.xb false) rfl (zay (zab ⟨_,h,s1 rfl⟩))))))))
      .refine zax (zbe (zaz ?_))
       obtain rfl:=oi h
       refine ke (pt AF0 2 (.xb j)) [] rfl (s1 rfl) ⟨rfl,rfl⟩
     .refine sr (gq (zbi rfl rfl (qa (.xb (decide (y4=6))) rfl (gc (kd (p:=y4=6) rfl h (λ hc h=> ?_) (λ hc h=> ?_))))))
      .refine sr (qm (.row 1 zaa (List.drop (Int.toNat 1) y1)) rfl ?_)
       obtain⟨y30,s,h⟩:=zac h
       refine gq (zai (m_ref16_offered_ok e hself_ref16_term _ _ s) func126 (by kernel_rfl) (lc lf ln) (qa (.xb y30) rfl (gc (zax (zbe (zaz ?_))))))
       obtain rfl:=oi h
       refine ke (pt AF0 2 (.xb y30)) [] rfl (s1 rfl) ⟨rfl,rfl⟩
      .refine zaq (zar (zad (sr (qm (.xi y4) rfl ?_))))
       obtain⟨y31,t,h⟩:=zac h
       refine gq (zai (m_ref16_layout_ok _ _ t) func73 (by kernel_rfl) (lc lf ln) (qa (.xs y31) rfl (gc (zau (sr (qm (.row 1 zaa (List.drop (Int.toNat 1) y1)) rfl (gq (zaw (by kernel_rfl) rfl (qm (.xs y31) rfl (gq (op_lenS (by kernel_rfl) rfl (gq (zlq rfl rfl (gc (kd (p:= ¬(List.length (List.drop (Int.toNat 1) y1):Int)=(List.length y31:Int)) rfl h (λ hc h=> ?_) (λ hc h=> ?_))))))))))))))))
       .refine sr (qa (.xb false) rfl (gc (zax (zaz ?_))))
        obtain rfl:=oi h
        refine ke (pt AF0 2 (.xb false)) [] rfl (s1 rfl) ⟨rfl,rfl⟩
       .refine zaq (zad (zdq h (AF0) ([]) (λ k32 h=> ?_) (λ  h=> ?_)))
        .refine sr (qa (.xi 0) rfl (gc (zas (zen (zlk e y1 y4 y31 k32) (m_ref16_term_B2 e y1 y4 y31 k32) (λ _=>rfl) (λ m _=>rfl) h (λ(d:Int)=>(pt (pt (pt (pt AF0 3 (.row 1 zaa (List.drop (Int.toNat 1) y1))) 4 (.xi y4)) 5 (.xs y31)) 6 (.xi d))) (λ(d:Int)=>[]) ?_ (λ z d h=> ?_)))))
         .exact s4 rfl rfl rfl rfl
         .unfold m_ref16_term_B2 at h
          refine zau (sr (qm (.xi d) rfl (qm (.row 1 zaa (List.drop (Int.toNat 1) y1)) rfl (gq (zaw (by kernel_rfl) rfl (gq (zby rfl rfl (gc (kd (p:=d<(List.length (List.drop (Int.toNat 1) y1):Int)) rfl h (λ hc h=> ?_) (λ hc h=> ?_))))))))))
          .refine zaq (zad (zau (zas (sr (qa (.xb true) rfl (gc (zbb h (λ(f:Bool)=>(pt (pt (pt (pt (pt AF0 3 (.row 1 zaa (List.drop (Int.toNat 1) y1))) 4 (.xi y4)) 5 (.xs y31)) 6 (.xi d)) 7 (.xb f))) (λ(f:Bool)=>[]) (λ k249 h=> ?_) (λ f h=> ?_))))))))
           .refine sr (qm (.xs y31) rfl (qm (.xi d) rfl ?_))
            obtain⟨n259,h⟩:=zag h
            refine gq (zbj (by kernel_rfl) rfl rfl n259.1 n259.2 (gc (zas (sr (gq (zjy (a:=(gi y31 d)) (b:=80) rfl rfl (qa (.xb (decide ((gi y31 d)=80))) rfl (gc (kd (p:=(gi y31 d)=80) rfl h (λ hc h=> ?_) (λ hc h=> ?_))))))))))
            .refine kr (qm (.row 1 zaa (List.drop (Int.toNat 1) y1)) rfl (qm (.xi d) rfl ?_))
             obtain⟨n260,h⟩:=zag h
             refine gq (zaj (by kernel_rfl) rfl rfl n260.1 n260.2 (gq (zap (a:= .xs (gi (List.drop (Int.toNat 1) y1) d)) (by kernel_rfl) rfl rfl ?_)))
             obtain⟨y261,u,h⟩:=zac h
             refine gq (zai (hself_ref16_term _ _ u) func85 (by kernel_rfl) (lc lf ln) (qa (.xb y261) rfl (zay (zar (zab ⟨_,h,so (l4 rfl rfl rfl rfl (lq rfl lt0))⟩)))))
            .refine sr (gq (zjy (a:=(gi y31 d)) (b:=83) rfl rfl (qa (.xb (decide ((gi y31 d)=83))) rfl (gc (kd (p:=(gi y31 d)=83) rfl h (λ hc h=> ?_) (λ hc h=> ?_))))))
             .refine kr (qm (.row 1 zaa (List.drop (Int.toNat 1) y1)) rfl (qm (.xi d) rfl ?_))
              obtain⟨n262,h⟩:=zag h
              refine gq (zaj (by kernel_rfl) rfl rfl n262.1 n262.2 (gq (zap (a:= .xs (gi (List.drop (Int.toNat 1) y1) d)) (by kernel_rfl) rfl rfl ?_)))
              obtain⟨y263,v,h⟩:=zac h
              refine gq (zai (m_ref16_events_ok _ _ v) func127 (by kernel_rfl) (lc lf ln) (qm (.tup [.row 1 zbf y263.1, .xb y263.2]) rfl (gq (zbh (av:= .row 1 zbf y263.1) rfl rfl (gq (zbh (av:= .xb y263.2) rfl rfl (qa (.xb y263.2) rfl (zay (zar (zab ⟨_,h,so (l4 rfl rfl rfl rfl (lq rfl lt0))⟩))))))))))
             .refine sr (qa (.exact (.slice none 0 0)) rfl (gd (qm (.row 1 zaa (List.drop (Int.toNat 1) y1)) rfl (qm (.xi d) rfl ?_))))
              obtain⟨n264,h⟩:=zag h
              refine gq (zaj (by kernel_rfl) rfl rfl n264.1 n264.2 (gq (zap (a:= .xs (gi (List.drop (Int.toNat 1) y1) d)) (by kernel_rfl) rfl rfl ?_)))
              obtain⟨y265,w,h⟩:=zac h
              refine gq (zai (m_ref16_pairs_ok _ _ w) func128 (by kernel_rfl) (lc lf ln) (qm (.tup [.row 2 zak y265.1, .xb y265.2]) rfl (gq (zbh (av:= .row 2 zak y265.1) rfl rfl (gq (zbh (av:= .xb y265.2) rfl rfl (qa (.row 2 zak y265.1) rfl (qa (.xb y265.2) rfl (gc (kr (qm (.xb y265.2) rfl (qm (.xb y265.2) rfl (G_splitB (c:=y265.2) 85 rfl (λ hc=> ?_) (λ hc=> ?_))))))))))))))
              .replace h:=zdb h hc
               refine gy (zae (av:= .xi y4) rfl (gy (zlq rfl rfl (gy (zae (av:= .xb (decide (¬y4=18))) rfl (zcm (p:= ¬y4=18) 88 rfl (λ hc=> ?_) (λ hc=> ?_)))))))
               .replace h:=zdb h hc
                refine gn (gn (gn (gy (zat rfl (av:= .xb true) rfl (gq (zat rfl (av:= .xb true) rfl (qa (.xb true) rfl (zay (zar (zab ⟨_,h,so (l4 rfl rfl rfl rfl (lq rfl lt0))⟩))))))))))
               .replace h:=zdc h hc
                refine gy (zae (av:= .row 2 zak y265.1) rfl ?_)
                obtain⟨y266,x,h⟩:=zac h
                refine gy (zai (m_ref16_Above_ok _ _ x) func129 (by kernel_rfl) (lc lf ln) ?_)
                obtain⟨y267,y,h⟩:=zac h
                refine gy (zai (m_ref16_ValidOrder_ok _ _ y) func41 (by kernel_rfl) (lc lf ln) (gy (zao rfl (av:= .xb y267) rfl (gq (zat rfl (av:= .xb y267) rfl (qa (.xb y267) rfl (zay (zar (zab ⟨_,h,so (l4 rfl rfl rfl rfl (lq rfl lt0))⟩)))))))))
              .replace h:=zdc h hc
               refine gn (gn (gn (G_u rfl rfl (G_u rfl rfl (G_u rfl rfl (gn (gq (zao rfl (av:= .xb false) rfl (qa (.xb false) rfl (zay (zar (zab ⟨_,h,so (l4 rfl rfl rfl rfl (lq rfl lt0))⟩))))))))))))
           .refine sr (qm (.xb f) rfl (gq (zgf rfl (gc (kb (p:= !f) rfl h (λ hc h=> ?_) (λ hc h=> ?_))))))
            .refine sr (qa (.xb false) rfl (gc (zax (zbe (zaz (zbr (zbe (zbr ?_))))))))
             obtain rfl:=oi h
             refine ke (pt AF0 2 (.xb false)) [] rfl (s1 rfl) ⟨rfl,rfl⟩
            .refine zaq (zar (zad (kr (qm (.xi d) rfl (gq (zbx rfl rfl rfl (qa (.xi (i64 (d+1))) rfl (zay (zab ⟨_,h,s4 rfl rfl rfl rfl⟩)))))))))
          .refine zcl (zbo (zbu (zbn (zab ⟨h,Sub.of_le lt0⟩))))
        .refine sr (qa (.xb true) rfl (gc (zax ?_)))
         obtain rfl:=oi h
         refine ke (pt AF0 2 (.xb true)) [] rfl (s1 rfl) ⟨rfl,rfl⟩
theorem m_ref16_term_S_ok: ∀n:Nat,(∀(a0:List UInt8) (r:Bool),zkp n a0=some r->Pure Tryz.prog 85 [(.exact (.string (bs a0)))] (.exact (.bool r)))
  |0=>(λ _ _ h=>by have h':(none:Option _)=some _:=h;cases h')
  |n+1=>by
    have ih:=m_ref16_term_S_ok n
    exact λ a0 r h=>m_ref16_term_F_ok (zkp n) ih a0 r h
theorem m_ref16_term_ok (a0:List UInt8) (r:Bool) (h:m_ref16_term a0=some r):Pure Tryz.prog 85 [(.exact (.string (bs a0)))] (.exact (.bool r)):=(m_ref16_term_S_ok FU) a0 r h
theorem m_ref16_Valid_ok (a0:List UInt8) (r:Bool) (h:zmo a0=some r):Pure Tryz.prog 40 [(.exact (.string (bs a0)))] (.exact (.bool r)):=by
 unfold zmo at h
 refine Pure.ofFun (zan func40 rfl ntmps40 (by simp) rfl (res1 rfl) λ E hE=>zca (sr (qa (.xb false) rfl (gc (zbb h (λ(a:Bool)=>(pt AF0 2 (.xb a))) (λ(a:Bool)=>[]) (λ k1 h=> ?_) (λ a h=> ?_))))))
 .refine kr (qm (.xs a0) rfl ?_)
  obtain⟨y4,b,h⟩:=zac h
  refine gq (zai (zli _ _ b) func84 (by kernel_rfl) (lc lf ln) (qm (.xb y4) rfl (G_splitB (c:=y4) 5 rfl (λ hc=> ?_) (λ hc=> ?_))))
  .replace h:=zdb h hc
   refine gy (zae (av:= .xs a0) rfl ?_)
   obtain⟨y5,d,h⟩:=zac h
   refine gy (zai (m_ref16_term_ok _ _ d) func85 (by kernel_rfl) (lc lf ln) (gq (zat rfl (av:= .xb y5) rfl (qa (.xb y5) rfl (zay (zab ⟨_,h,s1 rfl⟩))))))
  .replace h:=zdc h hc
   refine gn (gn (gq (zao rfl (av:= .xb false) rfl (qa (.xb false) rfl (zay (zab ⟨_,h,s1 rfl⟩))))))
 .refine zax ?_
  obtain rfl:=oi h
  refine ke (pt AF0 2 (.xb a)) [] rfl (s1 rfl) ⟨rfl,rfl⟩
theorem zcb (a0:Int) (a1:List (List UInt8)) (r:(List UInt8)) (h:zbs a0 a1=some r):Pure Tryz.prog 11 [(.exact (.int .i64 a0)),(.row 1 zaa a1)] (.exact (.string (bs r))):=by
 unfold zbs at h
 refine Pure.ofFun (zan func11 rfl ntmps11 (by simp) rfl (res1 rfl) λ E hE=>zca (sr (qa (.xs ([]:List UInt8)) rfl (gd (qm (.xi a0) rfl (qm (.row 1 zaa a1) rfl ?_))))))
 obtain⟨y1,a,h⟩:=zac h
 refine gq (zai (m_ref9_Numbered_ok _ _ _ _ a) func39 (by kernel_rfl) (lc lf (lc lf (lc lf ln))) (qa (.xs y1) rfl (gc (zau (sr (qm (.xs y1) rfl ?_))))))
 obtain⟨y2,b,h⟩:=zac h
 refine gq (zai (m_ref16_Valid_ok _ _ b) func40 (by kernel_rfl) (lc lf ln) (gc (kb (p:=y2) rfl h (λ hc h=> ?_) (λ hc h=> ?_))))
 .refine sr (qm (.xs y1) rfl (qa (.xs y1) rfl (gc (zax (zaz ?_)))))
  obtain rfl:=oi h
  refine ke (pt AF0 4 (.xs y1)) [] rfl (s1 rfl) ⟨rfl,rfl⟩
 .refine zaq (zad (sr (qa (.xs ([]:List UInt8)) rfl (gc (zax ?_)))))
  obtain rfl:=oi h
  refine ke (pt AF0 4 (.xs ([]:List UInt8))) [] rfl (s1 rfl) ⟨rfl,rfl⟩
theorem m_ref16_Call_ok (a0:Int) (a1:List (List UInt8)) (r:(List UInt8)) (h:m_ref16_Call a0 a1=some r):Pure Tryz.prog 26 [(.exact (.int .i64 a0)),(.row 1 zaa a1)] (.exact (.string (bs r))):=by
 unfold m_ref16_Call at h
 refine Pure.ofFun (zan func26 rfl ntmps26 (by simp) rfl (res1 rfl) λ E hE=>zca (sr (qa (.xs ([]:List UInt8)) rfl (gc (zau (zbb h (λ(a:Bool)=>(pt (pt (pt AF0 0 (.xi a0)) 1 (.row 1 zaa a1)) 10 (.xb a))) (λ(a:Bool)=>[]) (λ k3 h=> ?_) (λ a h=> ?_)))))))
 .refine kr (qm (.xi a0) rfl (gq (zby rfl rfl (qm (.xb (decide (a0<0))) rfl (zcm (p:=a0<0) 7 rfl (λ hc=> ?_) (λ hc=> ?_))))))
  .replace h:=zdb h hc
   refine gn (gn (gq (zat rfl (av:= .xb true) rfl (zay (zab ⟨_,h,s3 rfl rfl rfl⟩)))))
  .replace h:=zdc h hc
   refine gy (zae (av:= .xi a0) rfl (gy (zlh rfl rfl (gq (zao rfl (av:= .xb (decide (65535<a0))) rfl (zay (zab ⟨_,h,s3 rfl rfl rfl⟩)))))))
 .refine kb (p:=a) rfl h (λ hc h=> ?_) (λ hc h=> ?_)
  .refine sr (qa (.xs ([]:List UInt8)) rfl (gc (zax (zaz ?_))))
   obtain rfl:=oi h
   refine ke (pt AF0 4 (.xs ([]:List UInt8))) [] rfl (s1 rfl) ⟨rfl,rfl⟩
  .refine zaq (zad (sr (qm (.xi a0) rfl ?_)))
   obtain⟨y4,b,h⟩:=zac h
   refine gq (zai (zhb _ _ b) func22 (by kernel_rfl) (lc lf ln) (G_l rfl (op_litI (n:=1) (enc:=zaa) [y4] (by kernel_rfl) (CellsAll.cons rfl CellsOf.str CellsAll.nil) rfl (by kernel_rfl) (LEss.cons (lc lf ln) LEss.nil) (λ v5=>qm (.row 1 zaa a1) rfl ?_))))
   obtain⟨n6,h⟩:=zag h
   refine G_l rfl (zeb (by kernel_rfl) rfl rfl zcr n6 (λ v7=>G_sub rfl (SubU.freezeT (s:=15) rfl zbd) ?_))
   obtain⟨y8,c,h⟩:=zac h
   refine gq (zai (zcb _ _ _ c) func11 (by kernel_rfl) (lc lf (lc lf ln)) (qa (.xs y8) rfl (gc (zax ?_))))
   obtain rfl:=oi h
   refine ke (pt AF0 4 (.xs y8)) [] rfl (s1 rfl) ⟨rfl,rfl⟩
theorem zey {w0:Nat} (a0:(List Int)×Int) (r:Int×((List Int)×Int)) (h:zdt a0=some r):Fun Tryz.prog 8 [(pA w0 0)] [boxI 50 w0 [.row 1 zbf a0.1, .exact (.int .i64 a0.2)]] (λ a s=>a= .exact (.int .i64 r.1)/\s=[boxI 50 w0 [.row 1 zbf r.2.1, .exact (.int .i64 r.2.2)]]):=by
 unfold zdt at h
 refine zan func8 rfl ntmps8 (by simp) rfl (res1 rfl) λ E hE=>zca (sr (qa (.xi 0) rfl (gd (qm (pA w0 0) rfl ?_))))
 obtain⟨y1,b,h⟩:=zac h
 refine G_l rfl (zbc (zcp _ _ _ b) func7 (by kernel_rfl) (lc lf (lc lf ln)) (gq (zbx rfl rfl rfl (qa (.xi (i64 (2+y1.1))) rfl (gc (zax ?_))))))
 obtain rfl:=oi h
 refine ke (pt AF0 2 (.xi (i64 (2+y1.1)))) [boxI 50 w0 [.row 1 zbf y1.2.1, .xi y1.2.2]] rfl (s1 rfl) ⟨rfl,rfl⟩
theorem m_ref16_Prefix_ok (a0:List (Int×(List UInt8))) (r:(List UInt8)) (h:zge a0=some r):Pure Tryz.prog 27 [(.row 2 zam a0)] (.exact (.string (bs r))):=by
 unfold zge at h
 refine Pure.ofFun (zan func27 rfl ntmps27 (by simp) rfl (res1 rfl) λ E hE=>zca (sr (qa (.xs ([]:List UInt8)) rfl (gd (qa (.exact (.slice none 0 0)) rfl (gc (zdl h (λ(k:List (Int×(List UInt8))) (v3_j1:Value)=>(pt AF0 3 (.exact v3_j1))) (λ(k:List (Int×(List UInt8))) (v3_j1:Value)=>[vecT Tryz.prog 27 2 zam v3_j1 k]) (λ k1 h=> ?_) (λ k v3_j1 h=> ?_))))))))
 .refine sr (qa (.xi 0) rfl (gc (zas (zei (zcn a0 k1) (zmt a0 k1) (λ _ _=>rfl) (λ m _ _=>rfl) h (λ(e:List (Int×(List UInt8))) (d:Int) (v3_l14:Value)=>(pt (pt (pt AF0 0 (.row 2 zam a0)) 3 (.exact v3_l14)) 4 (.xi d))) (λ(e:List (Int×(List UInt8))) (d:Int) (v3_l14:Value)=>[vecT Tryz.prog 27 2 zam v3_l14 e]) (.slice none 0 0) ?_ (λ G e d v3_l14 h=> ?_)))))
  .refine Sub.trans (SubU.to (SubU.nilT (P:=Tryz.prog) (t:=27) (n:=2) (enc:=zam))) (s3 rfl rfl rfl)
  .unfold zmt at h
   refine zau (sr (qm (.xi d) rfl (qm (.row 2 zam a0) rfl (gq (zaw (by kernel_rfl) rfl (gq (zby rfl rfl (gc (kd (p:=d<(List.length a0:Int)) rfl h (λ hc h=> ?_) (λ hc h=> ?_))))))))))
   .refine zaq (zad (zdl h (λ(v:List (Int×(List UInt8))) (v3_j1610:Value)=>(pt (pt (pt AF0 0 (.row 2 zam a0)) 3 (.exact v3_j1610)) 4 (.xi d))) (λ(v:List (Int×(List UInt8))) (v3_j1610:Value)=>[vecT Tryz.prog 27 2 zam v3_j1610 v]) (λ k1610 h=> ?_) (λ v v3_j1610 h=> ?_)))
    .refine zas (zau (zbb h (λ(l:Bool)=>(pt (pt (pt (pt AF0 0 (.row 2 zam a0)) 3 (.exact v3_l14)) 4 (.xi d)) 29 (.xb l))) (λ(l:Bool)=>[vecT Tryz.prog 27 2 zam v3_l14 e]) (λ k1846 h=> ?_) (λ l h=> ?_)))
     .refine kr (qm (.row 2 zam a0) rfl (qm (.xi d) rfl ?_))
      obtain⟨n1851,h⟩:=zag h
      refine gq (zaj (by kernel_rfl) rfl rfl n1851.1 n1851.2 (gq (zav (o:=0) (c':=(List.drop 0 (zam (gi a0 d)))) (by kernel_rfl) rfl rfl (gq (zap (a:= .xi ((gi a0 d).1)) (by kernel_rfl) rfl rfl ?_)))))
      obtain⟨y1852,y,h⟩:=zac h
      refine gq (zai (zda _ _ y) func71 (by kernel_rfl) (lc lf ln) (gq (zgf rfl (qm (.xb (!y1852)) rfl (G_splitB (c:= !y1852) 21 rfl (λ hc=> ?_) (λ hc=> ?_))))))
      .replace h:=zdb h hc
       refine gn (gn (gn (gn (gn (gn (gn (gq (zat rfl (av:= .xb true) rfl (zay (zab ⟨_,h,s4 rfl rfl rfl rfl⟩))))))))))
      .replace h:=zdc h hc
       refine gy (zae (av:= .row 2 zam a0) rfl (gy (zae (av:= .xi d) rfl ?_)))
       obtain⟨n1853,h⟩:=zag h
       refine gy (zaj (by kernel_rfl) rfl rfl n1853.1 n1853.2 (gy (zav (o:=1) (c':=(List.drop 1 (zam (gi a0 d)))) (by kernel_rfl) rfl rfl (gy (zap (a:= .xs ((gi a0 d).2)) (by kernel_rfl) rfl rfl ?_)))))
       obtain⟨y1854,A,h⟩:=zac h
       refine gy (zai (m_ref16_Valid_ok _ _ A) func40 (by kernel_rfl) (lc lf ln) (gy (zgf rfl (gq (zao rfl (av:= .xb (!y1854)) rfl (zay (zab ⟨_,h,s4 rfl rfl rfl rfl⟩)))))))
     .refine kb (p:=l) rfl h (λ hc h=> ?_) (λ hc h=> ?_)
      .refine sr (qa (.xs ([]:List UInt8)) rfl (gc (zax (zaz (zbe (zbr (zbr (zbe (zbr ?_)))))))))
       obtain rfl:=oi h
       refine ke (pt AF0 2 (.xs ([]:List UInt8))) [] rfl (Sub.trans (SubU.to SubU.drop) (s1 rfl)) ⟨rfl,rfl⟩
      .refine zaq (zad (sr (qa (.xi 0) rfl (gc (zbb h (λ(g:Int)=>(pt (pt (pt (pt AF0 0 (.row 2 zam a0)) 3 (.exact v3_l14)) 4 (.xi d)) 5 (.xi g))) (λ(g:Int)=>[vecT Tryz.prog 27 2 zam v3_l14 e]) (λ k1855 h=> ?_) (λ g h=> ?_))))))
       .refine zas (zen (zhh a0 e d k1855) (zme a0 e d k1855) (λ _=>rfl) (λ m _=>rfl) h (λ(f:Int)=>(pt (pt (pt (pt AF0 0 (.row 2 zam a0)) 3 (.exact v3_l14)) 4 (.xi d)) 5 (.xi f))) (λ(f:Int)=>[vecT Tryz.prog 27 2 zam v3_l14 e]) ?_ (λ H f h=> ?_))
        .exact s4 rfl rfl rfl rfl
        .unfold zme at h
         refine zau (zbb h (λ(s:Bool)=>(pt (pt (pt (pt (pt AF0 0 (.row 2 zam a0)) 3 (.exact v3_l14)) 4 (.xi d)) 5 (.xi f)) 73 (.xb s))) (λ(s:Bool)=>[vecT Tryz.prog 27 2 zam v3_l14 e]) (λ k2028 h=> ?_) (λ s h=> ?_))
         .refine zdy [] [(0,0),(0,1),(1,2),(0,3),(0,4),(0,5),(0,6),(0,10),(0,11),(0,12),(0,13),(0,14),(1,7),(0,8),(1,9),(0,15),(0,16),(0,17),(0,18),(0,22),(0,23),(0,24),(0,25),(0,26),(1,19),(0,20),(1,21),(0,27),(0,28),(0,29),(0,30),(0,34),(0,35),(0,36),(0,37),(0,38),(1,31),(0,32),(1,33),(0,39),(0,40),(0,41),(0,42),(0,43)] hmixP (by kernel_rfl) (pq rfl (zae (av:= .xi f) rfl (pq rfl (zae (av:= .exact v3_l14) rfl (P_r rfl (zeg (by kernel_rfl) rfl (pq rfl (zby rfl rfl (pq rfl (zae (av:= .xb (decide (f<(List.length e:Int)))) rfl (zix (p:=f<(List.length e:Int)) 34 rfl (λ hc=> ?_) (λ hc=> ?_))))))))))))
          .replace h:=zdb h hc
           refine py rfl (zae (av:= .exact v3_l14) rfl (py rfl (zae (av:= .xi f) rfl (py rfl (zae (av:= .row 2 zam a0) rfl (py rfl (zae (av:= .xi d) rfl ?_)))))))
           obtain⟨n2036,h⟩:=zag h
           refine py rfl (zaj (by kernel_rfl) rfl rfl n2036.1 n2036.2 (py rfl (zav (o:=0) (c':=(List.drop 0 (zam (gi a0 d)))) (by kernel_rfl) rfl rfl (py rfl (zap (a:= .xi ((gi a0 d).1)) (by kernel_rfl) rfl rfl ?_)))))
           obtain⟨n2037,h⟩:=zag h
           refine Py_r rfl rfl rfl (zce (by kernel_rfl) rfl rfl n2037.1 n2037.2 (py rfl (op_field_eptr (o:=0) (by kernel_rfl) rfl (Py_r rfl rfl rfl (zdv (i:=f) (o:=0) (a:= .xi ((gi e f).1)) (by kernel_rfl) zbw rfl n2037.1 n2037.2 rfl (py rfl (zby rfl rfl (py rfl (zae (av:= .xb (decide (((gi e f).1)<((gi a0 d).1)))) rfl (zix (p:=((gi e f).1)<((gi a0 d).1)) 46 rfl (λ hc=> ?_) (λ hc=> ?_)))))))))))
           .replace h:=zdb h hc
            refine pn rfl (pn rfl (pn rfl (pn rfl (pn rfl (pn rfl (pn rfl (P_n zja rfl rfl rfl (pn rfl (P_n zja rfl rfl rfl (pn rfl (pn rfl (pu rfl (pu rfl (pu rfl (pu rfl (pu rfl (pu rfl (pu rfl (P_u zja rfl rfl rfl (pu rfl (P_u zja rfl rfl rfl (pu rfl (pu rfl (pn rfl ?_))))))))))))))))))))))))
            refine py rfl (zat rfl (av:= .xb true) rfl (pq rfl (zat rfl (av:= .xb true) rfl (zdu (zab ⟨_,h,so (l4 rfl rfl rfl rfl (lq rfl lt0))⟩)))))
           .replace h:=zdc h hc
            refine py rfl (zae (av:= .exact v3_l14) rfl (py rfl (zae (av:= .xi f) rfl (py rfl (zae (av:= .row 2 zam a0) rfl (py rfl (zae (av:= .xi d) rfl ?_)))))))
            obtain⟨n2038,h⟩:=zag h
            refine py rfl (zaj (by kernel_rfl) rfl rfl n2038.1 n2038.2 (py rfl (zav (o:=0) (c':=(List.drop 0 (zam (gi a0 d)))) (by kernel_rfl) rfl rfl (py rfl (zap (a:= .xi ((gi a0 d).1)) (by kernel_rfl) rfl rfl ?_)))))
            obtain⟨n2039,h⟩:=zag h
            refine Py_r rfl rfl rfl (zce (by kernel_rfl) rfl rfl n2039.1 n2039.2 (py rfl (op_field_eptr (o:=0) (by kernel_rfl) rfl (Py_r rfl rfl rfl (zdv (i:=f) (o:=0) (a:= .xi ((gi e f).1)) (by kernel_rfl) zbw rfl n2039.1 n2039.2 rfl (py rfl (zbi rfl rfl (py rfl (zae (av:= .xb (decide (((gi e f).1)=((gi a0 d).1)))) rfl (zix (p:=((gi e f).1)=((gi a0 d).1)) 58 rfl (λ hc=> ?_) (λ hc=> ?_)))))))))))
            .replace h:=zdb h hc
             refine py rfl (zae (av:= .exact v3_l14) rfl (py rfl (zae (av:= .xi f) rfl (py rfl (zae (av:= .row 2 zam a0) rfl (py rfl (zae (av:= .xi d) rfl ?_)))))))
             obtain⟨n2040,h⟩:=zag h
             refine py rfl (zaj (by kernel_rfl) rfl rfl n2040.1 n2040.2 (py rfl (zav (o:=1) (c':=(List.drop 1 (zam (gi a0 d)))) (by kernel_rfl) rfl rfl (py rfl (zap (a:= .xs ((gi a0 d).2)) (by kernel_rfl) rfl rfl ?_)))))
             obtain⟨n2041,h⟩:=zag h
             refine Py_r rfl rfl rfl (zce (by kernel_rfl) rfl rfl n2041.1 n2041.2 (py rfl (op_field_eptr (o:=1) (by kernel_rfl) rfl (Py_r rfl rfl rfl (zdv (i:=f) (o:=1) (a:= .xs ((gi e f).2)) (by kernel_rfl) zbw rfl n2041.1 n2041.2 rfl ?_)))))
             obtain⟨y2042,B,h⟩:=zac h
             refine py rfl (zai (m_ref9_Compare_ok _ _ _ B) func72 (by kernel_rfl) (lc lf (lc lf ln)) (py rfl (zby rfl rfl (py rfl (zat rfl (av:= .xb (decide (y2042<0))) rfl (py rfl (zao rfl (av:= .xb (decide (y2042<0))) rfl (pq rfl (zat rfl (av:= .xb (decide (y2042<0))) rfl (zdu (zab ⟨_,h,so (l4 rfl rfl rfl rfl (lq rfl lt0))⟩)))))))))))
            .replace h:=zdc h hc
             refine pn rfl (pn rfl (pn rfl (pn rfl (pn rfl (pn rfl (pn rfl (P_n zja rfl rfl rfl (pn rfl (P_n zja rfl rfl rfl (pn rfl (pn rfl (py rfl (zao rfl (av:= .xb false) rfl (py rfl (zao rfl (av:= .xb false) rfl (pq rfl (zat rfl (av:= .xb false) rfl (zdu (zab ⟨_,h,so (l4 rfl rfl rfl rfl (lq rfl lt0))⟩)))))))))))))))))))
          .replace h:=zdc h hc
           refine pn rfl (pn rfl (pn rfl (pn rfl (pn rfl (pn rfl (pn rfl (P_n zja rfl rfl rfl (pn rfl (P_n zja rfl rfl rfl (pn rfl (pn rfl (pu rfl (pu rfl (pu rfl (pu rfl (pu rfl (pu rfl (pu rfl (P_u zja rfl rfl rfl (pu rfl (P_u zja rfl rfl rfl (pu rfl (pu rfl (pu rfl ?_))))))))))))))))))))))))
           refine pu rfl (pu rfl (pu rfl (pu rfl (pu rfl (pu rfl (P_u zja rfl rfl rfl (pu rfl (P_u zja rfl rfl rfl (pu rfl (pu rfl (pu rfl (pn rfl (pq rfl (zao rfl (av:= .xb false) rfl (zdu (zab ⟨_,h,so (l4 rfl rfl rfl rfl (lq rfl lt0))⟩))))))))))))))))
         .refine kb (p:=s) rfl h (λ hc h=> ?_) (λ hc h=> ?_)
          .refine zaq (zad (zas (kr (qm (.xi f) rfl (gq (zbx rfl rfl rfl (qa (.xi (i64 (f+1))) rfl (zay (zar (zab ⟨_,h,s4 rfl rfl rfl rfl⟩))))))))))
          .refine zcl (zbo (zbu (zbn (zab ⟨_,h,s4 rfl rfl rfl rfl⟩))))
       .refine zau (zbb h (λ(u:Bool)=>(pt (pt (pt (pt (pt AF0 0 (.row 2 zam a0)) 3 (.exact v3_l14)) 4 (.xi d)) 5 (.xi g)) 90 (.xb u))) (λ(u:Bool)=>[vecT Tryz.prog 27 2 zam v3_l14 e]) (λ k2049 h=> ?_) (λ u h=> ?_))
        .refine zdy [] [(0,0),(0,1),(1,2),(0,3),(0,4),(0,5),(0,6),(0,9),(0,10),(0,11),(0,12),(1,7),(1,8),(0,13),(0,14)] hmixP (by kernel_rfl) (pq rfl (zae (av:= .xi g) rfl (pq rfl (zae (av:= .exact v3_l14) rfl (P_r rfl (zeg (by kernel_rfl) rfl (pq rfl (zby rfl rfl (pq rfl (zae (av:= .xb (decide (g<(List.length e:Int)))) rfl (zix (p:=g<(List.length e:Int)) 80 rfl (λ hc=> ?_) (λ hc=> ?_))))))))))))
         .replace h:=zdb h hc
          refine py rfl (zae (av:= .exact v3_l14) rfl (py rfl (zae (av:= .xi g) rfl (py rfl (zae (av:= .row 2 zam a0) rfl (py rfl (zae (av:= .xi d) rfl ?_)))))))
          obtain⟨n2052,h⟩:=zag h
          refine py rfl (zaj (by kernel_rfl) rfl rfl n2052.1 n2052.2 (py rfl (zke (m:=2) (c':=zam (gi a0 d)) (by kernel_rfl) rfl rfl rfl ?_)))
          obtain⟨n2053,h⟩:=zag h
          refine Py_r rfl rfl rfl (zce (by kernel_rfl) rfl rfl n2053.1 n2053.2 (Py_r rfl rfl rfl (op_load_vecN (i:=g) (o:=0) (m:=2) (c':=zam (gi e g)) (by kernel_rfl) zbw rfl n2053.1 n2053.2 rfl rfl (py rfl (op_eqlA (a:=(gi e g)) (b:=(gi a0 d)) (by kernel_rfl) (eq_c_api_Offer _ _) rfl rfl (pq rfl (zat rfl (av:= .xb (decide ((gi e g)=(gi a0 d)))) rfl (zdu (zab ⟨_,h,so (l4 rfl rfl rfl rfl (lq rfl lt0))⟩)))))))))
         .replace h:=zdc h hc
          refine pn rfl (pn rfl (pn rfl (pn rfl (pn rfl (pn rfl (P_n zja rfl rfl rfl (P_n zja rfl rfl rfl (pn rfl (pq rfl (zao rfl (av:= .xb false) rfl (zdu (zab ⟨_,h,so (l4 rfl rfl rfl rfl (lq rfl lt0))⟩))))))))))))
        .refine kb (p:=u) rfl h (λ hc h=> ?_) (λ hc h=> ?_)
         .refine zcl (zbo (zbn (zab ⟨_,v3_l14,h,s3 rfl rfl rfl⟩)))
         .refine zaq (zad (sr (qm (.exact v3_l14) rfl (gq (op_bld (c':=zam (0,[])) CellsAll.nil rfl (lc lf (lc lf ln)) (gq (zcf (n:=2) (enc:=zam) ([(0,[])]:List (Int×(List UInt8))) (CellsAll.cons rfl CellsOf.agg CellsAll.nil) rfl (by kernel_rfl) (LEss.cons (lc lf (lc lf ln)) LEss.nil) ?_)))))))
          obtain⟨n2054,h⟩:=zag h
          refine G_l rfl (zeb (by kernel_rfl) rfl rfl zfm n2054 (λ v2055=>qa (.exact v2055) rfl (gc (zau (zdy [] [(0,0),(0,1),(0,2),(0,4),(0,5),(1,3),(1,6),(2,7)] hmixP (by kernel_rfl) (pq rfl (zae (av:= .exact v2055) rfl (pq rfl (zae (av:= .xi g) rfl (pq rfl (zbx rfl rfl rfl (pq rfl (zae (av:= .exact v2055) rfl (pq rfl (zae (av:= .xi g) rfl ?_)))))))))))))))
          obtain⟨n2056,h⟩:=zag h
          refine P_r rfl (zhr (by kernel_rfl) rfl (zef rfl) zel n2056.1 n2056.2.1 n2056.2.2 ?_)
          obtain⟨n2057,h⟩:=zag h
          refine P_r rfl (zhr (by kernel_rfl) rfl (zef rfl) zel n2057.1 n2057.2.1 n2057.2.2 (P_l rfl (op_copy (q:=(Nat.min (Int.toNat (List.length (e++([(0,[])]:List (Int×(List UInt8)))):Int) - Int.toNat g) (Int.toNat (List.length (e++([(0,[])]:List (Int×(List UInt8)))):Int) - Int.toNat (i64 (g+1))))) (by kernel_rfl) (by kernel_rfl) zbw zfm rfl rfl (by have hh:=n2056;first|omega|(simp only[i64]at hh;omega)|(simp only[i64]at hh ⊢;omega)) (by have hh:=n2057;first|omega|(simp only[i64]at hh;omega)|(simp only[i64]at hh ⊢;omega)) rfl (zdu (zad (kr (qm (.exact v2055) rfl (qm (.xi g) rfl (qm (.row 2 zam a0) rfl (qm (.xi d) rfl ?_))))))))))
          obtain⟨n2058,h⟩:=zag h
          refine gq (zaj (by kernel_rfl) rfl rfl n2058.1 n2058.2 (gq (zke (m:=2) (c':=zam (gi a0 d)) (by kernel_rfl) rfl rfl rfl ?_)))
          obtain⟨n2059,h⟩:=zag h
          refine G_r rfl (zce (by kernel_rfl) rfl rfl n2059.1 n2059.2 (G_l rfl (zjl (i:=g) (o:=0) (z:=gi a0 d) (c':=[.xi ((gi a0 d).1), .xs ((gi a0 d).2)]) (by kernel_rfl) zbw rfl n2059.1 n2059.2 rfl CellsOf.agg (lc lf (lc lf ln)) (zfm _) (by kernel_rfl) (Nat.le_of_ble_eq_true rfl) rfl (zay (zar (zab ⟨_,v2055,h,s3 rfl rfl rfl⟩))))))
    .refine kr (qm (.xi d) rfl (gq (zbx rfl rfl rfl (qa (.xi (i64 (d+1))) rfl (zay (zab ⟨_,_,v3_j1610,h,s3 rfl rfl rfl⟩))))))
   .refine zcl (zbo (zbu (zbn (zab ⟨_,v3_l14,h,s1 rfl⟩))))
 .refine zau (sr (qm (.exact v3_j1) rfl (G_r rfl (zeg (by kernel_rfl) rfl (gq (zbi rfl rfl (gc (kd (p:=(List.length k:Int)=0) rfl h (λ hc h=> ?_) (λ hc h=> ?_)))))))))
  .refine sr ?_
   obtain⟨y2060,C,h⟩:=zac h
   refine gq (zai (zcb _ _ _ C) func11 (by kernel_rfl) (lc lf (lc (zep (by decide)) ln)) (qa (.xs y2060) rfl (gc (zax (zaz ?_)))))
   obtain rfl:=oi h
   refine ke (pt AF0 2 (.xs y2060)) [] rfl (Sub.trans (SubU.to SubU.drop) (s1 rfl)) ⟨rfl,rfl⟩
  .refine zaq (zad (sr (qa (.exact (.slice none 0 0)) rfl (gc (zdl h (λ(w:List (List UInt8)) (v6_j2061:Value)=>(pt AF0 6 (.exact v6_j2061))) (λ(w:List (List UInt8)) (v6_j2061:Value)=>[vecT Tryz.prog 26 1 zaa v6_j2061 w]) (λ k2061 h=> ?_) (λ w v6_j2061 h=> ?_))))))
   .refine sr (qa (.xi 0) rfl (gc (zas (zei (zhd k k2061) (zmc k k2061) (λ _ _=>rfl) (λ m _ _=>rfl) h (λ(x:List (List UInt8)) (j:Int) (v6_l28:Value)=>(pt (pt (pt AF0 3 (.exact v3_j1)) 6 (.exact v6_l28)) 7 (.xi j))) (λ(x:List (List UInt8)) (j:Int) (v6_l28:Value)=>[vecT Tryz.prog 27 2 zam v3_j1 k,vecT Tryz.prog 26 1 zaa v6_l28 x]) (.slice none 0 0) ?_ (λ I x j v6_l28 h=> ?_)))))
    .refine Sub.trans (SubU.to (SubU.nilT (P:=Tryz.prog) (t:=26) (n:=1) (enc:=zaa))) (Sub.trans (SubU.to SubU.f1) (s3 rfl rfl rfl))
    .unfold zmc at h
     refine zau (sr (qm (.xi j) rfl (qm (.exact v3_j1) rfl (G_r rfl (zeg (by kernel_rfl) rfl (gq (zby rfl rfl (gc (kd (p:=j<(List.length k:Int)) rfl h (λ hc h=> ?_) (λ hc h=> ?_))))))))))
     .refine zaq (zad (zau (zas (zdy [] [(0,0),(0,1),(0,2),(0,7),(0,8),(1,3),(0,4),(1,5),(0,6),(1,9),(0,10),(1,11),(0,12),(2,13),(0,14)] hmixP (by kernel_rfl) (pq rfl (zae (av:= .exact v6_l28) rfl (pq rfl (zae (av:= .exact v3_j1) rfl (pq rfl (zae (av:= .xi j) rfl (pq rfl (zae (av:= .exact v3_j1) rfl (pq rfl (zae (av:= .xi j) rfl ?_))))))))))))))
      obtain⟨n2088,h⟩:=zag h
      refine P_r rfl (zce (by kernel_rfl) rfl rfl n2088.1 n2088.2 (pq rfl (op_field_eptr (o:=0) (by kernel_rfl) rfl (P_r rfl (zdv (i:=j) (o:=0) (a:= .xi ((gi k j).1)) (by kernel_rfl) zbw rfl n2088.1 n2088.2 rfl ?_)))))
      obtain⟨y2089,D,h⟩:=zac h
      refine pq rfl (zai (zhb _ _ D) func22 (by kernel_rfl) (lc lf ln) ?_)
      obtain⟨n2090,h⟩:=zag h
      refine P_r rfl (zce (by kernel_rfl) rfl rfl n2090.1 n2090.2 (pq rfl (op_field_eptr (o:=1) (by kernel_rfl) rfl (P_r rfl (zdv (i:=j) (o:=1) (a:= .xs ((gi k j).2)) (by kernel_rfl) zbw rfl n2090.1 n2090.2 rfl (pq rfl (zcf (n:=1) (enc:=zaa) [y2089,(gi k j).2] (CellsAll.cons rfl CellsOf.str (CellsAll.cons rfl CellsOf.str CellsAll.nil)) rfl (by kernel_rfl) (LEss.cons (lc lf ln) (LEss.cons (lc lf ln) LEss.nil)) ?_)))))))
      obtain⟨n2091,h⟩:=zag h
      refine P_l rfl (opB_f1 (zeb (by kernel_rfl) rfl rfl zcr n2091 (λ v2092=>pq rfl (zba (av:= .exact v2092) rfl (zdu (zar (zad (kr (qm (.xi j) rfl (gq (zbx rfl rfl rfl (qa (.xi (i64 (j+1))) rfl (zay (zab ⟨_,_,v2092,h, ?_⟩))))))))))))))
      refine Sub.trans (SubU.to SubU.f1) (s3 rfl rfl rfl)
     .refine zcl (zbo (zbu (zbn (zab ⟨_,v6_l28,h, ?_⟩))))
      refine Sub.trans (SubU.to SubU.drop) (s1 rfl)
   .refine sr (qm (.exact v6_j2061) rfl (G_sub rfl (SubU.freezeT2 (s1:=6) (s2:=134) rfl rfl zbd) ?_))
    obtain⟨y2093,F,h⟩:=zac h
    refine gq (zai (zcb _ _ _ F) func11 (by kernel_rfl) (lc lf (lc lf ln)) (qa (.xs y2093) rfl (gc (zax ?_))))
    obtain rfl:=oi h
    refine ke (pt AF0 2 (.xs y2093)) [] rfl (s1 rfl) ⟨rfl,rfl⟩
theorem m_ref16_Binary_ok (a0:Int) (a1:List UInt8) (a2:List UInt8) (r:(List UInt8)) (h:zmw a0 a1 a2=some r):Pure Tryz.prog 28 [(.exact (.int .i64 a0)),(.exact (.string (bs a1))),(.exact (.string (bs a2)))] (.exact (.string (bs r))):=by
 unfold zmw at h
 refine Pure.ofFun (zan func28 rfl ntmps28 (by simp) rfl (res1 rfl) λ E hE=>zca (sr (qa (.xs ([]:List UInt8)) rfl (gc (zau (sr (qm (.xi a0) rfl ?_)))))))
 obtain⟨y1,a,h⟩:=zac h
 refine gq (zai (m_ref16_layout_ok _ _ a) func73 (by kernel_rfl) (lc lf ln) (gq (op_neqS rfl rfl (gc (kd (p:= ¬y1=[80,80]) rfl h (λ hc h=> ?_) (λ hc h=> ?_))))))
 .refine sr (qa (.xs ([]:List UInt8)) rfl (gc (zax (zaz ?_))))
  obtain rfl:=oi h
  refine ke (pt AF0 6 (.xs ([]:List UInt8))) [] rfl (s1 rfl) ⟨rfl,rfl⟩
 .refine zaq (zad (sr (qm (.xi a0) rfl (qm (.xs a1) rfl (qm (.xs a2) rfl (gq (zcf (n:=1) (enc:=zaa) [a1,a2] (CellsAll.cons rfl CellsOf.str (CellsAll.cons rfl CellsOf.str CellsAll.nil)) rfl (by kernel_rfl) (LEss.cons (lc lf ln) (LEss.cons (lc lf ln) LEss.nil)) ?_)))))))
  obtain⟨y2,b,h⟩:=zac h
  refine gq (zai (zcb _ _ _ b) func11 (by kernel_rfl) (lc lf (lc lf ln)) (qa (.xs y2) rfl (gc (zax ?_))))
  obtain rfl:=oi h
  refine ke (pt AF0 6 (.xs y2)) [] rfl (s1 rfl) ⟨rfl,rfl⟩
theorem m_ref16_Set_ok (a0:List Int) (r:(List Int)) (h:m_ref16_Set a0=some r):Pure Tryz.prog 51 [(.row 1 zbf a0)] (.row 1 zbf r):=by
 unfold m_ref16_Set at h
 refine Pure.ofFun (zan func51 rfl ntmps51 (by simp) rfl (res1 rfl) λ E hE=>zca (sr (qa (.exact (.slice none 0 0)) rfl (gd (G_l rfl (op_allocA (f:=(λ(x:Bool)=> .xb x)) 1024 (false:Bool) (.bool false) rfl (by kernel_rfl) rfl (λ b1=>gc (zbb h (λ(d:List Bool)=>(pt AF0 3 (pA b1 0))) (λ(d:List Bool)=>[boxI 98 b1 (List.map (λ(x:Bool)=> .xb x) d)]) (λ k2 h=> ?_) (λ d h=> ?_)))))))))
 .refine sr (qa (.xi 0) rfl (gc (zas (k_loop2_0 (m_ref16_Set_L2 a0 k2) (m_ref16_Set_B2 a0 k2) (λ _ _=>rfl) (λ m _ _=>rfl) h (λ(e:List Bool) (b:Int)=>(pt (pt (pt AF0 0 (.row 1 zbf a0)) 3 (pA b1 0)) 4 (.xi b))) (λ(e:List Bool) (b:Int)=>[boxI 98 b1 (List.map (λ(x:Bool)=> .xb x) e)]) ?_ (λ o e b h=> ?_)))))
  .exact s3 rfl rfl rfl
  .unfold m_ref16_Set_B2 at h
   refine zau (sr (qm (.xi b) rfl (qm (.row 1 zbf a0) rfl (gq (zaw (by kernel_rfl) rfl (gq (zby rfl rfl (gc (kd (p:=b<(List.length a0:Int)) rfl h (λ hc h=> ?_) (λ hc h=> ?_))))))))))
   .refine zaq (zad (zbb h (λ(i:List Bool)=>(pt (pt (pt AF0 0 (.row 1 zbf a0)) 3 (pA b1 0)) 4 (.xi b))) (λ(i:List Bool)=>[boxI 98 b1 (List.map (λ(x:Bool)=> .xb x) i)]) (λ k49 h=> ?_) (λ i h=> ?_)))
    .refine zas (sr (qm (.row 1 zbf a0) rfl (qm (.xi b) rfl ?_)))
     obtain⟨n54,h⟩:=zag h
     refine gq (zaj (by kernel_rfl) rfl rfl n54.1 n54.2 (gq (zap (a:= .xi (gi a0 b)) (by kernel_rfl) rfl rfl ?_)))
     obtain⟨y55,l,h⟩:=zac h
     refine gq (zai (zda _ _ l) func71 (by kernel_rfl) (lc lf ln) (gc (kb (p:=y55) rfl h (λ hc h=> ?_) (λ hc h=> ?_))))
     .refine kr (qm (.row 1 zbf a0) rfl (qm (.xi b) rfl ?_))
      obtain⟨n56,h⟩:=zag h
      refine gq (zaj (by kernel_rfl) rfl rfl n56.1 n56.2 (gq (zap (a:= .xi (gi a0 b)) (by kernel_rfl) rfl rfl (gq (zfo rfl rfl rfl ?_)))))
      obtain⟨n57,h⟩:=zag h
      refine gq (op_indexArr (m:=1024) (n:=1) (by kernel_rfl) rfl rfl n57.1 n57.2.1 (G_l rfl (op_store_box (c':=[.xb true]) (c3:=List.map (λ(x:Bool)=> .xb x) (List.set e (Int.toNat (i64 ((gi a0 b) - 2))) true)) rfl rfl CellsOf.bool (lc lf ln) (OneC.bool OneC.nil) (by kernel_rfl) (arr_set_le n57.1 n57.2.2) (arr_set (f:=(λ(x:Bool)=> .xb x)) (z:=true) n57.1 n57.2.2) (zay (zar (zab ⟨_,h,s3 rfl rfl rfl⟩))))))
     .refine zaq (zar (zab ⟨_,h,s3 rfl rfl rfl⟩))
    .refine kr (qm (.xi b) rfl (gq (zbx rfl rfl rfl (qa (.xi (i64 (b+1))) rfl (zay (zab ⟨_,_,h,s3 rfl rfl rfl⟩))))))
   .refine zcl (zbo (zbu (zbn (zab ⟨_,h,s1 rfl⟩))))
 .refine sr (qa (.exact (.slice none 0 0)) rfl (gc (zdl h (λ(g:List Int) (v5_j58:Value)=>(pt AF0 5 (.exact v5_j58))) (λ(g:List Int) (v5_j58:Value)=>[vecT Tryz.prog 23 1 zbf v5_j58 g]) (λ k58 h=> ?_) (λ g v5_j58 h=> ?_))))
  .refine sr (qa (.xi 0) rfl (gc (zas (zei (zkq d k58) (m_ref16_Set_B4 d k58) (λ _ _=>rfl) (λ m _ _=>rfl) h (λ(j:List Int) (c:Int) (v5_l4:Value)=>(pt (pt (pt AF0 3 (pA b1 0)) 5 (.exact v5_l4)) 6 (.xi c))) (λ(j:List Int) (c:Int) (v5_l4:Value)=>[boxI 98 b1 (List.map (λ(x:Bool)=> .xb x) d),vecT Tryz.prog 23 1 zbf v5_l4 j]) (.slice none 0 0) ?_ (λ q j c v5_l4 h=> ?_)))))
   .refine Sub.trans (SubU.to (SubU.nilT (P:=Tryz.prog) (t:=23) (n:=1) (enc:=zbf))) (Sub.trans (SubU.to SubU.f1) (s3 rfl rfl rfl))
   .unfold m_ref16_Set_B4 at h
    refine zau (sr (qm (.xi c) rfl (gq (zby rfl rfl (gc (kd (p:=c<1024) rfl h (λ hc h=> ?_) (λ hc h=> ?_)))))))
    .refine zaq (zad (zdl h (λ(k:List Int) (v5_j95:Value)=>(pt (pt (pt AF0 3 (pA b1 0)) 5 (.exact v5_j95)) 6 (.xi c))) (λ(k:List Int) (v5_j95:Value)=>[boxI 98 b1 (List.map (λ(x:Bool)=> .xb x) d),vecT Tryz.prog 23 1 zbf v5_j95 k]) (λ k95 h=> ?_) (λ k v5_j95 h=> ?_)))
     .refine zas (sr (qm (.xi c) rfl ?_))
      obtain⟨n99,h⟩:=zag h
      refine gq (op_indexArr (m:=1024) (n:=1) (by kernel_rfl) rfl rfl n99.1 n99.2.1 (G_r rfl (zer (a:= .xb (gi d c)) (by kernel_rfl) rfl (arr_get (f:=(λ(x:Bool)=> .xb x)) n99.1 n99.2.2) (gc (kb (p:=gi d c) rfl h (λ hc h=> ?_) (λ hc h=> ?_))))))
      .refine kr (qm (.exact v5_l4) rfl (qm (.xi c) rfl (gq (zbx rfl rfl rfl (gq (zcf (n:=1) (enc:=zbf) [i64 (2+c)] (CellsAll.cons rfl CellsOf.int CellsAll.nil) rfl (by kernel_rfl) (LEss.cons (lc lf ln) LEss.nil) ?_))))))
       obtain⟨n100,h⟩:=zag h
       refine G_l rfl (opB_f1 (zeb (by kernel_rfl) rfl rfl oc_c_int n100 (λ v101=>qa (.exact v101) rfl (zay (zar (zab ⟨_,v101,h, ?_⟩))))))
       refine Sub.trans (SubU.to SubU.f1) (s3 rfl rfl rfl)
      .refine zaq (zar (zab ⟨_,v5_l4,h,s3 rfl rfl rfl⟩))
     .refine kr (qm (.xi c) rfl (gq (zbx rfl rfl rfl (qa (.xi (i64 (c+1))) rfl (zay (zab ⟨_,_,v5_j95,h,s3 rfl rfl rfl⟩))))))
    .refine zcl (zbo (zbu (zbn (zab ⟨_,v5_l4,h, ?_⟩))))
     refine Sub.trans (SubU.to SubU.drop) (s1 rfl)
  .refine sr (qm (.exact v5_j58) rfl (qa (.exact v5_j58) rfl (gc (zax ?_))))
   obtain rfl:=oi h
   refine ke (pt AF0 2 (.row 1 zbf g)) [] rfl (Sub.trans (SubU.to (SubU.freezeT (s:=2) rfl zgy)) (s1 rfl)) ⟨rfl,rfl⟩
theorem zio {w0:Nat} (a0:(List Int)×Int) (r:(List Int)×((List Int)×Int)) (h:zej a0=some r):Fun Tryz.prog 17 [(pA w0 0)] [boxI 50 w0 [.row 1 zbf a0.1, .exact (.int .i64 a0.2)]] (λ a s=>a= .row 1 zbf r.1/\s=[boxI 50 w0 [.row 1 zbf r.2.1, .exact (.int .i64 r.2.2)]]):=by
 unfold zej at h
 refine zan func17 rfl ntmps17 (by simp) rfl (res1 rfl) λ E hE=>zca (sr (qa (.exact (.slice none 0 0)) rfl (gd (qa (.exact (.slice none 0 0)) rfl (gc (k_join3_1 h (λ(c:List Int) (d:Int) (e:List Int) (v3_j1:Value)=>(pt (pt AF0 0 (pA w0 0)) 3 (.exact v3_j1))) (λ(c:List Int) (d:Int) (e:List Int) (v3_j1:Value)=>[boxI 50 w0 [.row 1 zbf c, .xi d],vecT Tryz.prog 23 1 zbf v3_j1 e]) (λ k1 h=> ?_) (λ c d e v3_j1 h=> ?_)))))))
 .refine sr (qm (pA w0 0) rfl ?_)
  obtain⟨y13,j,h⟩:=zac h
  refine G_l rfl (zbc (zcp _ _ _ j) func7 (by kernel_rfl) (lc lf (lc lf ln)) (qa (.xi y13.1) rfl (gc (zas (k_loop4_1 (zev k1) (zgd k1) (λ _ _ _ _=>rfl) (λ m _ _ _ _=>rfl) h (λ(f:List Int) (g:Int) (i:List Int) (b:Int) (v3_l2:Value)=>(pt (pt (pt AF0 0 (pA w0 0)) 3 (.exact v3_l2)) 4 (.xi b))) (λ(f:List Int) (g:Int) (i:List Int) (b:Int) (v3_l2:Value)=>[boxI 50 w0 [.row 1 zbf f, .xi g],vecT Tryz.prog 23 1 zbf v3_l2 i]) (.slice none 0 0) ?_ (λ o f g i b v3_l2 h=> ?_))))))
  .refine Sub.trans (SubU.to (SubU.nilT (P:=Tryz.prog) (t:=23) (n:=1) (enc:=zbf))) (Sub.trans (SubU.to SubU.f1) (s3 rfl rfl rfl))
  .unfold zgd at h
   refine zau (sr (qm (.xi b) rfl (gq (zlh rfl rfl (gc (kd (p:=0<b) rfl h (λ hc h=> ?_) (λ hc h=> ?_)))))))
   .refine zaq (zad (zau (zas (kr (qm (.exact v3_l2) rfl (qm (pA w0 0) rfl ?_))))))
    obtain⟨y20,k,h⟩:=zac h
    refine G_l rfl (zbc (zey _ _ k) func8 (by kernel_rfl) (lc lf ln) (gq (zcf (n:=1) (enc:=zbf) [y20.1] (CellsAll.cons rfl CellsOf.int CellsAll.nil) rfl (by kernel_rfl) (LEss.cons (lc lf ln) LEss.nil) ?_)))
    obtain⟨n21,h⟩:=zag h
    refine G_l rfl (opB_f1 (zeb (by kernel_rfl) rfl rfl oc_c_int n21 (λ v22=>qa (.exact v22) rfl (zay (zar (zad (kr (qm (.xi b) rfl (gq (zfo rfl rfl rfl (qa (.xi (i64 (b - 1))) rfl (zay (zab ⟨_,_,_,_,v22,h, ?_⟩)))))))))))))
    refine Sub.trans (SubU.to SubU.f1) (s3 rfl rfl rfl)
   .refine zcl (zbo (zbu (zbn (zab ⟨_,_,_,v3_l2,h,s2 rfl rfl⟩))))
 .refine sr (qm (.exact v3_j1) rfl (G_sub rfl (SubU.trans SubU.f1 (SubU.freezeT2 (s1:=3) (s2:=16) rfl rfl zgy)) ?_))
  obtain⟨y23,l,h⟩:=zac h
  refine gq (zai (m_ref16_Set_ok _ _ l) func51 (by kernel_rfl) (lc lf ln) (qa (.row 1 zbf y23) rfl (gc (zax ?_))))
  obtain rfl:=oi h
  refine ke (pt AF0 2 (.row 1 zbf y23)) [boxI 50 w0 [.row 1 zbf c, .xi d]] rfl (s1 rfl) ⟨rfl,rfl⟩
end
noncomputable section
open Go.RowKit
attribute [local irreducible] AV.exact AV.top AV.row AV.ptr AV.agg AV.tup AV.eptr AV.fn AV.nilq AV.nilqn opA opB opM opR Quiet Loud Reads wpG awp den Sub SubU Pure Fun vecI vecT boxI CellsAll CellsOf OneC LEs LEss
set_option maxRecDepth 100000
set_option maxHeartbeats 4000000
theorem m_ref9_Sort_ok (a0:List (List UInt8)) (r:(List (List UInt8))) (h:m_ref9_Sort a0=some r):Pure Tryz.prog 93 [(.row 1 zaa a0)] (.row 1 zaa r):=by
 unfold m_ref9_Sort at h
 refine Pure.ofFun (zan func93 rfl ntmps93 (by simp) rfl (res1 rfl) λ E hE=>zca (sr (qa (.exact (.slice none 0 0)) rfl (gd (qa (.exact (.slice none 0 0)) rfl (gc (zdl h (λ(f:List (List UInt8)) (v3_j1:Value)=>(pt AF0 3 (.exact v3_j1))) (λ(f:List (List UInt8)) (v3_j1:Value)=>[vecT Tryz.prog 26 1 zaa v3_j1 f]) (λ k1 h=> ?_) (λ f v3_j1 h=> ?_))))))))
 .refine sr (qa (.xi 0) rfl (gc (zas (zei (zll a0 k1) (m_ref9_Sort_B14 a0 k1) (λ _ _=>rfl) (λ m _ _=>rfl) h (λ(d:List (List UInt8)) (b:Int) (v3_l14:Value)=>(pt (pt (pt AF0 0 (.row 1 zaa a0)) 3 (.exact v3_l14)) 4 (.xi b))) (λ(d:List (List UInt8)) (b:Int) (v3_l14:Value)=>[vecT Tryz.prog 26 1 zaa v3_l14 d]) (.slice none 0 0) ?_ (λ u d b v3_l14 h=> ?_)))))
  .refine Sub.trans (SubU.to (SubU.nilT (P:=Tryz.prog) (t:=26) (n:=1) (enc:=zaa))) (s3 rfl rfl rfl)
  .unfold m_ref9_Sort_B14 at h
   refine zau (sr (qm (.xi b) rfl (qm (.row 1 zaa a0) rfl (gq (zaw (by kernel_rfl) rfl (gq (zby rfl rfl (gc (kd (p:=b<(List.length a0:Int)) rfl h (λ hc h=> ?_) (λ hc h=> ?_))))))))))
   .refine zaq (zad (zdl h (λ(k:List (List UInt8)) (v3_j844:Value)=>(pt (pt (pt AF0 0 (.row 1 zaa a0)) 3 (.exact v3_j844)) 4 (.xi b))) (λ(k:List (List UInt8)) (v3_j844:Value)=>[vecT Tryz.prog 26 1 zaa v3_j844 k]) (λ k844 h=> ?_) (λ k v3_j844 h=> ?_)))
    .refine zas (sr (qm (.exact v3_l14) rfl (G_r rfl (zeg (by kernel_rfl) rfl (qa (.xi (List.length d:Int)) rfl (gc (zbb h (λ(c:Int)=>(pt (pt (pt (pt AF0 0 (.row 1 zaa a0)) 3 (.exact v3_l14)) 4 (.xi b)) 5 (.xi c))) (λ(c:Int)=>[vecT Tryz.prog 26 1 zaa v3_l14 d]) (λ k955 h=> ?_) (λ c h=> ?_))))))))
     .refine zas (zen (m_ref9_Sort_L26 a0 d b k955) (m_ref9_Sort_B26 a0 d b k955) (λ _=>rfl) (λ m _=>rfl) h (λ(e:Int)=>(pt (pt (pt (pt AF0 0 (.row 1 zaa a0)) 3 (.exact v3_l14)) 4 (.xi b)) 5 (.xi e))) (λ(e:Int)=>[vecT Tryz.prog 26 1 zaa v3_l14 d]) ?_ (λ v e h=> ?_))
      .exact s4 rfl rfl rfl rfl
      .unfold m_ref9_Sort_B26 at h
       refine zau (zbb h (λ(g:Bool)=>(pt (pt (pt (pt (pt AF0 0 (.row 1 zaa a0)) 3 (.exact v3_l14)) 4 (.xi b)) 5 (.xi e)) 28 (.xb g))) (λ(g:Bool)=>[vecT Tryz.prog 26 1 zaa v3_l14 d]) (λ k1040 h=> ?_) (λ g h=> ?_))
       .refine zdy [] [(0,0),(0,1),(0,2),(0,3),(0,4),(0,5),(0,8),(0,9),(0,10),(0,11),(1,6),(1,7),(0,12),(0,13),(0,14)] hmixP (by kernel_rfl) (pq rfl (zae (av:= .xi e) rfl (pq rfl (zlh rfl rfl (pq rfl (zae (av:= .xb (decide (0<e))) rfl (zix (p:=0<e) 16 rfl (λ hc=> ?_) (λ hc=> ?_))))))))
        .replace h:=zdb h hc
         refine py rfl (zae (av:= .exact v3_l14) rfl (py rfl (zae (av:= .xi e) rfl (py rfl (zfo rfl rfl rfl (py rfl (zae (av:= .row 1 zaa a0) rfl (py rfl (zae (av:= .xi b) rfl ?_)))))))))
         obtain⟨n1044,h⟩:=zag h
         refine py rfl (zaj (by kernel_rfl) rfl rfl n1044.1 n1044.2 (py rfl (zap (a:= .xs (gi a0 b)) (by kernel_rfl) rfl rfl ?_)))
         obtain⟨n1045,h⟩:=zag h
         refine Py_r rfl rfl rfl (zce (by kernel_rfl) rfl rfl n1045.1 n1045.2 (Py_r rfl rfl rfl (zdv (i:=i64 (e - 1)) (o:=0) (a:= .xs (gi d (i64 (e - 1)))) (by kernel_rfl) zbd rfl n1045.1 n1045.2 rfl ?_)))
         obtain⟨y1046,l,h⟩:=zac h
         refine py rfl (zai (m_ref9_Compare_ok _ _ _ l) func72 (by kernel_rfl) (lc lf (lc lf ln)) (py rfl (zlh rfl rfl (pq rfl (zat rfl (av:= .xb (decide (0<y1046))) rfl (zdu (zab ⟨_,h,so (l4 rfl rfl rfl rfl (lq rfl lt0))⟩)))))))
        .replace h:=zdc h hc
         refine pn rfl (pn rfl (pn rfl (pn rfl (pn rfl (pn rfl (pn rfl (P_n zja rfl rfl rfl (P_n zja rfl rfl rfl (pn rfl (pn rfl (pq rfl (zao rfl (av:= .xb false) rfl (zdu (zab ⟨_,h,so (l4 rfl rfl rfl rfl (lq rfl lt0))⟩))))))))))))))
       .refine kb (p:=g) rfl h (λ hc h=> ?_) (λ hc h=> ?_)
        .refine zaq (zad (zas (kr (qm (.xi e) rfl (gq (zfo rfl rfl rfl (qa (.xi (i64 (e - 1))) rfl (zay (zar (zab ⟨_,h,s4 rfl rfl rfl rfl⟩))))))))))
        .refine zcl (zbo (zbu (zbn (zab ⟨_,h,s4 rfl rfl rfl rfl⟩))))
     .refine zau (zbb h (λ(j:Bool)=>(pt (pt (pt (pt (pt AF0 0 (.row 1 zaa a0)) 3 (.exact v3_l14)) 4 (.xi b)) 5 (.xi c)) 44 (.xb j))) (λ(j:Bool)=>[vecT Tryz.prog 26 1 zaa v3_l14 d]) (λ k1053 h=> ?_) (λ j h=> ?_))
      .refine zdy [] [(0,0),(0,1),(0,2),(0,3),(0,4),(0,5),(0,8),(0,9),(0,10),(0,11),(1,6),(1,7),(0,12),(0,13)] hmixP (by kernel_rfl) (pq rfl (zae (av:= .xi c) rfl (pq rfl (zlh rfl rfl (pq rfl (zae (av:= .xb (decide (0<c))) rfl (zix (p:=0<c) 33 rfl (λ hc=> ?_) (λ hc=> ?_))))))))
       .replace h:=zdb h hc
        refine py rfl (zae (av:= .exact v3_l14) rfl (py rfl (zae (av:= .xi c) rfl (py rfl (zfo rfl rfl rfl (py rfl (zae (av:= .row 1 zaa a0) rfl (py rfl (zae (av:= .xi b) rfl ?_)))))))))
        obtain⟨n1056,h⟩:=zag h
        refine py rfl (zaj (by kernel_rfl) rfl rfl n1056.1 n1056.2 (py rfl (zap (a:= .xs (gi a0 b)) (by kernel_rfl) rfl rfl ?_)))
        obtain⟨n1057,h⟩:=zag h
        refine Py_r rfl rfl rfl (zce (by kernel_rfl) rfl rfl n1057.1 n1057.2 (Py_r rfl rfl rfl (zdv (i:=i64 (c - 1)) (o:=0) (a:= .xs (gi d (i64 (c - 1)))) (by kernel_rfl) zbd rfl n1057.1 n1057.2 rfl (py rfl (op_eqlS rfl rfl (pq rfl (zat rfl (av:= .xb (decide ((gi d (i64 (c - 1)))=(gi a0 b)))) rfl (zdu (zab ⟨_,h,so (l4 rfl rfl rfl rfl (lq rfl lt0))⟩)))))))))
       .replace h:=zdc h hc
        refine pn rfl (pn rfl (pn rfl (pn rfl (pn rfl (pn rfl (pn rfl (P_n zja rfl rfl rfl (P_n zja rfl rfl rfl (pn rfl (pq rfl (zao rfl (av:= .xb false) rfl (zdu (zab ⟨_,h,so (l4 rfl rfl rfl rfl (lq rfl lt0))⟩)))))))))))))
      .refine kb (p:=j) rfl h (λ hc h=> ?_) (λ hc h=> ?_)
       .refine zcl (zbo (zbn (zab ⟨_,v3_l14,h,s3 rfl rfl rfl⟩)))
       .refine zaq (zad (sr (qm (.exact v3_l14) rfl (gq (zcf (n:=1) (enc:=zaa) [([]:List UInt8)] (CellsAll.cons rfl CellsOf.str CellsAll.nil) rfl (by kernel_rfl) (LEss.cons (lc lf ln) LEss.nil) ?_)))))
        obtain⟨n1058,h⟩:=zag h
        refine G_l rfl (zeb (by kernel_rfl) rfl rfl zcr n1058 (λ v1059=>qa (.exact v1059) rfl (gc (zau (zdy [] [(0,0),(0,1),(0,2),(0,4),(0,5),(1,3),(1,6),(2,7)] hmixP (by kernel_rfl) (pq rfl (zae (av:= .exact v1059) rfl (pq rfl (zae (av:= .xi c) rfl (pq rfl (zbx rfl rfl rfl (pq rfl (zae (av:= .exact v1059) rfl (pq rfl (zae (av:= .xi c) rfl ?_)))))))))))))))
        obtain⟨n1060,h⟩:=zag h
        refine P_r rfl (zhr (by kernel_rfl) rfl (zef rfl) zel n1060.1 n1060.2.1 n1060.2.2 ?_)
        obtain⟨n1061,h⟩:=zag h
        refine P_r rfl (zhr (by kernel_rfl) rfl (zef rfl) zel n1061.1 n1061.2.1 n1061.2.2 (P_l rfl (op_copy (q:=(Nat.min (Int.toNat (List.length (d++([([]:List UInt8)])):Int) - Int.toNat c) (Int.toNat (List.length (d++([([]:List UInt8)])):Int) - Int.toNat (i64 (c+1))))) (by kernel_rfl) (by kernel_rfl) zbd zcr rfl rfl (by have hh:=n1060;first|omega|(simp only[i64]at hh;omega)|(simp only[i64]at hh ⊢;omega)) (by have hh:=n1061;first|omega|(simp only[i64]at hh;omega)|(simp only[i64]at hh ⊢;omega)) rfl (zdu (zad (kr (qm (.exact v1059) rfl (qm (.xi c) rfl (qm (.row 1 zaa a0) rfl (qm (.xi b) rfl ?_))))))))))
        obtain⟨n1062,h⟩:=zag h
        refine gq (zaj (by kernel_rfl) rfl rfl n1062.1 n1062.2 (gq (zap (a:= .xs (gi a0 b)) (by kernel_rfl) rfl rfl ?_)))
        obtain⟨n1063,h⟩:=zag h
        refine G_r rfl (zce (by kernel_rfl) rfl rfl n1063.1 n1063.2 (G_l rfl (zjl (i:=c) (o:=0) (z:=gi a0 b) (c':=[.xs (gi a0 b)]) (by kernel_rfl) zbd rfl n1063.1 n1063.2 rfl CellsOf.str (lc lf ln) (OneC.str OneC.nil) (by kernel_rfl) (Nat.le_of_ble_eq_true rfl) rfl (zay (zar (zab ⟨_,v1059,h,s3 rfl rfl rfl⟩))))))
    .refine kr (qm (.xi b) rfl (gq (zbx rfl rfl rfl (qa (.xi (i64 (b+1))) rfl (zay (zab ⟨_,_,v3_j844,h,s3 rfl rfl rfl⟩))))))
   .refine zcl (zbo (zbu (zbn (zab ⟨_,v3_l14,h,s1 rfl⟩))))
 .refine sr (qm (.exact v3_j1) rfl (qa (.exact v3_j1) rfl (gc (zax ?_))))
  obtain rfl:=oi h
  refine ke (pt AF0 2 (.row 1 zaa f)) [] rfl (Sub.trans (SubU.to (SubU.freezeT (s:=2) rfl zbd)) (s1 rfl)) ⟨rfl,rfl⟩
theorem m_ref9_Set_ok (a0:List (List UInt8)) (r:(List UInt8)) (h:m_ref9_Set a0=some r):Pure Tryz.prog 74 [(.row 1 zaa a0)] (.exact (.string (bs r))):=by
 unfold m_ref9_Set at h
 refine Pure.ofFun (zan func74 rfl ntmps74 (by simp) rfl (res1 rfl) λ E hE=>zca (sr (qa (.xs ([]:List UInt8)) rfl (gc (zau (sr (qm (.row 1 zaa a0) rfl ?_)))))))
 obtain⟨y1,a,h⟩:=zac h
 refine gq (zai (m_ref9_all_ok _ _ a) func114 (by kernel_rfl) (lc lf ln) (gq (zgf rfl (gc (kb (p:= !y1) rfl h (λ hc h=> ?_) (λ hc h=> ?_))))))
 .refine sr (qa (.xs ([]:List UInt8)) rfl (gc (zax (zaz ?_))))
  obtain rfl:=oi h
  refine ke (pt AF0 2 (.xs ([]:List UInt8))) [] rfl (s1 rfl) ⟨rfl,rfl⟩
 .refine zaq (zad (sr (qm (.row 1 zaa a0) rfl ?_)))
  obtain⟨y2,b,h⟩:=zac h
  refine gq (zai (m_ref9_Sort_ok _ _ b) func93 (by kernel_rfl) (lc lf ln) ?_)
  obtain⟨y3,c,h⟩:=zac h
  refine gq (zai (m_ref9_compound_ok _ _ _ c) func115 (by kernel_rfl) (lc lf (lc lf ln)) (qa (.xs y3) rfl (gc (zax ?_))))
  obtain rfl:=oi h
  refine ke (pt AF0 2 (.xs y3)) [] rfl (s1 rfl) ⟨rfl,rfl⟩
theorem m_ref16_SetValue_ok (a0:List Int) (r:(List UInt8)) (h:zhp a0=some r):Pure Tryz.prog 30 [(.row 1 zbf a0)] (.exact (.string (bs r))):=by
 unfold zhp at h
 refine Pure.ofFun (zan func30 rfl ntmps30 (by simp) rfl (res1 rfl) λ E hE=>zca (sr (qa (.xs ([]:List UInt8)) rfl (gd (qa (.exact (.slice none 0 0)) rfl (gd (qm (.row 1 zbf a0) rfl ?_)))))))
 obtain⟨y1,f,h⟩:=zac h
 refine gq (zai (m_ref16_Set_ok _ _ f) func51 (by kernel_rfl) (lc lf ln) (qa (.row 1 zbf y1) rfl (gc (zdq h ((pt (pt AF0 3 (.exact (.slice none 0 0))) 4 (.row 1 zbf y1))) ([]) (λ k2 h=> ?_) (λ  h=> ?_)))))
 .refine sr (qa (.xi 0) rfl (gc (zas (zen (zie a0 k2) (zlf a0 k2) (λ _=>rfl) (λ m _=>rfl) h (λ(b:Int)=>(pt (pt (pt (pt AF0 0 (.row 1 zbf a0)) 3 (.exact (.slice none 0 0))) 4 (.row 1 zbf y1)) 5 (.xi b))) (λ(b:Int)=>[]) ?_ (λ k b h=> ?_)))))
  .exact s4 rfl rfl rfl rfl
  .unfold zlf at h
   refine zau (sr (qm (.xi b) rfl (qm (.row 1 zbf a0) rfl (gq (zaw (by kernel_rfl) rfl (gq (zby rfl rfl (gc (kd (p:=b<(List.length a0:Int)) rfl h (λ hc h=> ?_) (λ hc h=> ?_))))))))))
   .refine zaq (zad (zau (zas (sr (qm (.row 1 zbf a0) rfl (qm (.xi b) rfl ?_))))))
    obtain⟨n14,h⟩:=zag h
    refine gq (zaj (by kernel_rfl) rfl rfl n14.1 n14.2 (gq (zap (a:= .xi (gi a0 b)) (by kernel_rfl) rfl rfl ?_)))
    obtain⟨y15,g,h⟩:=zac h
    refine gq (zai (zda _ _ g) func71 (by kernel_rfl) (lc lf ln) (gq (zgf rfl (gc (kb (p:= !y15) rfl h (λ hc h=> ?_) (λ hc h=> ?_))))))
    .refine sr (qa (.xs ([]:List UInt8)) rfl (gc (zax (zbe (zaz (zbr (zbe (zbr ?_))))))))
     obtain rfl:=oi h
     refine ke (pt AF0 2 (.xs ([]:List UInt8))) [] rfl (s1 rfl) ⟨rfl,rfl⟩
    .refine zaq (zar (zad (kr (qm (.xi b) rfl (gq (zbx rfl rfl rfl (qa (.xi (i64 (b+1))) rfl (zay (zab ⟨_,h,s4 rfl rfl rfl rfl⟩)))))))))
   .refine zcl (zbo (zbu (zbn (zab ⟨h,s2 rfl rfl⟩))))
 .refine zdl h (λ(d:List (List UInt8)) (v3_j16:Value)=>(pt AF0 3 (.exact v3_j16))) (λ(d:List (List UInt8)) (v3_j16:Value)=>[vecT Tryz.prog 26 1 zaa v3_j16 d]) (λ k16 h=> ?_) (λ d v3_j16 h=> ?_)
  .refine sr (qa (.xi 0) rfl (gc (zas (zei (zgk y1 k16) (zlm y1 k16) (λ _ _=>rfl) (λ m _ _=>rfl) h (λ(e:List (List UInt8)) (c:Int) (v3_l4:Value)=>(pt (pt (pt AF0 3 (.exact v3_l4)) 4 (.row 1 zbf y1)) 6 (.xi c))) (λ(e:List (List UInt8)) (c:Int) (v3_l4:Value)=>[vecT Tryz.prog 26 1 zaa v3_l4 e]) (.slice none 0 0) ?_ (λ l e c v3_l4 h=> ?_)))))
   .refine Sub.trans (SubU.to (SubU.nilT (P:=Tryz.prog) (t:=26) (n:=1) (enc:=zaa))) (s3 rfl rfl rfl)
   .unfold zlm at h
    refine zau (sr (qm (.xi c) rfl (qm (.row 1 zbf y1) rfl (gq (zaw (by kernel_rfl) rfl (gq (zby rfl rfl (gc (kd (p:=c<(List.length y1:Int)) rfl h (λ hc h=> ?_) (λ hc h=> ?_))))))))))
    .refine zaq (zad (zau (zas (kr (qm (.exact v3_l4) rfl (qm (.row 1 zbf y1) rfl (qm (.xi c) rfl ?_)))))))
     obtain⟨n38,h⟩:=zag h
     refine gq (zaj (by kernel_rfl) rfl rfl n38.1 n38.2 (gq (zap (a:= .xi (gi y1 c)) (by kernel_rfl) rfl rfl ?_)))
     obtain⟨y39,i,h⟩:=zac h
     refine gq (zai (zhb _ _ i) func22 (by kernel_rfl) (lc lf ln) (gq (zcf (n:=1) (enc:=zaa) [y39] (CellsAll.cons rfl CellsOf.str CellsAll.nil) rfl (by kernel_rfl) (LEss.cons (lc lf ln) LEss.nil) ?_)))
     obtain⟨n40,h⟩:=zag h
     refine G_l rfl (zeb (by kernel_rfl) rfl rfl zcr n40 (λ v41=>qa (.exact v41) rfl (zay (zar (zad (kr (qm (.xi c) rfl (gq (zbx rfl rfl rfl (qa (.xi (i64 (c+1))) rfl (zay (zab ⟨_,_,v41,h,s3 rfl rfl rfl⟩))))))))))))
    .refine zcl (zbo (zbu (zbn (zab ⟨_,v3_l4,h,s1 rfl⟩))))
  .refine sr (qm (.exact v3_j16) rfl (G_sub rfl (SubU.freezeT2 (s1:=3) (s2:=35) rfl rfl zbd) ?_))
   obtain⟨y42,j,h⟩:=zac h
   refine gq (zai (m_ref9_Set_ok _ _ j) func74 (by kernel_rfl) (lc lf ln) (qa (.xs y42) rfl (gc (zax ?_))))
   obtain rfl:=oi h
   refine ke (pt AF0 2 (.xs y42)) [] rfl (s1 rfl) ⟨rfl,rfl⟩
theorem m_ref16_Guarded_ok (a0:Int) (a1:List UInt8) (a2:List Int) (a3:List UInt8) (r:(List UInt8)) (h:m_ref16_Guarded a0 a1 a2 a3=some r):Pure Tryz.prog 29 [(.exact (.int .i64 a0)),(.exact (.string (bs a1))),(.row 1 zbf a2),(.exact (.string (bs a3)))] (.exact (.string (bs r))):=by
 unfold m_ref16_Guarded at h
 refine Pure.ofFun (zan func29 rfl ntmps29 (by simp) rfl (res1 rfl) λ E hE=>zca (sr (qa (.xs ([]:List UInt8)) rfl (gc (zau (sr (qm (.xi a0) rfl ?_)))))))
 obtain⟨y1,a,h⟩:=zac h
 refine gq (zai (m_ref16_layout_ok _ _ a) func73 (by kernel_rfl) (lc lf ln) (gq (op_neqS rfl rfl (gc (kd (p:= ¬y1=[80,83,80]) rfl h (λ hc h=> ?_) (λ hc h=> ?_))))))
 .refine sr (qa (.xs ([]:List UInt8)) rfl (gc (zax (zaz ?_))))
  obtain rfl:=oi h
  refine ke (pt AF0 8 (.xs ([]:List UInt8))) [] rfl (s1 rfl) ⟨rfl,rfl⟩
 .refine zaq (zad (sr (qm (.xi a0) rfl (qm (.xs a1) rfl (qm (.row 1 zbf a2) rfl ?_)))))
  obtain⟨y2,b,h⟩:=zac h
  refine gq (zai (m_ref16_SetValue_ok _ _ b) func30 (by kernel_rfl) (lc lf ln) (qm (.xs a3) rfl (gq (zcf (n:=1) (enc:=zaa) [a1,y2,a3] (CellsAll.cons rfl CellsOf.str (CellsAll.cons rfl CellsOf.str (CellsAll.cons rfl CellsOf.str CellsAll.nil))) rfl (by kernel_rfl) (LEss.cons (lc lf ln) (LEss.cons (lc lf ln) (LEss.cons (lc lf ln) LEss.nil))) ?_))))
  obtain⟨y3,c,h⟩:=zac h
  refine gq (zai (zcb _ _ _ c) func11 (by kernel_rfl) (lc lf (lc lf ln)) (qa (.xs y3) rfl (gc (zax ?_))))
  obtain rfl:=oi h
  refine ke (pt AF0 8 (.xs y3)) [] rfl (s1 rfl) ⟨rfl,rfl⟩
theorem m_ref16_Relation_ok (a0:List (Int×Int)) (r:(List (Int×Int))) (h:zcu a0=some r):Fun Tryz.prog 52 [(.row 2 zak a0)] [] (λ a s=> ∃z0,a= .exact z0/\s=[vecT Tryz.prog 24 2 zak z0 r]):=by
 unfold zcu at h
 refine zan func52 rfl ntmps52 (by simp) rfl (res1 rfl) λ E hE=>zca (sr (qa (.exact (.slice none 0 0)) rfl (gd (qa (.exact (.slice none 0 0)) rfl (gc (zdl h (λ(j:List (Int×Int)) (v3_j1:Value)=>(pt AF0 3 (.exact v3_j1))) (λ(j:List (Int×Int)) (v3_j1:Value)=>[vecT Tryz.prog 24 2 zak v3_j1 j]) (λ k1 h=> ?_) (λ j v3_j1 h=> ?_)))))))
 .refine sr (qa (.xi 0) rfl (gc (zas (zei (zdw a0 k1) (zkh a0 k1) (λ _ _=>rfl) (λ m _ _=>rfl) h (λ(e:List (Int×Int)) (d:Int) (v3_l14:Value)=>(pt (pt (pt AF0 0 (.row 2 zak a0)) 3 (.exact v3_l14)) 4 (.xi d))) (λ(e:List (Int×Int)) (d:Int) (v3_l14:Value)=>[vecT Tryz.prog 24 2 zak v3_l14 e]) (.slice none 0 0) ?_ (λ A e d v3_l14 h=> ?_)))))
  .refine Sub.trans (SubU.to (SubU.nilT (P:=Tryz.prog) (t:=24) (n:=2) (enc:=zak))) (s3 rfl rfl rfl)
  .unfold zkh at h
   refine zau (sr (qm (.xi d) rfl (qm (.row 2 zak a0) rfl (gq (zaw (by kernel_rfl) rfl (gq (zby rfl rfl (gc (kd (p:=d<(List.length a0:Int)) rfl h (λ hc h=> ?_) (λ hc h=> ?_))))))))))
   .refine zaq (zad (zdl h (λ(v:List (Int×Int)) (v3_j1034:Value)=>(pt (pt (pt AF0 0 (.row 2 zak a0)) 3 (.exact v3_j1034)) 4 (.xi d))) (λ(v:List (Int×Int)) (v3_j1034:Value)=>[vecT Tryz.prog 24 2 zak v3_j1034 v]) (λ k1034 h=> ?_) (λ v v3_j1034 h=> ?_)))
    .refine zas (zau (zbb h (λ(k:Bool)=>(pt (pt (pt (pt AF0 0 (.row 2 zak a0)) 3 (.exact v3_l14)) 4 (.xi d)) 27 (.xb k))) (λ(k:Bool)=>[vecT Tryz.prog 24 2 zak v3_l14 e]) (λ k1174 h=> ?_) (λ k h=> ?_)))
     .refine kr (qm (.row 2 zak a0) rfl (qm (.xi d) rfl ?_))
      obtain⟨n1179,h⟩:=zag h
      refine gq (zaj (by kernel_rfl) rfl rfl n1179.1 n1179.2 (gq (zav (o:=0) (c':=(List.drop 0 (zak (gi a0 d)))) (by kernel_rfl) rfl rfl (gq (zap (a:= .xi ((gi a0 d).1)) (by kernel_rfl) rfl rfl ?_)))))
      obtain⟨y1180,w,h⟩:=zac h
      refine gq (zai (zda _ _ w) func71 (by kernel_rfl) (lc lf ln) (gq (zgf rfl (qm (.xb (!y1180)) rfl (G_splitB (c:= !y1180) 19 rfl (λ hc=> ?_) (λ hc=> ?_))))))
      .replace h:=zdb h hc
       refine gn (gn (gn (gn (gn (gn (gn (gq (zat rfl (av:= .xb true) rfl (zay (zab ⟨_,h,s4 rfl rfl rfl rfl⟩))))))))))
      .replace h:=zdc h hc
       refine gy (zae (av:= .row 2 zak a0) rfl (gy (zae (av:= .xi d) rfl ?_)))
       obtain⟨n1181,h⟩:=zag h
       refine gy (zaj (by kernel_rfl) rfl rfl n1181.1 n1181.2 (gy (zav (o:=1) (c':=(List.drop 1 (zak (gi a0 d)))) (by kernel_rfl) rfl rfl (gy (zap (a:= .xi ((gi a0 d).2)) (by kernel_rfl) rfl rfl ?_)))))
       obtain⟨y1182,x,h⟩:=zac h
       refine gy (zai (zda _ _ x) func71 (by kernel_rfl) (lc lf ln) (gy (zgf rfl (gq (zao rfl (av:= .xb (!y1182)) rfl (zay (zab ⟨_,h,s4 rfl rfl rfl rfl⟩)))))))
     .refine kb (p:=k) rfl h (λ hc h=> ?_) (λ hc h=> ?_)
      .refine zcl (zbo (zbn (zab ⟨_,v3_l14,h,s3 rfl rfl rfl⟩)))
      .refine zaq (zad (sr (qa (.xi 0) rfl (gc (zbb h (λ(f:Int)=>(pt (pt (pt (pt AF0 0 (.row 2 zak a0)) 3 (.exact v3_l14)) 4 (.xi d)) 5 (.xi f))) (λ(f:Int)=>[vecT Tryz.prog 24 2 zak v3_l14 e]) (λ k1183 h=> ?_) (λ f h=> ?_))))))
       .refine zas (zen (zhk a0 e d k1183) (zki a0 e d k1183) (λ _=>rfl) (λ m _=>rfl) h (λ(g:Int)=>(pt (pt (pt (pt AF0 0 (.row 2 zak a0)) 3 (.exact v3_l14)) 4 (.xi d)) 5 (.xi g))) (λ(g:Int)=>[vecT Tryz.prog 24 2 zak v3_l14 e]) ?_ (λ B g h=> ?_))
        .exact s4 rfl rfl rfl rfl
        .unfold zki at h
         refine zau (zbb h (λ(l:Bool)=>(pt (pt (pt (pt (pt AF0 0 (.row 2 zak a0)) 3 (.exact v3_l14)) 4 (.xi d)) 5 (.xi g)) 42 (.xb l))) (λ(l:Bool)=>[vecT Tryz.prog 24 2 zak v3_l14 e]) (λ k1268 h=> ?_) (λ l h=> ?_))
         .refine zdy [] [(0,0),(0,1),(1,2),(0,3),(0,4),(0,5),(0,6),(0,9),(0,10),(0,11),(0,12),(1,7),(1,8),(0,13),(0,14)] hmixP (by kernel_rfl) (pq rfl (zae (av:= .xi g) rfl (pq rfl (zae (av:= .exact v3_l14) rfl (P_r rfl (zeg (by kernel_rfl) rfl (pq rfl (zby rfl rfl (pq rfl (zae (av:= .xb (decide (g<(List.length e:Int)))) rfl (zix (p:=g<(List.length e:Int)) 32 rfl (λ hc=> ?_) (λ hc=> ?_))))))))))))
          .replace h:=zdb h hc
           refine py rfl (zae (av:= .exact v3_l14) rfl (py rfl (zae (av:= .xi g) rfl (py rfl (zae (av:= .row 2 zak a0) rfl (py rfl (zae (av:= .xi d) rfl ?_)))))))
           obtain⟨n1272,h⟩:=zag h
           refine py rfl (zaj (by kernel_rfl) rfl rfl n1272.1 n1272.2 (py rfl (zke (m:=2) (c':=zak (gi a0 d)) (by kernel_rfl) rfl rfl rfl ?_)))
           obtain⟨n1273,h⟩:=zag h
           refine Py_r rfl rfl rfl (zce (by kernel_rfl) rfl rfl n1273.1 n1273.2 (Py_r rfl rfl rfl (op_load_vecN (i:=g) (o:=0) (m:=2) (c':=zak (gi e g)) (by kernel_rfl) zco rfl n1273.1 n1273.2 rfl rfl ?_)))
           obtain⟨y1274,y,h⟩:=zac h
           refine py rfl (zai (m_ref16_before_ok _ _ _ y) func86 (by kernel_rfl) (lc lf (lc lf ln)) (pq rfl (zat rfl (av:= .xb y1274) rfl (zdu (zab ⟨_,h,so (l4 rfl rfl rfl rfl (lq rfl lt0))⟩)))))
          .replace h:=zdc h hc
           refine pn rfl (pn rfl (pn rfl (pn rfl (pn rfl (pn rfl (P_n zja rfl rfl rfl (P_n zja rfl rfl rfl (pn rfl (pq rfl (zao rfl (av:= .xb false) rfl (zdu (zab ⟨_,h,so (l4 rfl rfl rfl rfl (lq rfl lt0))⟩))))))))))))
         .refine kb (p:=l) rfl h (λ hc h=> ?_) (λ hc h=> ?_)
          .refine zaq (zad (zas (kr (qm (.xi g) rfl (gq (zbx rfl rfl rfl (qa (.xi (i64 (g+1))) rfl (zay (zar (zab ⟨_,h,s4 rfl rfl rfl rfl⟩))))))))))
          .refine zcl (zbo (zbu (zbn (zab ⟨_,h,s4 rfl rfl rfl rfl⟩))))
       .refine zau (zbb h (λ(u:Bool)=>(pt (pt (pt (pt (pt AF0 0 (.row 2 zak a0)) 3 (.exact v3_l14)) 4 (.xi d)) 5 (.xi f)) 59 (.xb u))) (λ(u:Bool)=>[vecT Tryz.prog 24 2 zak v3_l14 e]) (λ k1281 h=> ?_) (λ u h=> ?_))
        .refine zdy [] [(0,0),(0,1),(1,2),(0,3),(0,4),(0,5),(0,6),(0,9),(0,10),(0,11),(0,12),(1,7),(1,8),(0,13),(0,14)] hmixP (by kernel_rfl) (pq rfl (zae (av:= .xi f) rfl (pq rfl (zae (av:= .exact v3_l14) rfl (P_r rfl (zeg (by kernel_rfl) rfl (pq rfl (zby rfl rfl (pq rfl (zae (av:= .xb (decide (f<(List.length e:Int)))) rfl (zix (p:=f<(List.length e:Int)) 49 rfl (λ hc=> ?_) (λ hc=> ?_))))))))))))
         .replace h:=zdb h hc
          refine py rfl (zae (av:= .exact v3_l14) rfl (py rfl (zae (av:= .xi f) rfl (py rfl (zae (av:= .row 2 zak a0) rfl (py rfl (zae (av:= .xi d) rfl ?_)))))))
          obtain⟨n1284,h⟩:=zag h
          refine py rfl (zaj (by kernel_rfl) rfl rfl n1284.1 n1284.2 (py rfl (zke (m:=2) (c':=zak (gi a0 d)) (by kernel_rfl) rfl rfl rfl ?_)))
          obtain⟨n1285,h⟩:=zag h
          refine Py_r rfl rfl rfl (zce (by kernel_rfl) rfl rfl n1285.1 n1285.2 (Py_r rfl rfl rfl (op_load_vecN (i:=f) (o:=0) (m:=2) (c':=zak (gi e f)) (by kernel_rfl) zco rfl n1285.1 n1285.2 rfl rfl (py rfl (op_eqlA (a:=(gi e f)) (b:=(gi a0 d)) (by kernel_rfl) (eq_c_api_Pair _ _) rfl rfl (pq rfl (zat rfl (av:= .xb (decide ((gi e f)=(gi a0 d)))) rfl (zdu (zab ⟨_,h,so (l4 rfl rfl rfl rfl (lq rfl lt0))⟩)))))))))
         .replace h:=zdc h hc
          refine pn rfl (pn rfl (pn rfl (pn rfl (pn rfl (pn rfl (P_n zja rfl rfl rfl (P_n zja rfl rfl rfl (pn rfl (pq rfl (zao rfl (av:= .xb false) rfl (zdu (zab ⟨_,h,so (l4 rfl rfl rfl rfl (lq rfl lt0))⟩))))))))))))
        .refine kb (p:=u) rfl h (λ hc h=> ?_) (λ hc h=> ?_)
         .refine zcl (zbo (zbn (zab ⟨_,v3_l14,h,s3 rfl rfl rfl⟩)))
         .refine zaq (zad (sr (qm (.exact v3_l14) rfl (gq (op_bld (c':=zak (0,0)) CellsAll.nil rfl (lc lf (lc lf ln)) (gq (zcf (n:=2) (enc:=zak) [(0,0)] (CellsAll.cons rfl CellsOf.agg CellsAll.nil) rfl (by kernel_rfl) (LEss.cons (lc lf (lc lf ln)) LEss.nil) ?_)))))))
          obtain⟨n1286,h⟩:=zag h
          refine G_l rfl (zeb (by kernel_rfl) rfl rfl ziq n1286 (λ v1287=>qa (.exact v1287) rfl (gc (zau (zdy [] [(0,0),(0,1),(0,2),(0,4),(0,5),(1,3),(1,6),(2,7)] hmixP (by kernel_rfl) (pq rfl (zae (av:= .exact v1287) rfl (pq rfl (zae (av:= .xi f) rfl (pq rfl (zbx rfl rfl rfl (pq rfl (zae (av:= .exact v1287) rfl (pq rfl (zae (av:= .xi f) rfl ?_)))))))))))))))
          obtain⟨n1288,h⟩:=zag h
          refine P_r rfl (zhr (by kernel_rfl) rfl (zef rfl) zel n1288.1 n1288.2.1 n1288.2.2 ?_)
          obtain⟨n1289,h⟩:=zag h
          refine P_r rfl (zhr (by kernel_rfl) rfl (zef rfl) zel n1289.1 n1289.2.1 n1289.2.2 (P_l rfl (op_copy (q:=(Nat.min (Int.toNat (List.length (e++[(0,0)]):Int) - Int.toNat f) (Int.toNat (List.length (e++[(0,0)]):Int) - Int.toNat (i64 (f+1))))) (by kernel_rfl) (by kernel_rfl) zco ziq rfl rfl (by have hh:=n1288;first|omega|(simp only[i64]at hh;omega)|(simp only[i64]at hh ⊢;omega)) (by have hh:=n1289;first|omega|(simp only[i64]at hh;omega)|(simp only[i64]at hh ⊢;omega)) rfl (zdu (zad (kr (qm (.exact v1287) rfl (qm (.xi f) rfl (qm (.row 2 zak a0) rfl (qm (.xi d) rfl ?_))))))))))
          obtain⟨n1290,h⟩:=zag h
          refine gq (zaj (by kernel_rfl) rfl rfl n1290.1 n1290.2 (gq (zke (m:=2) (c':=zak (gi a0 d)) (by kernel_rfl) rfl rfl rfl ?_)))
          obtain⟨n1291,h⟩:=zag h
          refine G_r rfl (zce (by kernel_rfl) rfl rfl n1291.1 n1291.2 (G_l rfl (zjl (i:=f) (o:=0) (z:=gi a0 d) (c':=[.xi ((gi a0 d).1), .xi ((gi a0 d).2)]) (by kernel_rfl) zco rfl n1291.1 n1291.2 rfl CellsOf.agg (lc lf (lc lf ln)) (ziq _) (by kernel_rfl) (Nat.le_of_ble_eq_true rfl) rfl (zay (zar (zab ⟨_,v1287,h,s3 rfl rfl rfl⟩))))))
    .refine kr (qm (.xi d) rfl (gq (zbx rfl rfl rfl (qa (.xi (i64 (d+1))) rfl (zay (zab ⟨_,_,v3_j1034,h,s3 rfl rfl rfl⟩))))))
   .refine zcl (zbo (zbu (zbn (zab ⟨_,v3_l14,h,s1 rfl⟩))))
 .refine sr (qm (.exact v3_j1) rfl (qa (.exact v3_j1) rfl (gc (zax ?_))))
  obtain rfl:=oi h
  refine ke (pt AF0 2 (.exact v3_j1)) [vecT Tryz.prog 24 2 zak v3_j1 j] rfl (s1 rfl) ⟨v3_j1,rfl,rfl⟩
theorem m_ref16_Relation_fz (a0:List (Int×Int)) (r:(List (Int×Int))) (h:zcu a0=some r):Pure Tryz.prog 52 [(.row 2 zak a0)] (.row 2 zak r):=Pure.ofOwn zco (m_ref16_Relation_ok a0 r h)
theorem m_gen_Choices_Pairs_ok {w0:Nat} (a0:(List Int)×Int) (r:(List (Int×Int))×((List Int)×Int)) (h:zik a0=some r):Fun Tryz.prog 18 [(pA w0 0)] [boxI 50 w0 [.row 1 zbf a0.1, .exact (.int .i64 a0.2)]] (λ a s=>a= .row 2 zak r.1/\s=[boxI 50 w0 [.row 1 zbf r.2.1, .exact (.int .i64 r.2.2)]]):=by
 unfold zik at h
 refine zan func18 rfl ntmps18 (by simp) rfl (res1 rfl) λ E hE=>zca (sr (qa (.exact (.slice none 0 0)) rfl (gd (qa (.exact (.slice none 0 0)) rfl (gc (k_join3_1 h (λ(c:List Int) (d:Int) (e:List (Int×Int)) (v3_j1:Value)=>(pt (pt AF0 0 (pA w0 0)) 3 (.exact v3_j1))) (λ(c:List Int) (d:Int) (e:List (Int×Int)) (v3_j1:Value)=>[boxI 50 w0 [.row 1 zbf c, .xi d],vecT Tryz.prog 24 2 zak v3_j1 e]) (λ k1 h=> ?_) (λ c d e v3_j1 h=> ?_)))))))
 .refine sr (qm (pA w0 0) rfl ?_)
  obtain⟨y16,j,h⟩:=zac h
  refine G_l rfl (zbc (zcp _ _ _ j) func7 (by kernel_rfl) (lc lf (lc lf ln)) (qa (.xi y16.1) rfl (gc (zas (k_loop4_1 (zgb k1) (zhx k1) (λ _ _ _ _=>rfl) (λ m _ _ _ _=>rfl) h (λ(f:List Int) (g:Int) (i:List (Int×Int)) (b:Int) (v3_l2:Value)=>(pt (pt (pt AF0 0 (pA w0 0)) 3 (.exact v3_l2)) 4 (.xi b))) (λ(f:List Int) (g:Int) (i:List (Int×Int)) (b:Int) (v3_l2:Value)=>[boxI 50 w0 [.row 1 zbf f, .xi g],vecT Tryz.prog 24 2 zak v3_l2 i]) (.slice none 0 0) ?_ (λ q f g i b v3_l2 h=> ?_))))))
  .refine Sub.trans (SubU.to (SubU.nilT (P:=Tryz.prog) (t:=24) (n:=2) (enc:=zak))) (Sub.trans (SubU.to SubU.f1) (s3 rfl rfl rfl))
  .unfold zhx at h
   refine zau (sr (qm (.xi b) rfl (gq (zlh rfl rfl (gc (kd (p:=0<b) rfl h (λ hc h=> ?_) (λ hc h=> ?_)))))))
   .refine zaq (zad (zau (zas (kr (qm (.exact v3_l2) rfl (qm (pA w0 0) rfl ?_))))))
    obtain⟨y25,k,h⟩:=zac h
    refine G_l rfl (zbc (zey _ _ k) func8 (by kernel_rfl) (lc lf ln) (qm (pA w0 0) rfl ?_))
    obtain⟨y26,l,h⟩:=zac h
    refine G_l rfl (zbc (zey _ _ l) func8 (by kernel_rfl) (lc lf ln) (gq (op_bld (c':=zak (y25.1,y26.1)) (CellsAll.cons rfl CellsOf.int (CellsAll.cons rfl CellsOf.int CellsAll.nil)) rfl (lc lf (lc lf ln)) (gq (zcf (n:=2) (enc:=zak) [(y25.1,y26.1)] (CellsAll.cons rfl CellsOf.agg CellsAll.nil) rfl (by kernel_rfl) (LEss.cons (lc lf (lc lf ln)) LEss.nil) ?_)))))
    obtain⟨n27,h⟩:=zag h
    refine G_l rfl (opB_f1 (zeb (by kernel_rfl) rfl rfl ziq n27 (λ v28=>qa (.exact v28) rfl (zay (zar (zad (kr (qm (.xi b) rfl (gq (zfo rfl rfl rfl (qa (.xi (i64 (b - 1))) rfl (zay (zab ⟨_,_,_,_,v28,h, ?_⟩)))))))))))))
    refine Sub.trans (SubU.to SubU.f1) (s3 rfl rfl rfl)
   .refine zcl (zbo (zbu (zbn (zab ⟨_,_,_,v3_l2,h,s2 rfl rfl⟩))))
 .refine sr (qm (.exact v3_j1) rfl (G_sub rfl (SubU.trans SubU.f1 (SubU.freezeT2 (s1:=3) (s2:=19) rfl rfl zco)) ?_))
  obtain⟨y29,o,h⟩:=zac h
  refine gq (zai (m_ref16_Relation_fz _ _ o) func52 (by kernel_rfl) (lc lf ln) (qa (.row 2 zak y29) rfl (gc (zax ?_))))
  obtain rfl:=oi h
  refine ke (pt AF0 2 (.row 2 zak y29)) [boxI 50 w0 [.row 1 zbf c, .xi d]] rfl (s1 rfl) ⟨rfl,rfl⟩
theorem m_ref16_PairsValue_ok (a0:List (Int×Int)) (r:(List UInt8)) (h:zec a0=some r):Pure Tryz.prog 31 [(.row 2 zak a0)] (.exact (.string (bs r))):=by
 unfold zec at h
 refine Pure.ofFun (zan func31 rfl ntmps31 (by simp) rfl (res1 rfl) λ E hE=>zca (sr (qa (.xs ([]:List UInt8)) rfl (gd (qa (.exact (.slice none 0 0)) rfl (gc (zdq h ((pt (pt AF0 0 (.row 2 zak a0)) 3 (.exact (.slice none 0 0)))) ([]) (λ k1 h=> ?_) (λ  h=> ?_))))))))
 .refine sr (qa (.xi 0) rfl (gc (zas (zen (zgt a0 k1) (zjd a0 k1) (λ _=>rfl) (λ m _=>rfl) h (λ(b:Int)=>(pt (pt (pt AF0 0 (.row 2 zak a0)) 3 (.exact (.slice none 0 0))) 4 (.xi b))) (λ(b:Int)=>[]) ?_ (λ v b h=> ?_)))))
  .exact s3 rfl rfl rfl
  .unfold zjd at h
   refine zau (sr (qm (.xi b) rfl (qm (.row 2 zak a0) rfl (gq (zaw (by kernel_rfl) rfl (gq (zby rfl rfl (gc (kd (p:=b<(List.length a0:Int)) rfl h (λ hc h=> ?_) (λ hc h=> ?_))))))))))
   .refine zaq (zad (zau (zas (zbb h (λ(e:Bool)=>(pt (pt (pt (pt AF0 0 (.row 2 zak a0)) 3 (.exact (.slice none 0 0))) 4 (.xi b)) 28 (.xb e))) (λ(e:Bool)=>[]) (λ k108 h=> ?_) (λ e h=> ?_)))))
    .refine kr (qm (.row 2 zak a0) rfl (qm (.xi b) rfl ?_))
     obtain⟨n113,h⟩:=zag h
     refine gq (zaj (by kernel_rfl) rfl rfl n113.1 n113.2 (gq (zav (o:=0) (c':=(List.drop 0 (zak (gi a0 b)))) (by kernel_rfl) rfl rfl (gq (zap (a:= .xi ((gi a0 b).1)) (by kernel_rfl) rfl rfl ?_)))))
     obtain⟨y114,i,h⟩:=zac h
     refine gq (zai (zda _ _ i) func71 (by kernel_rfl) (lc lf ln) (gq (zgf rfl (qm (.xb (!y114)) rfl (G_splitB (c:= !y114) 20 rfl (λ hc=> ?_) (λ hc=> ?_))))))
     .replace h:=zdb h hc
      refine gn (gn (gn (gn (gn (gn (gn (gq (zat rfl (av:= .xb true) rfl (zay (zab ⟨_,h,s4 rfl rfl rfl rfl⟩))))))))))
     .replace h:=zdc h hc
      refine gy (zae (av:= .row 2 zak a0) rfl (gy (zae (av:= .xi b) rfl ?_)))
      obtain⟨n115,h⟩:=zag h
      refine gy (zaj (by kernel_rfl) rfl rfl n115.1 n115.2 (gy (zav (o:=1) (c':=(List.drop 1 (zak (gi a0 b)))) (by kernel_rfl) rfl rfl (gy (zap (a:= .xi ((gi a0 b).2)) (by kernel_rfl) rfl rfl ?_)))))
      obtain⟨y116,j,h⟩:=zac h
      refine gy (zai (zda _ _ j) func71 (by kernel_rfl) (lc lf ln) (gy (zgf rfl (gq (zao rfl (av:= .xb (!y116)) rfl (zay (zab ⟨_,h,s4 rfl rfl rfl rfl⟩)))))))
    .refine kb (p:=e) rfl h (λ hc h=> ?_) (λ hc h=> ?_)
     .refine sr (qa (.xs ([]:List UInt8)) rfl (gc (zax (zbe (zaz (zbr (zbe (zbr ?_))))))))
      obtain rfl:=oi h
      refine ke (pt AF0 2 (.xs ([]:List UInt8))) [] rfl (s1 rfl) ⟨rfl,rfl⟩
     .refine zaq (zar (zad (kr (qm (.xi b) rfl (gq (zbx rfl rfl rfl (qa (.xi (i64 (b+1))) rfl (zay (zab ⟨_,h,s3 rfl rfl rfl⟩)))))))))
   .refine zcl (zbo (zbu (zbn (zab ⟨h,s2 rfl rfl⟩))))
 .refine sr (qm (.row 2 zak a0) rfl ?_)
  obtain⟨y117,k,h⟩:=zac h
  refine gq (zai (m_ref16_Relation_fz _ _ k) func52 (by kernel_rfl) (lc lf ln) (qa (.row 2 zak y117) rfl (gc (zdl h (λ(f:List (List UInt8)) (v3_j118:Value)=>(pt AF0 3 (.exact v3_j118))) (λ(f:List (List UInt8)) (v3_j118:Value)=>[vecT Tryz.prog 26 1 zaa v3_j118 f]) (λ k118 h=> ?_) (λ f v3_j118 h=> ?_)))))
  .refine sr (qa (.xi 0) rfl (gc (zas (zei (zfc y117 k118) (ziv y117 k118) (λ _ _=>rfl) (λ m _ _=>rfl) h (λ(g:List (List UInt8)) (d:Int) (v3_l4:Value)=>(pt (pt (pt AF0 3 (.exact v3_l4)) 5 (.row 2 zak y117)) 6 (.xi d))) (λ(g:List (List UInt8)) (d:Int) (v3_l4:Value)=>[vecT Tryz.prog 26 1 zaa v3_l4 g]) (.slice none 0 0) ?_ (λ w g d v3_l4 h=> ?_)))))
   .refine Sub.trans (SubU.to (SubU.nilT (P:=Tryz.prog) (t:=26) (n:=1) (enc:=zaa))) (s3 rfl rfl rfl)
   .unfold ziv at h
    refine zau (sr (qm (.xi d) rfl (qm (.row 2 zak y117) rfl (gq (zaw (by kernel_rfl) rfl (gq (zby rfl rfl (gc (kd (p:=d<(List.length y117:Int)) rfl h (λ hc h=> ?_) (λ hc h=> ?_))))))))))
    .refine zaq (zad (zau (zas (zdy [] [(0,0),(0,1),(0,2),(0,3),(0,4),(0,5),(0,6),(0,7),(0,8),(0,9),(0,10),(0,11),(0,12),(0,13),(0,14),(0,15),(2,16),(0,17)] hmixP (by kernel_rfl) (pq rfl (zae (av:= .exact v3_l4) rfl (pq rfl (zae (av:= .row 2 zak y117) rfl (pq rfl (zae (av:= .xi d) rfl ?_))))))))))
     obtain⟨n155,h⟩:=zag h
     refine pq rfl (zaj (by kernel_rfl) rfl rfl n155.1 n155.2 (pq rfl (zav (o:=0) (c':=(List.drop 0 (zak (gi y117 d)))) (by kernel_rfl) rfl rfl (pq rfl (zap (a:= .xi ((gi y117 d).1)) (by kernel_rfl) rfl rfl ?_)))))
     obtain⟨y156,l,h⟩:=zac h
     refine pq rfl (zai (zhb _ _ l) func22 (by kernel_rfl) (lc lf ln) (pq rfl (zae (av:= .row 2 zak y117) rfl (pq rfl (zae (av:= .xi d) rfl ?_)))))
     obtain⟨n157,h⟩:=zag h
     refine pq rfl (zaj (by kernel_rfl) rfl rfl n157.1 n157.2 (pq rfl (zav (o:=1) (c':=(List.drop 1 (zak (gi y117 d)))) (by kernel_rfl) rfl rfl (pq rfl (zap (a:= .xi ((gi y117 d).2)) (by kernel_rfl) rfl rfl ?_)))))
     obtain⟨y158,q,h⟩:=zac h
     refine pq rfl (zai (zhb _ _ q) func22 (by kernel_rfl) (lc lf ln) (pq rfl (zcf (n:=1) (enc:=zaa) [y156,y158] (CellsAll.cons rfl CellsOf.str (CellsAll.cons rfl CellsOf.str CellsAll.nil)) rfl (by kernel_rfl) (LEss.cons (lc lf ln) (LEss.cons (lc lf ln) LEss.nil)) ?_)))
     obtain⟨y159,s,h⟩:=zac h
     refine pq rfl (zai (m_ref9_Make_ok _ _ _ s) func75 (by kernel_rfl) (lc lf (lc lf ln)) (pq rfl (zcf (n:=1) (enc:=zaa) [y159] (CellsAll.cons rfl CellsOf.str CellsAll.nil) rfl (by kernel_rfl) (LEss.cons (lc lf ln) LEss.nil) ?_)))
     obtain⟨n160,h⟩:=zag h
     refine P_l rfl (zeb (by kernel_rfl) rfl rfl zcr n160 (λ v161=>pq rfl (zba (av:= .exact v161) rfl (zdu (zar (zad (kr (qm (.xi d) rfl (gq (zbx rfl rfl rfl (qa (.xi (i64 (d+1))) rfl (zay (zab ⟨_,_,v161,h,s3 rfl rfl rfl⟩)))))))))))))
    .refine zcl (zbo (zbu (zbn (zab ⟨_,v3_l4,h,s1 rfl⟩))))
  .refine sr (qm (.exact v3_j118) rfl (G_sub rfl (SubU.freezeT2 (s1:=3) (s2:=54) rfl rfl zbd) ?_))
   obtain⟨y162,u,h⟩:=zac h
   refine gq (zai (m_ref9_Set_ok _ _ u) func74 (by kernel_rfl) (lc lf ln) (qa (.xs y162) rfl (gc (zax ?_))))
   obtain rfl:=oi h
   refine ke (pt AF0 2 (.xs y162)) [] rfl (s1 rfl) ⟨rfl,rfl⟩
end

end Go.Proofs.YtloigebekdkijaaGreat
