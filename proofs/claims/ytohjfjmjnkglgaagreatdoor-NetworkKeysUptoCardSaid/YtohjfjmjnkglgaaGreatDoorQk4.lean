/- Parts, merged. -/
import Derived.Test.YtohjfjmjnkglgaaGreatDoorQk3
import Derived.Test.YtohjfjmjnkglgaaGreatDoorQk1
import Derived.Test.YtohjfjmjnkglgaaGreatDoorQk0
namespace Go.Proofs.YtohjfjmjnkglgaaGreatDoor
open _root_.Go.Proofs.Tryz
noncomputable section
open Go.RowKit
abbrev zav (x:Int):List AV:=[.exact (.int .i64 x)]
theorem zdf (x:Int):(zav x).length=1:=rfl
theorem oc_c_int (x:Int):OneC (zav x):=(OneC.int OneC.nil)
abbrev c_cspcheckgen_Choices (x:(List Int)×Int):List AV:=[.row 1 zav x.1, .exact (.int .i64 x.2)]
abbrev c_string (x:List UInt8):List AV:=[.exact (.string (bs x))]
abbrev zbh (x:Int×Int×Int×Int×(Int×Int)):List AV:=[.exact (.int .i64 x.1), .exact (.int .i64 x.2.1), .exact (.int .i64 x.2.2.1), .exact (.int .i64 x.2.2.2.1), .exact (.int .i64 x.2.2.2.2.1), .exact (.int .i64 x.2.2.2.2.2)]
abbrev zab (x:List UInt8):List AV:=[.exact (.string (bs x))]
theorem zbt (x:List UInt8):(zab x).length=1:=rfl
theorem zco (x:List UInt8):OneC (zab x):=(OneC.str OneC.nil)
abbrev zbs (x:(List UInt8)×Int×(List Int)×(List (List UInt8))):List AV:=[.exact (.string (bs x.1)), .exact (.int .i64 x.2.1), .row 1 zav x.2.2.1, .row 1 zab x.2.2.2]
theorem len_c_api_Info (x:(List UInt8)×Int×(List Int)×(List (List UInt8))):(zbs x).length=4:=rfl
theorem oc_c_api_Info (x:(List UInt8)×Int×(List Int)×(List (List UInt8))):OneC (zbs x):=(OneC.str (OneC.int (OneC.row (OneC.row OneC.nil))))
abbrev c_uint8 (x:UInt8):List AV:=[.exact (.int .u8 (UInt8.toNat x:Int))]
theorem len_c_uint8 (x:UInt8):(c_uint8 x).length=1:=rfl
abbrev zeq (x:Int×Int×Int):List AV:=[.exact (.int .i64 x.1), .exact (.int .i64 x.2.1), .exact (.int .i64 x.2.2)]
theorem len_c_api_Code (x:Int×Int×Int):(zeq x).length=3:=rfl
theorem oc_c_api_Code (x:Int×Int×Int):OneC (zeq x):=(OneC.int (OneC.int (OneC.int OneC.nil)))
abbrev c_L_api_Code (x:List (Int×Int×Int)):List AV:=[.row 3 zeq x]
abbrev zbu (x:(List UInt8)×Int×Bool×(Int×Int)×(List (Int×Int×Int))):List AV:=[.exact (.string (bs x.1)), .exact (.int .i64 x.2.1), .exact (.bool x.2.2.1), .exact (.int .i64 x.2.2.2.1.1), .exact (.int .i64 x.2.2.2.1.2), .row 3 zeq x.2.2.2.2]
theorem len_c_api_Func (x:(List UInt8)×Int×Bool×(Int×Int)×(List (Int×Int×Int))):(zbu x).length=6:=rfl
theorem oc_c_api_Func (x:(List UInt8)×Int×Bool×(Int×Int)×(List (Int×Int×Int))):OneC (zbu x):=(OneC.str (OneC.int (OneC.bool (OneC.int (OneC.int (OneC.row OneC.nil))))))
abbrev zcw (x:(List ((List UInt8)×Int×Bool×(Int×Int)×(List (Int×Int×Int))))×(List ((List UInt8)×Int×(List Int)×(List (List UInt8))))×(List (Int×Int×Int×Int×(Int×Int)))×(List (List UInt8))):List AV:=[.row 6 zbu x.1, .row 4 zbs x.2.1, .row 6 zbh x.2.2.1, .row 1 zab x.2.2.2]
theorem oc_c_api_Core (x:(List ((List UInt8)×Int×Bool×(Int×Int)×(List (Int×Int×Int))))×(List ((List UInt8)×Int×(List Int)×(List (List UInt8))))×(List (Int×Int×Int×Int×(Int×Int)))×(List (List UInt8))):OneC (zcw x):=(OneC.row (OneC.row (OneC.row (OneC.row OneC.nil))))
abbrev zbg (x:Int×(List UInt8)):List AV:=[.exact (.int .i64 x.1), .exact (.string (bs x.2))]
theorem zez (x:Int×(List UInt8)):(zbg x).length=2:=rfl
theorem oc_c_api_Offer (x:Int×(List UInt8)):OneC (zbg x):=(OneC.int (OneC.str OneC.nil))
abbrev zas (x:(List UInt8)×(List UInt8)×(List Int)×Bool):List AV:=[.exact (.string (bs x.1)), .exact (.string (bs x.2.1)), .row 1 zav x.2.2.1, .exact (.bool x.2.2.2)]
theorem len_c_cspcheckref21_place (x:(List UInt8)×(List UInt8)×(List Int)×Bool):(zas x).length=4:=rfl
theorem oc_c_cspcheckref21_place (x:(List UInt8)×(List UInt8)×(List Int)×Bool):OneC (zas x):=(OneC.str (OneC.str (OneC.row (OneC.bool OneC.nil))))
abbrev zag (x:Int×(List UInt8)):List AV:=[.exact (.int .i64 x.1), .exact (.string (bs x.2))]
theorem zgf (x:Int×(List UInt8)):(zag x).length=2:=rfl
theorem zfi (x:Int×(List UInt8)):OneC (zag x):=(OneC.int (OneC.str OneC.nil))
abbrev zhz (x:Int×Int):List AV:=[.exact (.int .i64 x.1), .exact (.int .i64 x.2)]
abbrev zgv (x:Int×Int):List AV:=[.exact (.int .i64 x.1), .exact (.int .i64 x.2)]
abbrev zbp (x:Int×Int):List AV:=[.exact (.int .i64 x.1), .exact (.int .i64 x.2)]
theorem len_c_api_Arc (x:Int×Int):(zbp x).length=2:=rfl
theorem oc_c_api_Arc (x:Int×Int):OneC (zbp x):=(OneC.int (OneC.int OneC.nil))
abbrev zby (x:List (Int×Int)):List AV:=[.row 2 zbp x]
theorem len_c_L_api_Arc (x:List (Int×Int)):(zby x).length=1:=rfl
theorem oc_c_L_api_Arc (x:List (Int×Int)):OneC (zby x):=(OneC.row OneC.nil)
abbrev zef (x:(List (List (Int×Int)))):List AV:=[.row 1 zby x]
theorem oc_c_api_LTS (x:(List (List (Int×Int)))):OneC (zef x):=(OneC.row OneC.nil)
abbrev zbd (x:(List (List (Int×Int)))×(List (List UInt8))):List AV:=[.row 1 zby x.1, .row 1 zab x.2]
theorem len_c_api_Component (x:(List (List (Int×Int)))×(List (List UInt8))):(zbd x).length=2:=rfl
theorem oc_c_api_Component (x:(List (List (Int×Int)))×(List (List UInt8))):OneC (zbd x):=(OneC.row (OneC.row OneC.nil))
abbrev zdz (x:List Int):List AV:=[.row 1 zav x]
theorem len_c_L_int (x:List Int):(zdz x).length=1:=rfl
theorem oc_c_L_int (x:List Int):OneC (zdz x):=(OneC.row OneC.nil)
abbrev zdk (x:Bool):List AV:=[.exact (.bool x)]
theorem len_c_bool (x:Bool):(zdk x).length=1:=rfl
abbrev zac (x:(List Int)×Int×(List UInt8)):List AV:=[.row 1 zav x.1, .exact (.int .i64 x.2.1), .exact (.string (bs x.2.2))]
theorem zda (x:(List Int)×Int×(List UInt8)):(zac x).length=3:=rfl
theorem zcx (x:(List Int)×Int×(List UInt8)):OneC (zac x):=(OneC.row (OneC.int (OneC.str OneC.nil)))
abbrev zay (x:(List Int)×Int×Int):List AV:=[.row 1 zav x.1, .exact (.int .i64 x.2.1), .exact (.int .i64 x.2.2)]
theorem zhj (x:(List Int)×Int×Int):(zay x).length=3:=rfl
theorem oc_c_api_Rule (x:(List Int)×Int×Int):OneC (zay x):=(OneC.row (OneC.int (OneC.int OneC.nil)))
abbrev zaw (x:(List UInt8)×(List Bool)×(List ((List Int)×Int×Int))):List AV:=[.exact (.string (bs x.1)), .row 1 zdk x.2.1, .row 3 zay x.2.2]
theorem len_c_api_Format (x:(List UInt8)×(List Bool)×(List ((List Int)×Int×Int))):(zaw x).length=3:=rfl
theorem oc_c_api_Format (x:(List UInt8)×(List Bool)×(List ((List Int)×Int×Int))):OneC (zaw x):=(OneC.str (OneC.row (OneC.row OneC.nil)))
abbrev zbb (x:(List ((List (List (Int×Int)))×(List (List UInt8))))×(List ((List UInt8)×(List Bool)×(List ((List Int)×Int×Int))))):List AV:=[.row 2 zbd x.1, .row 3 zaw x.2]
theorem oc_c_api_Machine (x:(List ((List (List (Int×Int)))×(List (List UInt8))))×(List ((List UInt8)×(List Bool)×(List ((List Int)×Int×Int))))):OneC (zbb x):=(OneC.row (OneC.row OneC.nil))
abbrev zbv (x:Int×Int×Int):List AV:=[.exact (.int .i64 x.1), .exact (.int .i64 x.2.1), .exact (.int .i64 x.2.2)]
theorem len_c_api_Move (x:Int×Int×Int):(zbv x).length=3:=rfl
theorem oc_c_api_Move (x:Int×Int×Int):OneC (zbv x):=(OneC.int (OneC.int (OneC.int OneC.nil)))
abbrev zce (x:List (Int×Int×Int)):List AV:=[.row 3 zbv x]
theorem len_c_L_api_Move (x:List (Int×Int×Int)):(zce x).length=1:=rfl
theorem oc_c_L_api_Move (x:List (Int×Int×Int)):OneC (zce x):=(OneC.row OneC.nil)
abbrev zbe (x:Int×(List Int)×(List (Int×Int×Int))):List AV:=[.exact (.int .i64 x.1), .row 1 zav x.2.1, .row 3 zbv x.2.2]
theorem zex (x:Int×(List Int)×(List (Int×Int×Int))):(zbe x).length=3:=rfl
theorem oc_c_api_Step (x:Int×(List Int)×(List (Int×Int×Int))):OneC (zbe x):=(OneC.int (OneC.row (OneC.row OneC.nil)))
theorem heq_c_api_Arc (x0 x1 y0 y1:Int) (w:World):(Op.equal 128 (.agg #[.int .i64 x0, .int .i64 x1]) (.agg #[.int .i64 y0, .int .i64 y1])).run Tryz.prog w= .ok (decide (x0=y0/\x1=y1)) w:=by
  have s0:(sizeOf 3).run Tryz.prog w= .ok 1 w:=by kernel_rfl
  have s1:(sizeOf 3).run Tryz.prog w= .ok 1 w:=by kernel_rfl
  have e0: ∀a b:Int,(Op.equalIn 9999 3 (.int .i64 a) (.int .i64 b)).run Tryz.prog w= .ok (a ==b) w:=λ a b=>run_equalIn_int w 9998 3 .i64 .i64 a b underlying3
  have e1: ∀a b:Int,(Op.equalIn 9999 3 (.int .i64 a) (.int .i64 b)).run Tryz.prog w= .ok (a ==b) w:=λ a b=>run_equalIn_int w 9998 3 .i64 .i64 a b underlying3
  rw[Op.equal,Op.maxDepth,show(10000:Nat)=9999+1 from rfl]
  rw[show Op.equalIn (9999+1) 128 (.agg #[.int .i64 x0, .int .i64 x1]) (.agg #[.int .i64 y0, .int .i64 y1])=_ from by rw[Op.equalIn]]
  simp only[Sem.run_bind,run_underlying underlying128,Result.andThen_ok,s0,s1]
  have p0: ∀(a b:Int) (w:World),(part 3 #[.int .i64 a, .int .i64 b] 0).run Tryz.prog w= .ok (.int .i64 a) w:=λ a b w=>run_part1 (by kernel_rfl) rfl
  have p1: ∀(a b:Int) (w:World),(part 3 #[.int .i64 a, .int .i64 b] 1).run Tryz.prog w= .ok (.int .i64 b) w:=λ a b w=>run_part1 (by kernel_rfl) rfl
  simp[p0,p1,e0,e1]
  by_cases h1:x0=y0 <;>by_cases h2:x1=y1 <;>simp[h1,h2]
theorem eq_c_api_Arc (a b:Int×Int) {M:BSet} {w:World} {vs us:List Value} (h1:Fit M w (zbp a) vs) (h2:Fit M w (zbp b) us):(Op.equal 128 (.agg vs.toArray) (.agg us.toArray)).run Tryz.prog w= .ok (decide (a=b)) w:=eq_pair heq_c_api_Arc a b h1 h2
theorem heq_c_api_Offer (x0 y0:Int) (x1 y1:List UInt8) (w:World):(Op.equal 108 (.agg #[.int .i64 x0, .string (bs x1)]) (.agg #[.int .i64 y0, .string (bs y1)])).run Tryz.prog w= .ok (decide (x0=y0/\x1=y1)) w:=by
  have s0:(sizeOf 3).run Tryz.prog w= .ok 1 w:=by kernel_rfl
  have s1:(sizeOf 42).run Tryz.prog w= .ok 1 w:=by kernel_rfl
  have e0: ∀a b:Int,(Op.equalIn 9999 3 (.int .i64 a) (.int .i64 b)).run Tryz.prog w= .ok (a ==b) w:=λ a b=>run_equalIn_int w 9998 3 .i64 .i64 a b underlying3
  have e1: ∀a b:List UInt8,(Op.equalIn 9999 42 (.string (bs a)) (.string (bs b))).run Tryz.prog w= .ok (a ==b) w:=λ a b=>by
    rw[run_equalIn_string w 9998 42 (bs a) (bs b) underlying42,bs_toList,bs_toList]
  rw[Op.equal,Op.maxDepth,show(10000:Nat)=9999+1 from rfl]
  rw[show Op.equalIn (9999+1) 108 (.agg #[.int .i64 x0, .string (bs x1)]) (.agg #[.int .i64 y0, .string (bs y1)])=_ from by rw[Op.equalIn]]
  simp only[Sem.run_bind,run_underlying underlying108,Result.andThen_ok,s0,s1]
  have p0: ∀(a:Int) (b:List UInt8) (w:World),(part 3 #[.int .i64 a, .string (bs b)] 0).run Tryz.prog w= .ok (.int .i64 a) w:=λ a b w=>run_part1 (by kernel_rfl) rfl
  have p1: ∀(a:Int) (b:List UInt8) (w:World),(part 42 #[.int .i64 a, .string (bs b)] 1).run Tryz.prog w= .ok (.string (bs b)) w:=λ a b w=>run_part1 (by kernel_rfl) rfl
  simp[p0,p1,e0,e1]
  by_cases h1:x0=y0 <;>by_cases h2:x1=y1 <;>simp[h1,h2]
theorem eq_c_api_Offer (a b:Int×List UInt8) {M:BSet} {w:World} {vs us:List Value} (h1:Fit M w (zbg a) vs) (h2:Fit M w (zbg b) us):(Op.equal 108 (.agg vs.toArray) (.agg us.toArray)).run Tryz.prog w= .ok (decide (a=b)) w:=by
  match vs,h1 with
  |[u0,u1],⟨g0,g1,_⟩=>
    match us,h2 with
    |[v0,v1],⟨k0,k1,_⟩=>
      obtain rfl:u0=_:=g0
      obtain rfl:u1=_:=g1
      obtain rfl:v0=_:=k0
      obtain rfl:v1=_:=k1
      show(Op.equal 108 (.agg #[.int .i64 a.1, .string (bs a.2)]) (.agg #[.int .i64 b.1, .string (bs b.2)])).run Tryz.prog w=_
      rw[heq_c_api_Offer]
      congr 1
      simp[Prod.ext_iff]
theorem heq_c_api_Branch (x0 y0:Int) (x1 y1:List UInt8) (w:World):(Op.equal 126 (.agg #[.int .i64 x0, .string (bs x1)]) (.agg #[.int .i64 y0, .string (bs y1)])).run Tryz.prog w= .ok (decide (x0=y0/\x1=y1)) w:=by
  have s0:(sizeOf 3).run Tryz.prog w= .ok 1 w:=by kernel_rfl
  have s1:(sizeOf 42).run Tryz.prog w= .ok 1 w:=by kernel_rfl
  have e0: ∀a b:Int,(Op.equalIn 9999 3 (.int .i64 a) (.int .i64 b)).run Tryz.prog w= .ok (a ==b) w:=λ a b=>run_equalIn_int w 9998 3 .i64 .i64 a b underlying3
  have e1: ∀a b:List UInt8,(Op.equalIn 9999 42 (.string (bs a)) (.string (bs b))).run Tryz.prog w= .ok (a ==b) w:=λ a b=>by
    rw[run_equalIn_string w 9998 42 (bs a) (bs b) underlying42,bs_toList,bs_toList]
  rw[Op.equal,Op.maxDepth,show(10000:Nat)=9999+1 from rfl]
  rw[show Op.equalIn (9999+1) 126 (.agg #[.int .i64 x0, .string (bs x1)]) (.agg #[.int .i64 y0, .string (bs y1)])=_ from by rw[Op.equalIn]]
  simp only[Sem.run_bind,run_underlying underlying126,Result.andThen_ok,s0,s1]
  have p0: ∀(a:Int) (b:List UInt8) (w:World),(part 3 #[.int .i64 a, .string (bs b)] 0).run Tryz.prog w= .ok (.int .i64 a) w:=λ a b w=>run_part1 (by kernel_rfl) rfl
  have p1: ∀(a:Int) (b:List UInt8) (w:World),(part 42 #[.int .i64 a, .string (bs b)] 1).run Tryz.prog w= .ok (.string (bs b)) w:=λ a b w=>run_part1 (by kernel_rfl) rfl
  simp[p0,p1,e0,e1]
  by_cases h1:x0=y0 <;>by_cases h2:x1=y1 <;>simp[h1,h2]
theorem eq_c_api_Branch (a b:Int×List UInt8) {M:BSet} {w:World} {vs us:List Value} (h1:Fit M w (zag a) vs) (h2:Fit M w (zag b) us):(Op.equal 126 (.agg vs.toArray) (.agg us.toArray)).run Tryz.prog w= .ok (decide (a=b)) w:=by
  match vs,h1 with
  |[u0,u1],⟨g0,g1,_⟩=>
    match us,h2 with
    |[v0,v1],⟨k0,k1,_⟩=>
      obtain rfl:u0=_:=g0
      obtain rfl:u1=_:=g1
      obtain rfl:v0=_:=k0
      obtain rfl:v1=_:=k1
      show(Op.equal 126 (.agg #[.int .i64 a.1, .string (bs a.2)]) (.agg #[.int .i64 b.1, .string (bs b.2)])).run Tryz.prog w=_
      rw[heq_c_api_Branch]
      congr 1
      simp[Prod.ext_iff]
end
noncomputable section
open Go.RowKit Go.Sort
set_option maxRecDepth 100000
def lay0_ren:Go.Shelf.Ren:=⟨λ|5=>173|7=>220|8=>114|10=>246|11=>247|12=>248|13=>249|14=>250|15=>251|16=>252|17=>253|18=>254|19=>163|20=>164|30=>274|31=>201|32=>202|33=>275|34=>276|35=>165|40=>306|n=>n,λ|0=>0|3=>3|4=>4|5=>5|9=>9|22=>22|23=>22|25=>3|32=>174|35=>234|36=>235|41=>124|44=>241|46=>210|53=>274|57=>244|63=>302|64=>303|n=>n,λ n=>n⟩
theorem lay0:Go.Proofs.SlLaysM.n5 Tryz.prog lay0_ren where
  mixed:=by kernel_rfl
  f5:=⟨Tryz.f173.name,by kernel_rfl,func173.trans (congrArg some (by kernel_rfl))⟩
  f7:=⟨Tryz.f220.name,by kernel_rfl,func220.trans (congrArg some (by kernel_rfl))⟩
  f8:=func114.trans (congrArg some (by kernel_rfl))
  f10:=⟨Tryz.f246.name,by kernel_rfl,func246.trans (congrArg some (by kernel_rfl))⟩
  f11:=⟨Tryz.f247.name,by kernel_rfl,func247.trans (congrArg some (by kernel_rfl))⟩
  f12:=⟨Tryz.f248.name,by kernel_rfl,func248.trans (congrArg some (by kernel_rfl))⟩
  f13:=⟨Tryz.f249.name,by kernel_rfl,func249.trans (congrArg some (by kernel_rfl))⟩
  f14:=⟨Tryz.f250.name,by kernel_rfl,func250.trans (congrArg some (by kernel_rfl))⟩
  f15:=⟨Tryz.f251.name,by kernel_rfl,func251.trans (congrArg some (by kernel_rfl))⟩
  f16:=⟨Tryz.f252.name,by kernel_rfl,func252.trans (congrArg some (by kernel_rfl))⟩
  f17:=⟨Tryz.f253.name,by kernel_rfl,func253.trans (congrArg some (by kernel_rfl))⟩
  f18:=⟨Tryz.f254.name,by kernel_rfl,func254.trans (congrArg some (by kernel_rfl))⟩
  f19:=func163.trans (congrArg some (by kernel_rfl))
  f20:=func164.trans (congrArg some (by kernel_rfl))
  f30:=⟨Tryz.f274.name,by kernel_rfl,func274.trans (congrArg some (by kernel_rfl))⟩
  f31:=func201.trans (congrArg some (by kernel_rfl))
  f32:=func202.trans (congrArg some (by kernel_rfl))
  f33:=⟨Tryz.f275.name,by kernel_rfl,func275.trans (congrArg some (by kernel_rfl))⟩
  f34:=⟨Tryz.f276.name,by kernel_rfl,func276.trans (congrArg some (by kernel_rfl))⟩
  f35:=⟨Tryz.f165.name,by kernel_rfl,func165.trans (congrArg some (by kernel_rfl))⟩
  f40:=⟨Tryz.f306.name,by kernel_rfl,func306.trans (congrArg some (by kernel_rfl))⟩
  t0:=underlying0
  a0:=Tryz.isAgg0
  z0:=Tryz.sizeOf0
  v0:=zeroValue0
  t3:=underlying3
  a3:=Tryz.isAgg3
  z3:=Tryz.sizeOf3
  v3:=zeroValue3
  t4:=underlying4
  a4:=Tryz.isAgg4
  z4:=Tryz.sizeOf4
  v4:=zeroValue4
  t5:=underlying5
  a5:=Tryz.isAgg5
  z5:=Tryz.sizeOf5
  v5:=zeroValue5
  t9:=underlying9
  a9:=Tryz.isAgg9
  z9:=Tryz.sizeOf9
  v9:=zeroValue9
  t22:=underlying22
  a22:=Tryz.isAgg22
  z22:=Tryz.sizeOf22
  v22:=zeroValue22
  t23:=underlying22
  a23:=Tryz.isAgg22
  z23:=Tryz.sizeOf22
  v23:=zeroValue22
  t25:=underlying3
  a25:=Tryz.isAgg3
  z25:=Tryz.sizeOf3
  v25:=zeroValue3
  t32:=underlying174
  a32:=Tryz.isAgg174
  z32:=Tryz.sizeOf174
  v32:=zeroValue174
  t35:=underlying234
  a35:=Tryz.isAgg234
  z35:=Tryz.sizeOf234
  v35:=zeroValue234
  t36:=underlying235
  a36:=Tryz.isAgg235
  z36:=Tryz.sizeOf235
  v36:=zeroValue235
  t41:=underlying124
  a41:=Tryz.isAgg124
  z41:=Tryz.sizeOf124
  v41:=zeroValue124
  t44:=underlying241
  a44:=Tryz.isAgg241
  z44:=Tryz.sizeOf241
  v44:=zeroValue241
  t46:=underlying210
  a46:=Tryz.isAgg210
  z46:=Tryz.sizeOf210
  v46:=zeroValue210
  t53:=underlying274
  a53:=Tryz.isAgg274
  z53:=Tryz.sizeOf274
  v53:=zeroValue274
  t57:=underlying244
  a57:=Tryz.isAgg244
  z57:=Tryz.sizeOf244
  v57:=zeroValue244
  t63:=underlying302
  a63:=Tryz.isAgg302
  z63:=Tryz.sizeOf302
  v63:=zeroValue302
  t64:=underlying303
  a64:=Tryz.isAgg303
  z64:=Tryz.sizeOf303
  v64:=zeroValue303
theorem m_sort_int_ok {w0:Value} (a0 r:List Int) (h:m_sortI a0=some r):Fun Tryz.prog 173 [.exact w0] [vecT Tryz.prog 22 1 zav w0 a0] (λ a s=>a= .tup []/\s=[vecT Tryz.prog 22 1 zav w0 r]):=m_sortI_ok lay0 (λ _=>rfl) 22 a0 r h
def lay1_ren:Go.Shelf.Ren:=⟨λ|6=>74|14=>113|15=>114|20=>155|21=>156|22=>157|23=>158|24=>159|25=>160|26=>161|27=>162|28=>163|29=>164|46=>200|47=>201|48=>202|49=>203|50=>204|57=>235|n=>n,λ|0=>0|3=>3|4=>4|5=>5|9=>9|22=>45|24=>50|25=>153|39=>174|45=>234|46=>235|50=>124|53=>241|55=>210|66=>274|70=>244|76=>302|77=>303|n=>n,λ n=>n⟩
theorem lay1:Go.Proofs.SlLaysF0.n6 Tryz.prog lay1_ren where
  mixed:=by kernel_rfl
  f6:=⟨Tryz.f74.name,by kernel_rfl,func74.trans (congrArg some (by kernel_rfl))⟩
  f14:=⟨Tryz.f113.name,by kernel_rfl,func113.trans (congrArg some (by kernel_rfl))⟩
  f15:=func114.trans (congrArg some (by kernel_rfl))
  f20:=⟨Tryz.f155.name,by kernel_rfl,func155.trans (congrArg some (by kernel_rfl))⟩
  f21:=⟨Tryz.f156.name,by kernel_rfl,func156.trans (congrArg some (by kernel_rfl))⟩
  f22:=⟨Tryz.f157.name,by kernel_rfl,func157.trans (congrArg some (by kernel_rfl))⟩
  f23:=⟨Tryz.f158.name,by kernel_rfl,func158.trans (congrArg some (by kernel_rfl))⟩
  f24:=⟨Tryz.f159.name,by kernel_rfl,func159.trans (congrArg some (by kernel_rfl))⟩
  f25:=⟨Tryz.f160.name,by kernel_rfl,func160.trans (congrArg some (by kernel_rfl))⟩
  f26:=⟨Tryz.f161.name,by kernel_rfl,func161.trans (congrArg some (by kernel_rfl))⟩
  f27:=⟨Tryz.f162.name,by kernel_rfl,func162.trans (congrArg some (by kernel_rfl))⟩
  f28:=func163.trans (congrArg some (by kernel_rfl))
  f29:=func164.trans (congrArg some (by kernel_rfl))
  f46:=⟨Tryz.f200.name,by kernel_rfl,func200.trans (congrArg some (by kernel_rfl))⟩
  f47:=func201.trans (congrArg some (by kernel_rfl))
  f48:=func202.trans (congrArg some (by kernel_rfl))
  f49:=⟨Tryz.f203.name,by kernel_rfl,func203.trans (congrArg some (by kernel_rfl))⟩
  f50:=⟨Tryz.f204.name,by kernel_rfl,func204.trans (congrArg some (by kernel_rfl))⟩
  f57:=⟨Tryz.f235.name,by kernel_rfl,func235.trans (congrArg some (by kernel_rfl))⟩
  t0:=underlying0
  a0:=Tryz.isAgg0
  z0:=Tryz.sizeOf0
  v0:=zeroValue0
  t3:=underlying3
  a3:=Tryz.isAgg3
  z3:=Tryz.sizeOf3
  v3:=zeroValue3
  t4:=underlying4
  a4:=Tryz.isAgg4
  z4:=Tryz.sizeOf4
  v4:=zeroValue4
  t5:=underlying5
  a5:=Tryz.isAgg5
  z5:=Tryz.sizeOf5
  v5:=zeroValue5
  t9:=underlying9
  a9:=Tryz.isAgg9
  z9:=Tryz.sizeOf9
  v9:=zeroValue9
  t22:=underlying45
  a22:=Tryz.isAgg45
  z22:=Tryz.sizeOf45
  v22:=zeroValue45
  t25:=underlying153
  a25:=Tryz.isAgg153
  z25:=Tryz.sizeOf153
  v25:=zeroValue153
  t39:=underlying174
  a39:=Tryz.isAgg174
  z39:=Tryz.sizeOf174
  v39:=zeroValue174
  t45:=underlying234
  a45:=Tryz.isAgg234
  z45:=Tryz.sizeOf234
  v45:=zeroValue234
  t46:=underlying235
  a46:=Tryz.isAgg235
  z46:=Tryz.sizeOf235
  v46:=zeroValue235
  t50:=underlying124
  a50:=Tryz.isAgg124
  z50:=Tryz.sizeOf124
  v50:=zeroValue124
  t53:=underlying241
  a53:=Tryz.isAgg241
  z53:=Tryz.sizeOf241
  v53:=zeroValue241
  t55:=underlying210
  a55:=Tryz.isAgg210
  z55:=Tryz.sizeOf210
  v55:=zeroValue210
  t66:=underlying274
  a66:=Tryz.isAgg274
  z66:=Tryz.sizeOf274
  v66:=zeroValue274
  t70:=underlying244
  a70:=Tryz.isAgg244
  z70:=Tryz.sizeOf244
  v70:=zeroValue244
  t76:=underlying302
  a76:=Tryz.isAgg302
  z76:=Tryz.sizeOf302
  v76:=zeroValue302
  t77:=underlying303
  a77:=Tryz.isAgg303
  z77:=Tryz.sizeOf303
  v77:=zeroValue303
theorem m_sort_api_Step_ok (hc: ∀(x y:Int×(List Int)×(List (Int×Int×Int))) (r:Int),zdj x y=some r->Pure Tryz.prog 75 [(.agg (zbe x)),(.agg (zbe y))] (.exact (.int .i64 r))) {w0:Value} (a0 r:List (Int×(List Int)×(List (Int×Int×Int)))) (h:m_sortR zdj a0=some r):Fun Tryz.prog 74 [.exact w0, .exact (.func (.func 75) #[] #[])] [vecT Tryz.prog 45 3 zbe w0 a0] (λ a s=>a= .tup []/\s=[vecT Tryz.prog 45 3 zbe w0 r]):=
  m_sortR_ok lay1 Tryz.isAgg50 Tryz.sizeOf50 zex oc_c_api_Step 75 (λ args w=>by exact enters_of func75 (by kernel_rfl) rfl args w) 45 hc a0 r h
end
noncomputable section
open Go.RowKit
theorem m_sortE_ok {w0:Value} (a0 r:List Int) (h:m_sortE a0=some r):Fun Tryz.prog 173 [.exact w0] [vecT Tryz.prog 22 1 zav w0 a0] (λ a s=>a= .tup []/\s=[vecT Tryz.prog 22 1 zav w0 r]):=m_sort_int_ok a0 r ((m_sortE_I a0).symm.trans h)
end
noncomputable section
open Go.RowKit
attribute [local irreducible] AV.exact AV.top AV.row AV.ptr AV.agg AV.tup AV.eptr AV.fn AV.nilq AV.nilqn opA opB opM opR Quiet Loud Reads wpG awp den Sub SubU Pure Fun vecI vecT boxI CellsAll CellsOf OneC LEs LEss
set_option maxRecDepth 100000
section
variable {P:Program} {ops:Array Oper} {E:Env} {n:Nat} {af:AF} {σ:Items} {K:AF->Items->Prop} {rest:List Oper} {dst:Option Tmp} {ty0:TypeId} {pos0:String} {after0:Array Edge} {ks:List KFr}
abbrev AV.xi (n:Int):AV:= .exact (.int .i64 n)
abbrev AV.xb (b:Bool):AV:= .exact (.bool b)
abbrev AV.xs (s:List UInt8):AV:= .exact (.string (bs s))
abbrev pt (x:AF) (k:Nat) (a:AV):AF:=AF.put x (some k) a
theorem lq {x y:AF} {d:Nat} {av:AV} (h1:x d=av) (h2:AF.le x y):AF.le x (y.put (some d) av):=AF.le_put (AV.le_eq h1) h2
theorem l4 {x y:AF} {d1 d2 d3 d4:Nat} {a1 a2 a3 a4:AV} (h1:x d1=a1) (h2:x d2=a2) (h3:x d3=a3) (h4:x d4=a4) (h:AF.le x y):AF.le x ((((y.put (some d4) a4).put (some d3) a3).put (some d2) a2).put (some d1) a1):=lq h1 (lq h2 (lq h3 (lq h4 h)))
theorem gq {m:Mode} {op:Op} (h:opA P ⟨dst,op,ty0,pos0,after0,none⟩ af (λ af'=>wpG m P ops K rest af' σ)) (hq:m.q ⟨dst,op,ty0,pos0,after0,none⟩=true:=by rfl):wpG m P ops K (⟨dst,op,ty0,pos0,after0,none⟩::rest) af σ:=G_q hq h
theorem lf {a:AV}:AV.le a a:=AV.le_refl a
theorem ln:LEs [] []:=LEs.nil
theorem lc {x y:AV} {xs ys:List AV} (h:AV.le x y) (h':LEs xs ys):LEs (x::xs) (y::ys):=LEs.cons h h'
theorem oi {α:Type} {a b:α} (h:some a=some b):a=b:=Option.some.inj h
theorem lt0 {x:AF}:AF.le x (λ _=> .top):=AF.le_top x
theorem so {af':AF} (h:AF.le af af'):Sub E n af σ af' σ:=Sub.of_le h
theorem s1 {d1:Nat} {a1:AV} (h1:af d1=a1):Sub E n af σ (AF.put (λ _=> .top) (some d1) a1) σ:=so (lq h1 lt0)
theorem s2 {d1 d2:Nat} {a1 a2:AV} (h1:af d1=a1) (h2:af d2=a2):Sub E n af σ (AF.put (AF.put (λ _=> .top) (some d2) a2) (some d1) a1) σ:=so (lq h1 (lq h2 lt0))
theorem s3 {d1 d2 d3:Nat} {a1 a2 a3:AV} (h1:af d1=a1) (h2:af d2=a2) (h3:af d3=a3):Sub E n af σ (AF.put (AF.put (AF.put (λ _=> .top) (some d3) a3) (some d2) a2) (some d1) a1) σ:=so (lq h1 (lq h2 (lq h3 lt0)))
theorem s4 {d1 d2 d3 d4:Nat} {a1 a2 a3 a4:AV} (h1:af d1=a1) (h2:af d2=a2) (h3:af d3=a3) (h4:af d4=a4):Sub E n af σ ((((AF.put (λ _=> .top) (some d4) a4).put (some d3) a3).put (some d2) a2).put (some d1) a1) σ:=so (l4 h1 h2 h3 h4 lt0)
theorem gn {m:Mode} {j:Nat} {want:Bool} {dg:Tmp} {op:Op} (h:wpG m P ops K rest (af.put dst undefA) σ) (hj:(ops[j]?).bind (·.dst)=some dg:=by exact rfl) (hv:af dg= .exact (.bool (!want)):=by exact rfl):wpG m P ops K (⟨dst,op,ty0,pos0,after0,some (j,want)⟩::rest) af σ:=G_n hj hv h
theorem gy {m:Mode} {j:Nat} {want:Bool} {dg:Tmp} {op:Op} (h:opA P ⟨dst,op,ty0,pos0,after0,some (j,want)⟩ af (λ af'=>wpG m P ops K rest af' σ)) (hj:(ops[j]?).bind (·.dst)=some dg:=by exact rfl) (hv:af dg= .exact (.bool want):=by exact rfl) (hq:m.q ⟨dst,op,ty0,pos0,after0,some (j,want)⟩=true:=by exact rfl):wpG m P ops K (⟨dst,op,ty0,pos0,after0,some (j,want)⟩::rest) af σ:=Gy_q hj hv hq h
section
variable {kp:Items} {rest:List (Nat×Nat)} {i:Nat} {op:Op}
theorem pq (hi:ops[i]?=some ⟨dst,op,ty0,pos0,after0,none⟩) (h:opA P ⟨dst,op,ty0,pos0,after0,none⟩ af (λ af'=>wpP P ops kp K rest af' σ)):wpP P ops kp K ((0,i)::rest) af σ:=P_q no34_0 hi h
variable {j:Nat} {want:Bool} {dg:Tmp}
theorem py (hi:ops[i]?=some ⟨dst,op,ty0,pos0,after0,some (j,want)⟩) (h:opA P ⟨dst,op,ty0,pos0,after0,some (j,want)⟩ af (λ af'=>wpP P ops kp K rest af' σ)) (hj:(ops[j]?).bind (·.dst)=some dg:=by exact rfl) (hv:af dg= .exact (.bool want):=by exact rfl):wpP P ops kp K ((0,i)::rest) af σ:=Py_q no34_0 hi hj hv h
theorem pn (hi:ops[i]?=some ⟨dst,op,ty0,pos0,after0,some (j,want)⟩) (h:wpP P ops kp K rest (af.put dst undefA) σ) (hj:(ops[j]?).bind (·.dst)=some dg:=by exact rfl) (hv:af dg= .exact (.bool (!want)):=by exact rfl):wpP P ops kp K ((0,i)::rest) af σ:=P_n no34_0 hi hj hv h
theorem pu (hi:ops[i]?=some ⟨dst,op,ty0,pos0,after0,some (j,want)⟩) (h:wpP P ops kp K rest (af.put dst undefA) σ) (hj:(ops[j]?).bind (·.dst)=some dg:=by exact rfl) (hv:af dg=undefA:=by exact rfl):wpP P ops kp K ((0,i)::rest) af σ:=P_u no34_0 hi hj hv h
end
theorem gc {m:Mode} {c:Code} (h:awp P E n c (den P E n ks) af σ):wpG m P ops (den P E n (kC c::ks) .normal) [] af σ:=zbc (zaf h)
theorem sr {y:Code} {id:Nat} {l:List Oper} {draw:Bool} (h:wpG .free P l.toArray (den P E n (kC y::ks) .normal) l af σ) (hm:P.follows .mixedOrders=true:=by exact hmixP) (hB:regB .free l n draw=true:=by kernel_rfl):awp P E n (.seq (.region id l.toArray draw) y) (den P E n ks) af σ:=zan (k_reg .free hm hB h)
theorem gd {m:Mode} {y:Code} {id:Nat} {l:List Oper} {draw:Bool} (h:wpG .free P l.toArray (den P E n (kC y::ks) .normal) l af σ) (hm:P.follows .mixedOrders=true:=by exact hmixP) (hB:regB .free l n draw=true:=by kernel_rfl):wpG m P ops (den P E n (kC (.seq (.region id l.toArray draw) y)::ks) .normal) [] af σ:=zbc (zaf (sr h hm hB))
theorem qm {x:Operand} (av:AV) (h:af.ev x=av) (hk:wpG .free P ops K rest (af.put dst av) σ):wpG .free P ops K (⟨dst, .move x,ty0,pos0,after0,none⟩::rest) af σ:=G_q rfl (zah h hk)
theorem qa {x:Operand} (av:AV) (h:af.ev x=av) (hk:wpG .free P ops K rest (af.put dst av) σ):wpG .free P ops K (⟨dst, .assign x,ty0,pos0,after0,none⟩::rest) af σ:=G_q rfl (zcj h hk)
theorem kd {c:Operand} {x y:Code} {p:Prop} [Decidable p] {ρ:Type} {a b:Option ρ} {r:ρ} (hc:af.ev c= .exact (.bool (decide p))) (h:(if p then a else b)=some r) (ht:p->a=some r->awp P E n x (den P E n ks) af σ) (hf: ¬p->b=some r->awp P E n y (den P E n ks) af σ):awp P E n (.cond c x y) (den P E n ks) af σ:=k_cond_d hc (λ hp=>ht hp (zcg h hp)) (λ hp=>hf hp (zcf h hp))
theorem kb {c:Operand} {x y:Code} {p:Bool} {ρ:Type} {a b:Option ρ} {r:ρ} (hc:af.ev c= .exact (.bool p)) (h:(if p=true then a else b)=some r) (ht:p=true->a=some r->awp P E n x (den P E n ks) af σ) (hf: ¬p=true->b=some r->awp P E n y (den P E n ks) af σ):awp P E n (.cond c x y) (den P E n ks) af σ:=k_cond_b hc (λ hp=>ht hp (zcg h hp)) (λ hp=>hf hp (zcf h hp))
theorem ke {fn:Func} {post:AV->Items->Prop} (af':AF) (σ':Items) {rs:List ResultVar} (hr:fn.results.toList=rs) (h:Sub E n af σ af' σ') (hp:post (resA rs af') σ'):den P E n (kP (EndA fn E n post)::ks) .ret af σ:=kP_any (endN rs hr h hp)
theorem kr {id:Nat} {l:List Oper} {draw:Bool} (h:wpG .free P l.toArray (den P E n ks .normal) l af σ) (hm:P.follows .mixedOrders=true:=by exact hmixP) (hB:regB .free l n draw=true:=by kernel_rfl):awp P E n (.region id l.toArray draw) (den P E n ks) af σ:=k_reg .free hm hB h
end
set_option maxHeartbeats 4000000
theorem m_gen_New_ok (a0:List Int) (r:((List Int)×Int)) (h:m_gen_New a0=some r):Fun Tryz.prog 8 [(.row 1 zav a0)] [] (λ a s=> ∃z0,a=pA z0 0/\s=[boxI 93 z0 [.row 1 zav r.1, .exact (.int .i64 r.2)]]):=by
 unfold m_gen_New at h
 refine zam func8 rfl ntmps8 (by simp) rfl (res1 rfl) λ E hE=>zca (sr (qa (.exact (.pointer none)) rfl (gd (qm (.row 1 zav a0) rfl (gq (zft (c':=c_cspcheckgen_Choices (a0,0)) (CellsAll.cons rfl CellsOf.row CellsAll.nil) rfl (lc lf (lc lf ln)) (G_l rfl (op_boxI (c:=[.row 1 zav ((a0,0).1), .xi ((a0,0).2)]) rfl CellsOf.agg (lc lf (lc lf ln)) (λ b1=>qa (pA b1 0) rfl (gc (zbn ?_)))))))))))
 obtain rfl:=oi h
 refine ke (pt AF0 2 (pA b1 0)) [boxI 93 b1 [.row 1 zav ((a0,0).1), .xi ((a0,0).2)]] rfl (s1 rfl) ⟨b1,rfl,rfl⟩
theorem m_ref9_two_ok (a0:Int) (r:(List UInt8)) (h:m_ref9_two a0=some r):Pure Tryz.prog 106 [(.exact (.int .i64 a0))] (.exact (.string (bs r))):=by
 unfold m_ref9_two at h
 refine Pure.ofFun (zam func106 rfl ntmps106 (by simp) rfl (res1 rfl) λ E hE=>zca (sr (qa (.xs ([]:List UInt8)) rfl (gd (qm (.xi a0) rfl (gq (op_shr rfl rfl (by decide) rfl (gq (zds (k:= .u8) (r:=(UInt8.toNat (u8i (Int.fdiv a0 (2^min (Int.toNat 8) IntKind.i64.bits))):Int)) (by kernel_rfl) rfl (u8i_eq _) (qm (.xi a0) rfl (gq (zds (k:= .u8) (r:=(UInt8.toNat (u8i a0):Int)) (by kernel_rfl) rfl (u8i_eq _) (gq (zcd (n:=1) (enc:=c_uint8) [u8i (Int.fdiv a0 (2^min (Int.toNat 8) IntKind.i64.bits)),u8i a0] (CellsAll.cons rfl CellsOf.int (CellsAll.cons rfl CellsOf.int CellsAll.nil)) rfl (by kernel_rfl) (LEss.cons (lc lf ln) (LEss.cons (lc lf ln) LEss.nil)) (gq (op_bytesS rfl (by kernel_rfl) rfl (qa (.exact (.string (bs [u8i (Int.fdiv a0 (2^min (Int.toNat 8) IntKind.i64.bits)),u8i a0]))) rfl (gc (zbn ?_)))))))))))))))))))
 obtain rfl:=oi h
 refine ke (pt AF0 2 (.exact (.string (bs [u8i (Int.fdiv a0 (2^min (Int.toNat 8) IntKind.i64.bits)),u8i a0])))) [] rfl (s1 rfl) ⟨rfl,rfl⟩
theorem m_ref9_Name_ok (a0:Int) (r:(List UInt8)) (h:m_ref9_Name a0=some r):Pure Tryz.prog 61 [(.exact (.int .i64 a0))] (.exact (.string (bs r))):=by
 unfold m_ref9_Name at h
 refine Pure.ofFun (zam func61 rfl ntmps61 (by simp) rfl (res1 rfl) λ E hE=>zca (sr (qa (.xs ([]:List UInt8)) rfl (gc (zan (zax h (λ(a:Bool)=>(pt (pt AF0 0 (.xi a0)) 8 (.xb a))) (λ(a:Bool)=>[]) (λ k3 h=> ?_) (λ a h=> ?_)))))))
 .refine kr (qm (.xi a0) rfl (gq (zbm rfl rfl (qm (.xb (decide (a0<0))) rfl (zcc (p:=a0<0) 5 rfl (λ hc=> ?_) (λ hc=> ?_))))))
  .replace h:=zcg h hc
   refine gn (gn (gq (zat rfl (av:= .xb true) rfl (zbc (zaa ⟨_,h,s2 rfl rfl⟩)))))
  .replace h:=zcf h hc
   refine gy (zah (av:= .xi a0) rfl (gy (zfx rfl rfl (gq (zar rfl (av:= .xb (decide (65535<a0))) rfl (zbc (zaa ⟨_,h,s2 rfl rfl⟩)))))))
 .refine kb (p:=a) rfl h (λ hc h=> ?_) (λ hc h=> ?_)
  .refine zan ?_
   cases h
  .refine zap (zaf (zan (zck [] [(0,0),(0,1),(0,2),(0,3),(0,4),(0,5)] hmixP (by kernel_rfl) (pq rfl (zcd (n:=1) (enc:=c_uint8) [10] (CellsAll.cons rfl CellsOf.int CellsAll.nil) rfl (by kernel_rfl) (LEss.cons (lc lf ln) LEss.nil) (pq rfl (op_bytesS rfl (by kernel_rfl) rfl (pq rfl (zah (av:= .xi a0) rfl ?_)))))))))
   obtain⟨y4,b,h⟩:=zae h
   refine pq rfl (zal (m_ref9_two_ok _ _ b) func106 (by kernel_rfl) (lc lf ln) ?_)
   obtain⟨n5,h⟩:=zad h
   refine pq rfl (op_addS n5 rfl rfl (pq rfl (zcj (av:= .xs ([10]++y4)) rfl (zcn (zaf (zbn ?_))))))
   obtain rfl:=oi h
   refine ke (pt AF0 2 (.xs ([10]++y4))) [] rfl (s1 rfl) ⟨rfl,rfl⟩
theorem m_ref9_ascending_ok (a0:List (List UInt8)) (a1:Int) (r:Bool) (h:m_ref9_ascending a0 a1=some r):Pure Tryz.prog 186 [(.row 1 zab a0),(.exact (.int .i64 a1))] (.exact (.bool r)):=by
 unfold m_ref9_ascending at h
 refine Pure.ofFun (zam func186 rfl ntmps186 (by simp) rfl (res1 rfl) λ E hE=>zca (sr (qa (.xb false) rfl (gc (zbw h (AF0) ([]) (λ k1 h=> ?_) (λ  h=> ?_))))))
 .refine sr (qm (.xi a1) rfl (qa (.xi a1) rfl (gc (zaq (zgs (m_ref9_ascending_L2 a0 a1 k1) (m_ref9_ascending_B2 a0 a1 k1) (λ _=>rfl) (λ m _=>rfl) h ((pt (pt (pt AF0 0 (.row 1 zab a0)) 1 (.xi a1)) 5 (.xi a1))) ([]) ?_ (λ a  h=> ?_))))))
  .exact s3 rfl rfl rfl
  .unfold m_ref9_ascending_B2 at h
   refine zan (sr (qm (.xi a1) rfl (qm (.row 1 zab a0) rfl (gq (zao (by kernel_rfl) rfl (gq (zbm rfl rfl (gc (kd (p:=a1<(List.length a0:Int)) rfl h (λ hc h=> ?_) (λ hc h=> ?_))))))))))
   .refine zap (zaf (zan (zaq (zan ?_))))
    cases h
   .refine zbr (zbi (zbk (zbj (zaa ⟨h,Sub.of_le lt0⟩))))
 .refine sr (qa (.xb true) rfl (gc (zbn ?_)))
  obtain rfl:=oi h
  refine ke (pt AF0 4 (.xb true)) [] rfl (s1 rfl) ⟨rfl,rfl⟩
theorem m_ref9_number_ok (a0:List UInt8) (r:Int) (h:m_ref9_number a0=some r):Pure Tryz.prog 91 [(.exact (.string (bs a0)))] (.exact (.int .i64 r)):=by
 unfold m_ref9_number at h
 refine Pure.ofFun (zam func91 rfl ntmps91 (by simp) rfl (res1 rfl) λ E hE=>zca (sr (qa (.xi 0) rfl (gd (qa (.exact (.int .u64 0)) rfl (gc (zax h (λ(b:Int)=>(pt AF0 3 (.exact (.int .u64 b)))) (λ(b:Int)=>[]) (λ k1 h=> ?_) (λ b h=> ?_))))))))
 .refine sr (qa (.xi 0) rfl (gc (zaq (zey (m_ref9_number_L2 a0 k1) (m_ref9_number_B2 a0 k1) (λ _ _=>rfl) (λ m _ _=>rfl) h (λ(c:Int) (a:Int)=>(pt (pt (pt AF0 0 (.xs a0)) 3 (.exact (.int .u64 c))) 4 (.xi a))) (λ(c:Int) (a:Int)=>[]) ?_ (λ d c a h=> ?_)))))
  .exact s3 rfl rfl rfl
  .unfold m_ref9_number_B2 at h
   refine zan (sr (qm (.xi a) rfl (gq (zbm rfl rfl (gc (kd (p:=a<8) rfl h (λ hc h=> ?_) (λ hc h=> ?_)))))))
   .refine zap (zaf (zan (zaq (kr (qm (.exact (.int .u64 c)) rfl (gq (op_shl rfl rfl (by decide) rfl (qm (.xs a0) rfl (qm (.xi a) rfl ?_)))))))))
    obtain⟨n8,h⟩:=zad h
    refine gq (zct (by kernel_rfl) rfl rfl n8.1 n8.2 (gq (zds (k:= .u64) (r:=(UInt8.toNat (gi a0 a):Int)) (by kernel_rfl) rfl (wrap_u8 rfl _) (gq (op_or rfl rfl rfl (qa (.exact (.int .u64 (bOr .u64 (IntKind.u64.wrap (c*2^min (Int.toNat 8) IntKind.u64.bits)) (UInt8.toNat (gi a0 a):Int)))) rfl (zbc (zau (zaf (kr (qm (.xi a) rfl (gq (zbo rfl rfl rfl (qa (.xi (i64 (a+1))) rfl (zbc (zaa ⟨_,_,h,s3 rfl rfl rfl⟩))))))))))))))))
   .refine zbr (zbi (zbk (zbj (zaa ⟨_,h,s1 rfl⟩))))
 .refine sr (qm (.exact (.int .u64 b)) rfl (gq (zds (k:= .i64) (by kernel_rfl) rfl rfl (qa (.xi (i64 (b))) rfl (gc (zbn ?_))))))
  obtain rfl:=oi h
  refine ke (pt AF0 2 (.xi (i64 (b)))) [] rfl (s1 rfl) ⟨rfl,rfl⟩
theorem m_ref9_small_ok (a0:List UInt8) (a1:Int) (a2:Int) (r:Bool) (h:m_ref9_small a0 a1 a2=some r):Pure Tryz.prog 187 [(.exact (.string (bs a0))),(.exact (.int .i64 a1)),(.exact (.int .i64 a2))] (.exact (.bool r)):=by
 unfold m_ref9_small at h
 refine Pure.ofFun (zam func187 rfl ntmps187 (by simp) rfl (res1 rfl) λ E hE=>zca (sr (qa (.xb false) rfl (gc (zax h (λ(a:Bool)=>(pt AF0 6 (.xb a))) (λ(a:Bool)=>[]) (λ k1 h=> ?_) (λ a h=> ?_))))))
 .refine kr (qm (.xs a0) rfl ?_)
  obtain⟨n7,h⟩:=zad h
  refine gq (zct (by kernel_rfl) rfl rfl n7.1 n7.2 (gq (zds (k:= .i64) (r:=(UInt8.toNat (gi a0 0):Int)) (by kernel_rfl) rfl (wrap_u8 rfl _) (gq (zbf rfl rfl (qm (.xb (decide ((UInt8.toNat (gi a0 0):Int)=1))) rfl (zcc (p:=(UInt8.toNat (gi a0 0):Int)=1) 11 rfl (λ hc=> ?_) (λ hc=> ?_))))))))
  .replace h:=zcg h hc
   refine gy (zah (av:= .xs a0) rfl ?_)
   obtain⟨n8,h⟩:=zad h
   refine gy (op_slice_strd (by kernel_rfl) rfl (zdn rfl) zdu (by decide) n8 (Int.le_refl _) ?_)
   obtain⟨y9,b,h⟩:=zae h
   refine gy (zal (m_ref9_number_ok _ _ b) func91 (by kernel_rfl) (lc lf ln) (gy (zah (av:= .xi a1) rfl (gy (zgm rfl rfl (gq (zat rfl (av:= .xb (decide (a1≤y9))) rfl (qm (.xb (decide (a1≤y9))) rfl (zcc (p:=a1≤y9) 18 rfl (λ hc=> ?_) (λ hc=> ?_))))))))))
   .replace h:=zcg h hc
    refine gy (zah (av:= .xs a0) rfl ?_)
    obtain⟨n10,h⟩:=zad h
    refine gy (op_slice_strd (by kernel_rfl) rfl (zdn rfl) zdu (by decide) n10 (Int.le_refl _) ?_)
    obtain⟨y11,c,h⟩:=zae h
    refine gy (zal (m_ref9_number_ok _ _ c) func91 (by kernel_rfl) (lc lf ln) (gy (zah (av:= .xi a2) rfl (gy (op_leq rfl rfl (gq (zat rfl (av:= .xb (decide (y11≤a2))) rfl (qa (.xb (decide (y11≤a2))) rfl (zbc (zaa ⟨_,h,s1 rfl⟩))))))))))
   .replace h:=zcf h hc
    refine gn (gn (gn (gn (gn (gq (zar rfl (av:= .xb false) rfl (qa (.xb false) rfl (zbc (zaa ⟨_,h,s1 rfl⟩)))))))))
  .replace h:=zcf h hc
   refine gn (gn (gn (gn (gn (gq (zar rfl (av:= .xb false) rfl (qm (.xb false) rfl (gn (gn (gn (gn (gn (gq (zar rfl (av:= .xb false) rfl (qa (.xb false) rfl (zbc (zaa ⟨_,h,s1 rfl⟩)))))))))))))))))
 .refine zbn ?_
  obtain rfl:=oi h
  refine ke (pt AF0 6 (.xb a)) [] rfl (s1 rfl) ⟨rfl,rfl⟩
theorem m_ref9_parted_ok (a0:Int) (a1:List (List UInt8)) (r:Bool) (h:m_ref9_parted a0 a1=some r):Pure Tryz.prog 143 [(.exact (.int .i64 a0)),(.row 1 zab a1)] (.exact (.bool r)):=by
 unfold m_ref9_parted at h
 refine Pure.ofFun (zam func143 rfl ntmps143 (by simp) rfl (res1 rfl) λ E hE=>zca (sr (qa (.xb false) rfl (gc (zan (sr (qm (.xi a0) rfl (gc (zaq (sr (gq (zbf rfl rfl (qa (.xb (decide (a0=3))) rfl (gc (kd (p:=a0=3) rfl h (λ hc h=> ?_) (λ hc h=> ?_))))))))))))))))
 .refine zan ?_
  cases h
 .refine sr (gq (zbf rfl rfl (qa (.xb (decide (a0=5))) rfl (gc (kd (p:=a0=5) rfl h (λ hc h=> ?_) (λ hc h=> ?_))))))
  .refine sr (qm (.row 1 zab a1) rfl ?_)
   obtain⟨y2,d,h⟩:=zae h
   refine gq (zal (m_ref9_ascending_ok _ _ _ d) func186 (by kernel_rfl) (lc lf (lc lf ln)) (qa (.xb y2) rfl (gc (zbn (zde (zdb ?_))))))
   obtain rfl:=oi h
   refine ke (pt AF0 4 (.xb y2)) [] rfl (s1 rfl) ⟨rfl,rfl⟩
  .refine sr (gq (zbf rfl rfl (qa (.xb (decide (a0=6))) rfl (gc (kd (p:=a0=6) rfl h (λ hc h=> ?_) (λ hc h=> ?_))))))
   .refine zan ?_
    cases h
   .refine sr (gq (zbf rfl rfl (qa (.xb (decide (a0=7))) rfl (gc (kd (p:=a0=7) rfl h (λ hc h=> ?_) (λ hc h=> ?_))))))
    .refine zax h (λ(b:Bool)=>(pt AF0 4 (.xb b))) (λ(b:Bool)=>[]) (λ k4 h=> ?_) (λ b h=> ?_)
     .refine kr (qm (.row 1 zab a1) rfl (gq (zao (by kernel_rfl) rfl (gq (zgm rfl rfl (qm (.xb (decide (1≤(List.length a1:Int)))) rfl (zcc (p:=1≤(List.length a1:Int)) 35 rfl (λ hc=> ?_) (λ hc=> ?_))))))))
      .replace h:=zcg h hc
       refine gy (zah (av:= .row 1 zab a1) rfl (gy (zao (by kernel_rfl) rfl (gy (op_leq rfl rfl (gq (zat rfl (av:= .xb (decide ((List.length a1:Int)≤9))) rfl (qm (.xb (decide ((List.length a1:Int)≤9))) rfl (zcc (p:=(List.length a1:Int)≤9) 40 rfl (λ hc=> ?_) (λ hc=> ?_))))))))))
       .replace h:=zcg h hc
        refine gy (zah (av:= .row 1 zab a1) rfl ?_)
        obtain⟨n7,h⟩:=zad h
        refine gy (zai (by kernel_rfl) rfl rfl n7.1 n7.2 (gy (zak (a:= .xs (gi a1 0)) (by kernel_rfl) rfl rfl ?_)))
        obtain⟨n8,h⟩:=zad h
        refine gy (zct (by kernel_rfl) rfl rfl n8.1 n8.2 (gy (zds (k:= .i64) (r:=(UInt8.toNat (gi (gi a1 0) 0):Int)) (by kernel_rfl) rfl (wrap_u8 rfl _) (gy (zbf rfl rfl (gq (zat rfl (av:= .xb (decide ((UInt8.toNat (gi (gi a1 0) 0):Int)=10))) rfl (qa (.xb (decide ((UInt8.toNat (gi (gi a1 0) 0):Int)=10))) rfl (zbc (zaa ⟨_,h,s1 rfl⟩))))))))))
       .replace h:=zcf h hc
        refine gn (gn (gn (gn (gn (gn (gq (zar rfl (av:= .xb false) rfl (qa (.xb false) rfl (zbc (zaa ⟨_,h,s1 rfl⟩))))))))))
      .replace h:=zcf h hc
       refine gn (gn (gn (gq (zar rfl (av:= .xb false) rfl (qm (.xb false) rfl (gn (gn (gn (gn (gn (gn (gq (zar rfl (av:= .xb false) rfl (qa (.xb false) rfl (zbc (zaa ⟨_,h,s1 rfl⟩))))))))))))))))
     .refine zbn (zde (zdb ?_))
      obtain rfl:=oi h
      refine ke (pt AF0 4 (.xb b)) [] rfl (s1 rfl) ⟨rfl,rfl⟩
    .refine sr (gq (zbf rfl rfl (qa (.xb (decide (a0=8))) rfl (gc (kd (p:=a0=8) rfl h (λ hc h=> ?_) (λ hc h=> ?_))))))
     .refine zan ?_
      cases h
     .refine sr (gq (zbf rfl rfl (qa (.xb (decide (a0=9))) rfl (gc (kd (p:=a0=9) rfl h (λ hc h=> ?_) (λ hc h=> ?_))))))
      .refine zax h (λ(c:Bool)=>(pt AF0 4 (.xb c))) (λ(c:Bool)=>[]) (λ k10 h=> ?_) (λ c h=> ?_)
       .refine kr (qm (.row 1 zab a1) rfl (gq (zao (by kernel_rfl) rfl (gq (zgm rfl rfl (qm (.xb (decide (1≤(List.length a1:Int)))) rfl (zcc (p:=1≤(List.length a1:Int)) 69 rfl (λ hc=> ?_) (λ hc=> ?_))))))))
        .replace h:=zcg h hc
         refine gy (zah (av:= .row 1 zab a1) rfl ?_)
         obtain⟨n13,h⟩:=zad h
         refine gy (zai (by kernel_rfl) rfl rfl n13.1 n13.2 (gy (zak (a:= .xs (gi a1 0)) (by kernel_rfl) rfl rfl ?_)))
         obtain⟨y14,e,h⟩:=zae h
         refine gy (zal (m_ref9_small_ok _ _ _ _ e) func187 (by kernel_rfl) (lc lf (lc lf (lc lf ln))) (gq (zat rfl (av:= .xb y14) rfl (qa (.xb y14) rfl (zbc (zaa ⟨_,h,s1 rfl⟩))))))
        .replace h:=zcf h hc
         refine gn (gn (gn (gn (gq (zar rfl (av:= .xb false) rfl (qa (.xb false) rfl (zbc (zaa ⟨_,h,s1 rfl⟩))))))))
       .refine zbn (zde (zdb ?_))
        obtain rfl:=oi h
        refine ke (pt AF0 4 (.xb c)) [] rfl (s1 rfl) ⟨rfl,rfl⟩
      .refine zap (zau (zaf (zan ?_)))
       cases h
theorem m_ref9_walk_F_ok (i:(List UInt8)->Int->Bool->Option (Int×(List (List UInt8))×Int)) (hself_ref9_walk: ∀(a0:List UInt8) (a1:Int) (a2:Bool) (r:Int×(List (List UInt8))×Int),i a0 a1 a2=some r->Pure Tryz.prog 90 [(.exact (.string (bs a0))),(.exact (.int .i64 a1)),(.exact (.bool a2))] (.tup [.exact (.int .i64 r.1), .row 1 zab r.2.1, .exact (.int .i64 r.2.2)])) (a0:List UInt8) (a1:Int) (a2:Bool) (r:Int×(List (List UInt8))×Int) (h:m_ref9_walk_F i a0 a1 a2=some r):Pure Tryz.prog 90 [(.exact (.string (bs a0))),(.exact (.int .i64 a1)),(.exact (.bool a2))] (.tup [.exact (.int .i64 r.1), .row 1 zab r.2.1, .exact (.int .i64 r.2.2)]):=by
 unfold m_ref9_walk_F at h
 refine Pure.ofFun (zam func90 rfl ntmps90 (by simp) rfl (res3 rfl) λ E hE=>zca (sr (qa (.xi 0) rfl (qa (.exact (.slice none 0 0)) rfl (qa (.xi 0) rfl (gc (zan (zax h (λ(j:Bool)=>(pt (pt (pt (pt AF0 0 (.xs a0)) 1 (.xi a1)) 2 (.xb a2)) 24 (.xb j))) (λ(j:Bool)=>[]) (λ k3 h=> ?_) (λ j h=> ?_)))))))))
 .refine kr (qm (.xs a0) rfl (gq (op_lenS (by kernel_rfl) rfl (gq (zbm rfl rfl (qm (.xb (decide ((List.length a0:Int)<2))) rfl (zcc (p:=(List.length a0:Int)<2) 21 rfl (λ hc=> ?_) (λ hc=> ?_))))))))
  .replace h:=zcg h hc
   refine gn (gn (gq (zat rfl (av:= .xb true) rfl (zbc (zaa ⟨_,h,s4 rfl rfl rfl rfl⟩)))))
  .replace h:=zcf h hc
   refine gy (zah (av:= .xi a1) rfl (gy (zbf rfl rfl (gq (zar rfl (av:= .xb (decide (a1=0))) rfl (zbc (zaa ⟨_,h,s4 rfl rfl rfl rfl⟩)))))))
 .refine kb (p:=j) rfl h (λ hc h=> ?_) (λ hc h=> ?_)
  .refine zan ?_
   cases h
  .refine zap (zaf (zan (sr (qm (.xs a0) rfl ?_))))
   obtain⟨n7,h⟩:=zad h
   refine gq (zct (by kernel_rfl) rfl rfl n7.1 n7.2 (gq (zds (k:= .i64) (r:=(UInt8.toNat (gi a0 0):Int)) (by kernel_rfl) rfl (wrap_u8 rfl _) (qa (.xi (UInt8.toNat (gi a0 0):Int)) rfl (gc (zaq (sr (qm (.xi (UInt8.toNat (gi a0 0):Int)) rfl (gq (zbf rfl rfl (qa (.xb (decide ((UInt8.toNat (gi a0 0):Int)=1))) rfl (gc (kd (p:=(UInt8.toNat (gi a0 0):Int)=1) rfl h (λ hc h=> ?_) (λ hc h=> ?_))))))))))))))
   .refine zan (sr (qm (.xs a0) rfl (gq (op_lenS (by kernel_rfl) rfl (gq (zbm rfl rfl (gc (kd (p:=(List.length a0:Int)<9) rfl h (λ hc h=> ?_) (λ hc h=> ?_)))))))))
    .refine zan ?_
     cases h
    .refine zap (zaf (sr (qa (.xi 9) rfl (qa (.exact (.slice none 0 0)) rfl (qa (.xi 1) rfl (gc (zbn (zde (zdb ?_)))))))))
     obtain rfl:=oi h
     refine ke (pt (pt (pt AF0 6 (.xi 9)) 7 (.row 1 zab [])) 8 (.xi 1)) [] rfl (so (lq rfl (AF.le_put (zcy (by decide)) (lq rfl lt0)))) ⟨rfl,rfl⟩
   .refine sr (qm (.xi (UInt8.toNat (gi a0 0):Int)) rfl (gq (zbf rfl rfl (qa (.xb (decide ((UInt8.toNat (gi a0 0):Int)=2))) rfl (gc (kd (p:=(UInt8.toNat (gi a0 0):Int)=2) rfl h (λ hc h=> ?_) (λ hc h=> ?_)))))))
    .refine zan (zan ?_)
     cases h
    .refine zax h (λ(l:Bool)=>(pt (pt (pt (pt (pt AF0 0 (.xs a0)) 1 (.xi a1)) 2 (.xb a2)) 9 (.xi (UInt8.toNat (gi a0 0):Int))) 40 (.xb l))) (λ(l:Bool)=>[]) (λ k8 h=> ?_) (λ l h=> ?_)
     .refine kr (qm (.xs a0) rfl (gq (op_lenS (by kernel_rfl) rfl (gq (zbm rfl rfl (qm (.xb (decide ((List.length a0:Int)<3))) rfl (zcc (p:=(List.length a0:Int)<3) 44 rfl (λ hc=> ?_) (λ hc=> ?_))))))))
      .replace h:=zcg h hc
       refine gn (gn (gq (zat rfl (av:= .xb true) rfl (qm (.xb true) rfl (gn (gn (gq (zat rfl (av:= .xb true) rfl (qa (.xb true) rfl (zbc (zaa ⟨_,h,so (l4 rfl rfl rfl rfl (lq rfl lt0))⟩)))))))))))
      .replace h:=zcf h hc
       refine gy (zah (av:= .xi (UInt8.toNat (gi a0 0):Int)) rfl (gy (zbm rfl rfl (gq (zar rfl (av:= .xb (decide ((UInt8.toNat (gi a0 0):Int)<3))) rfl (qm (.xb (decide ((UInt8.toNat (gi a0 0):Int)<3))) rfl (zcc (p:=(UInt8.toNat (gi a0 0):Int)<3) 48 rfl (λ hc=> ?_) (λ hc=> ?_))))))))
       .replace h:=zcg h hc
        refine gn (gn (gq (zat rfl (av:= .xb true) rfl (qa (.xb true) rfl (zbc (zaa ⟨_,h,so (l4 rfl rfl rfl rfl (lq rfl lt0))⟩))))))
       .replace h:=zcf h hc
        refine gy (zah (av:= .xi (UInt8.toNat (gi a0 0):Int)) rfl (gy (zfx rfl rfl (gq (zar rfl (av:= .xb (decide (10<(UInt8.toNat (gi a0 0):Int)))) rfl (qa (.xb (decide (10<(UInt8.toNat (gi a0 0):Int)))) rfl (zbc (zaa ⟨_,h,so (l4 rfl rfl rfl rfl (lq rfl lt0))⟩))))))))
     .refine kb (p:=l) rfl h (λ hc h=> ?_) (λ hc h=> ?_)
      .refine zan ?_
       cases h
      .refine sr (qm (.xi (UInt8.toNat (gi a0 0):Int)) rfl (gq (zbf rfl rfl (qa (.xb (decide ((UInt8.toNat (gi a0 0):Int)=10))) rfl (gc (kd (p:=(UInt8.toNat (gi a0 0):Int)=10) rfl h (λ hc h=> ?_) (λ hc h=> ?_)))))))
       .refine sr (qa (.xi 3) rfl (qa (.exact (.slice none 0 0)) rfl (qa (.xi 1) rfl (gc (zbn (zde (zdb ?_)))))))
        obtain rfl:=oi h
        refine ke (pt (pt (pt AF0 6 (.xi 3)) 7 (.row 1 zab [])) 8 (.xi 1)) [] rfl (so (lq rfl (AF.le_put (zcy (by decide)) (lq rfl lt0)))) ⟨rfl,rfl⟩
       .refine zap (zau (zaf (zan (zck [] [(0,0),(0,1),(0,2),(0,3),(0,4),(0,5),(0,6),(0,7),(0,8)] hmixP (by kernel_rfl) (pq rfl (zah (av:= .xs a0) rfl ?_))))))
        obtain⟨n9,h⟩:=zad h
        refine pq rfl (zct (by kernel_rfl) rfl rfl n9.1 n9.2 (pq rfl (zds (k:= .i64) (r:=(UInt8.toNat (gi a0 1):Int)) (by kernel_rfl) rfl (wrap_u8 rfl _) (pq rfl (op_shl rfl rfl (by decide) rfl (pq rfl (zah (av:= .xs a0) rfl ?_)))))))
        obtain⟨n10,h⟩:=zad h
        refine pq rfl (zct (by kernel_rfl) rfl rfl n10.1 n10.2 (pq rfl (zds (k:= .i64) (r:=(UInt8.toNat (gi a0 2):Int)) (by kernel_rfl) rfl (wrap_u8 rfl _) (pq rfl (op_or rfl rfl rfl (pq rfl (zcj (av:= .xi (bOr .i64 (i64 ((UInt8.toNat (gi a0 1):Int)*2^min (Int.toNat 8) IntKind.i64.bits)) (UInt8.toNat (gi a0 2):Int))) rfl (zcn (zaf (sr (qa (.xi 3) rfl (qa (.xi 0) rfl (gd (qa (.exact (.slice none 0 0)) rfl (gc (k_join3_1 h (λ(b:Int) (d:Int) (q:List (List UInt8)) (v13_j11:Value)=>(pt (pt (pt (pt (pt AF0 0 (.xs a0)) 2 (.xb a2)) 11 (.xi b)) 12 (.xi d)) 13 (.exact v13_j11))) (λ(b:Int) (d:Int) (q:List (List UInt8)) (v13_j11:Value)=>[vecT Tryz.prog 36 1 zab v13_j11 q]) (λ k11 h=> ?_) (λ b d q v13_j11 h=> ?_)))))))))))))))))
        .refine sr (qa (.xi 0) rfl (gc (zaq (k_loop4_1 (m_ref9_walk_L2 i a0 a1 a2 k11) (m_ref9_walk_B2 i a0 a1 a2 k11) (λ _ _ _ _=>rfl) (λ m _ _ _ _=>rfl) h (λ(a:Int) (g:Int) (u:List (List UInt8)) (e:Int) (v13_l2:Value)=>(pt (pt (pt (pt (pt (pt (pt (pt AF0 0 (.xs a0)) 1 (.xi a1)) 2 (.xb a2)) 10 (.xi (bOr .i64 (i64 ((UInt8.toNat (gi a0 1):Int)*2^min (Int.toNat 8) IntKind.i64.bits)) (UInt8.toNat (gi a0 2):Int)))) 11 (.xi a)) 12 (.xi g)) 13 (.exact v13_l2)) 14 (.xi e))) (λ(a:Int) (g:Int) (u:List (List UInt8)) (e:Int) (v13_l2:Value)=>[vecT Tryz.prog 36 1 zab v13_l2 u]) (.slice none 0 0) ?_ (λ x a g u e v13_l2 h=> ?_)))))
         .refine Sub.trans (SubU.to (SubU.nilT (P:=Tryz.prog) (t:=36) (n:=1) (enc:=zab))) (so (l4 rfl rfl rfl rfl (l4 rfl rfl rfl rfl lt0)))
         .unfold m_ref9_walk_B2 at h
          refine zan (sr (qm (.xi e) rfl (qm (.xi (bOr .i64 (i64 ((UInt8.toNat (gi a0 1):Int)*2^min (Int.toNat 8) IntKind.i64.bits)) (UInt8.toNat (gi a0 2):Int))) rfl (gq (zbm rfl rfl (gc (kd (p:=e<(bOr .i64 (i64 ((UInt8.toNat (gi a0 1):Int)*2^min (Int.toNat 8) IntKind.i64.bits)) (UInt8.toNat (gi a0 2):Int))) rfl h (λ hc h=> ?_) (λ hc h=> ?_))))))))
          .refine zap (zaf (zan (zaq (sr (qm (.xs a0) rfl (qm (.xi a) rfl ?_))))))
           obtain⟨n38,h⟩:=zad h
           refine gq (op_slice_strd (by kernel_rfl) rfl (zdn rfl) zdu n38.1 n38.2 (Int.le_refl _) (qm (.xi a1) rfl (gq (op_sub rfl rfl rfl (qm (.xb a2) rfl ?_)))))
           obtain⟨y39,v,h⟩:=zae h
           refine gq (zal (hself_ref9_walk _ _ _ _ v) func90 (by kernel_rfl) (lc lf (lc lf (lc lf ln))) (qm (.tup [.xi y39.1, .row 1 zab y39.2.1, .xi y39.2.2]) rfl (gq (zbq (av:= .xi y39.1) rfl rfl (gq (zbq (av:= .row 1 zab y39.2.1) rfl rfl (gq (zbq (av:= .xi y39.2.2) rfl rfl (qa (.xi y39.1) rfl (qa (.row 1 zab y39.2.1) rfl (qa (.xi y39.2.2) rfl (gc (zan (sr (qm (.xi y39.1) rfl (gq (zbf rfl rfl (gc (kd (p:=y39.1=0) rfl h (λ hc h=> ?_) (λ hc h=> ?_))))))))))))))))))))
           .refine zan ?_
            cases h
           .refine zap (zaf (sr (qm (.exact v13_l2) rfl (qm (.xs a0) rfl (qm (.xi a) rfl (qm (.xi a) rfl (qm (.xi y39.1) rfl (gq (zbo rfl rfl rfl ?_)))))))))
            obtain⟨n40,h⟩:=zad h
            refine gq (op_slice_str (by kernel_rfl) rfl (zdn rfl) (zdn rfl) n40.1 n40.2.1 n40.2.2 (gq (zcd (n:=1) (enc:=zab) [List.take (Int.toNat (i64 (a+y39.1)) - Int.toNat a) (List.drop (Int.toNat a) a0)] (CellsAll.cons rfl CellsOf.str CellsAll.nil) rfl (by kernel_rfl) (LEss.cons (lc lf ln) LEss.nil) ?_)))
            obtain⟨n41,h⟩:=zad h
            refine G_l rfl (zcu (by kernel_rfl) rfl rfl zco n41 (λ v42=>qa (.exact v42) rfl (gd (qm (.xi a) rfl (qm (.xi y39.1) rfl (gq (zbo rfl rfl rfl (qa (.xi (i64 (a+y39.1))) rfl (gc (kr (qm (.xi g) rfl (qm (.xi y39.2.2) rfl (gq (op_max rfl rfl (qa (.xi (max g y39.2.2)) rfl (zbc (zau (zaf (kr (qm (.xi e) rfl (gq (zbo rfl rfl rfl (qa (.xi (i64 (e+1))) rfl (zbc (zaa ⟨_,_,_,_,v42,h,so (l4 rfl rfl rfl rfl (l4 rfl rfl rfl rfl lt0))⟩)))))))))))))))))))))))))
          .refine zbr (zbi (zbk (zbj (zaa ⟨_,_,_,v13_l2,h,so (l4 rfl rfl rfl rfl (lq rfl lt0))⟩))))
        .refine zan (k_join2_0 h (λ(f:List (List UInt8)) (o:Bool)=>(pt (pt (pt (pt AF0 11 (.xi b)) 12 (.xi d)) 13 (.row 1 zab f)) 104 (.xb o))) (λ(f:List (List UInt8)) (o:Bool)=>[]) (λ k49 h=> ?_) (λ f o h=> ?_))
         .refine kr (qm (.xb a2) rfl (qm (.xb a2) rfl (zfl (c:=a2) 97 rfl (λ hc=> ?_) (λ hc=> ?_))))
          .replace h:=zcg h hc
           refine gy (zah (av:= .xs a0) rfl ?_)
           obtain⟨n52,h⟩:=zad h
           refine gy (zct (by kernel_rfl) rfl rfl n52.1 n52.2 (gy (zds (k:= .i64) (r:=(UInt8.toNat (gi a0 0):Int)) (by kernel_rfl) rfl (wrap_u8 rfl _) (gy (zah (av:= .exact v13_j11) rfl (G_sub rfl (SubU.freezeT2 (s1:=13) (s2:=101) rfl rfl zbt) ?_))))))
           obtain⟨y53,w,h⟩:=zae h
           refine gy (zal (m_ref9_parted_ok _ _ _ w) func143 (by kernel_rfl) (lc lf (lc lf ln)) (gy (zdh rfl (gq (zat rfl (av:= .xb (!y53)) rfl (zbc (zaa ⟨_,_,h,s4 rfl rfl rfl rfl⟩)))))))
          .replace h:=zcf h hc
           refine gn (gn (gn (gn (gn (gn (gq (zar rfl (av:= .xb false) rfl (zbc (zaa ⟨_,_,h, ?_⟩)))))))))
           refine Sub.trans (SubU.to (SubU.freezeT (s:=13) rfl zbt)) (s4 rfl rfl rfl rfl)
         .refine kb (p:=o) rfl h (λ hc h=> ?_) (λ hc h=> ?_)
          .refine zan ?_
           cases h
          .refine zap (zaf (sr (qm (.xi b) rfl (qm (.row 1 zab f) rfl (qm (.xi d) rfl (gq (zbo rfl rfl rfl (qa (.xi b) rfl (qa (.row 1 zab f) rfl (qa (.xi (i64 (d+1))) rfl (gc (zbn ?_))))))))))))
           obtain rfl:=oi h
           refine ke (pt (pt (pt AF0 6 (.xi b)) 7 (.row 1 zab f)) 8 (.xi (i64 (d+1)))) [] rfl (s3 rfl rfl rfl) ⟨rfl,rfl⟩
theorem m_ref9_walk_S_ok: ∀n:Nat,(∀(a0:List UInt8) (a1:Int) (a2:Bool) (r:Int×(List (List UInt8))×Int),m_ref9_walk_S n a0 a1 a2=some r->Pure Tryz.prog 90 [(.exact (.string (bs a0))),(.exact (.int .i64 a1)),(.exact (.bool a2))] (.tup [.exact (.int .i64 r.1), .row 1 zab r.2.1, .exact (.int .i64 r.2.2)]))
  |0=>(λ _ _ _ _ h=>by have h':(none:Option _)=some _:=h;cases h')
  |n+1=>by
    have ih:=m_ref9_walk_S_ok n
    exact λ a0 a1 a2 r h=>m_ref9_walk_F_ok (m_ref9_walk_S n) ih a0 a1 a2 r h
theorem m_ref9_walk_ok (a0:List UInt8) (a1:Int) (a2:Bool) (r:Int×(List (List UInt8))×Int) (h:m_ref9_walk a0 a1 a2=some r):Pure Tryz.prog 90 [(.exact (.string (bs a0))),(.exact (.int .i64 a1)),(.exact (.bool a2))] (.tup [.exact (.int .i64 r.1), .row 1 zab r.2.1, .exact (.int .i64 r.2.2)]):=(m_ref9_walk_S_ok FU) a0 a1 a2 r h
theorem m_ref9_read_ok (a0:List UInt8) (a1:Int) (r:Int×(List (List UInt8))×Int) (h:m_ref9_read a0 a1=some r):Pure Tryz.prog 83 [(.exact (.string (bs a0))),(.exact (.int .i64 a1))] (.tup [.exact (.int .i64 r.1), .row 1 zab r.2.1, .exact (.int .i64 r.2.2)]):=by
 unfold m_ref9_read at h
 refine Pure.ofFun (zam func83 rfl ntmps83 (by simp) rfl (res3 rfl) λ E hE=>zca (sr (qa (.xi 0) rfl (qa (.exact (.slice none 0 0)) rfl (qa (.xi 0) rfl (gd (qm (.xs a0) rfl (qm (.xi a1) rfl ?_))))))))
 obtain⟨y1,a,h⟩:=zae h
 refine gq (zal (m_ref9_walk_ok _ _ _ _ a) func90 (by kernel_rfl) (lc lf (lc lf (lc lf ln))) (gq (zbq (av:= .xi y1.1) rfl rfl (gq (zbq (av:= .row 1 zab y1.2.1) rfl rfl (gq (zbq (av:= .xi y1.2.2) rfl rfl (qa (.xi y1.1) rfl (qa (.row 1 zab y1.2.1) rfl (qa (.xi y1.2.2) rfl (gc (zbn ?_))))))))))))
 obtain rfl:=oi h
 refine ke (pt (pt (pt AF0 4 (.xi y1.1)) 5 (.row 1 zab y1.2.1)) 6 (.xi y1.2.2)) [] rfl (s3 rfl rfl rfl) ⟨rfl,rfl⟩
theorem m_ref9_Valid_ok (a0:List UInt8) (r:Bool) (h:m_ref9_Valid a0=some r):Pure Tryz.prog 40 [(.exact (.string (bs a0)))] (.exact (.bool r)):=by
 unfold m_ref9_Valid at h
 refine Pure.ofFun (zam func40 rfl ntmps40 (by simp) rfl (res1 rfl) λ E hE=>zca (sr (qa (.xb false) rfl (gc (zan (sr (qm (.xs a0) rfl (gq (op_lenS (by kernel_rfl) rfl (gq (zfx rfl rfl (gc (kd (p:=131072<(List.length a0:Int)) rfl h (λ hc h=> ?_) (λ hc h=> ?_))))))))))))))
 .refine zan ?_
  cases h
 .refine zap (zaf (sr (qm (.xs a0) rfl ?_)))
  obtain⟨y1,b,h⟩:=zae h
  refine gq (zal (m_ref9_read_ok _ _ _ b) func83 (by kernel_rfl) (lc lf (lc lf ln)) (qm (.tup [.xi y1.1, .row 1 zab y1.2.1, .xi y1.2.2]) rfl (gq (zbq (av:= .xi y1.1) rfl rfl (gq (zbq (av:= .row 1 zab y1.2.1) rfl rfl (gq (zbq (av:= .xi y1.2.2) rfl rfl (qa (.xi y1.1) rfl (qa (.row 1 zab y1.2.1) rfl (qa (.xi y1.2.2) rfl (gc (zax h (λ(a:Bool)=>(pt AF0 2 (.xb a))) (λ(a:Bool)=>[]) (λ k2 h=> ?_) (λ a h=> ?_))))))))))))))
  .refine kr (qm (.xi y1.1) rfl (gq (zfx rfl rfl (qm (.xb (decide (0<y1.1))) rfl (zcc (p:=0<y1.1) 17 rfl (λ hc=> ?_) (λ hc=> ?_))))))
   .replace h:=zcg h hc
    refine gy (zah (av:= .xi y1.1) rfl (gy (zah (av:= .xs a0) rfl (gy (op_lenS (by kernel_rfl) rfl (gy (zbf rfl rfl (gq (zat rfl (av:= .xb (decide (y1.1=(List.length a0:Int)))) rfl (qa (.xb (decide (y1.1=(List.length a0:Int)))) rfl (zbc (zaa ⟨_,h,s1 rfl⟩))))))))))))
   .replace h:=zcf h hc
    refine gn (gn (gn (gn (gq (zar rfl (av:= .xb false) rfl (qa (.xb false) rfl (zbc (zaa ⟨_,h,s1 rfl⟩))))))))
  .refine zbn ?_
   obtain rfl:=oi h
   refine ke (pt AF0 2 (.xb a)) [] rfl (s1 rfl) ⟨rfl,rfl⟩
theorem m_ref9_all_ok (a0:List (List UInt8)) (r:Bool) (h:m_ref9_all a0=some r):Pure Tryz.prog 104 [(.row 1 zab a0)] (.exact (.bool r)):=by
 unfold m_ref9_all at h
 refine Pure.ofFun (zam func104 rfl ntmps104 (by simp) rfl (res1 rfl) λ E hE=>zca (sr (qa (.xb false) rfl (gc (zbw h (AF0) ([]) (λ k1 h=> ?_) (λ  h=> ?_))))))
 .refine sr (qa (.xi 0) rfl (gc (zaq (zcr (m_ref9_all_L2 a0 k1) (m_ref9_all_B2 a0 k1) (λ _=>rfl) (λ m _=>rfl) h (λ(b:Int)=>(pt (pt AF0 0 (.row 1 zab a0)) 3 (.xi b))) (λ(b:Int)=>[]) ?_ (λ d b h=> ?_)))))
  .exact s2 rfl rfl
  .unfold m_ref9_all_B2 at h
   refine zan (sr (qm (.xi b) rfl (qm (.row 1 zab a0) rfl (gq (zao (by kernel_rfl) rfl (gq (zbm rfl rfl (gc (kd (p:=b<(List.length a0:Int)) rfl h (λ hc h=> ?_) (λ hc h=> ?_))))))))))
   .refine zap (zaf (zan (zaq (sr (qm (.row 1 zab a0) rfl (qm (.xi b) rfl ?_))))))
    obtain⟨n13,h⟩:=zad h
    refine gq (zai (by kernel_rfl) rfl rfl n13.1 n13.2 (gq (zak (a:= .xs (gi a0 b)) (by kernel_rfl) rfl rfl ?_)))
    obtain⟨y14,c,h⟩:=zae h
    refine gq (zal (m_ref9_Valid_ok _ _ c) func40 (by kernel_rfl) (lc lf ln) (gq (zdh rfl (gc (kb (p:= !y14) rfl h (λ hc h=> ?_) (λ hc h=> ?_))))))
    .refine zan ?_
     cases h
    .refine zap (zau (zaf (kr (qm (.xi b) rfl (gq (zbo rfl rfl rfl (qa (.xi (i64 (b+1))) rfl (zbc (zaa ⟨_,h,s2 rfl rfl⟩)))))))))
   .refine zbr (zbi (zbk (zbj (zaa ⟨h,Sub.of_le lt0⟩))))
 .refine sr (qa (.xb true) rfl (gc (zbn ?_)))
  obtain rfl:=oi h
  refine ke (pt AF0 2 (.xb true)) [] rfl (s1 rfl) ⟨rfl,rfl⟩
end
noncomputable section
open Go.RowKit
attribute [local irreducible] AV.exact AV.top AV.row AV.ptr AV.agg AV.tup AV.eptr AV.fn AV.nilq AV.nilqn opA opB opM opR Quiet Loud Reads wpG awp den Sub SubU Pure Fun vecI vecT boxI CellsAll CellsOf OneC LEs LEss
set_option maxRecDepth 100000
set_option maxHeartbeats 4000000
theorem m_ref9_checked_ok (a0:List UInt8) (r:(List UInt8)) (h:m_ref9_checked a0=some r):Pure Tryz.prog 153 [(.exact (.string (bs a0)))] (.exact (.string (bs r))):=by
 unfold m_ref9_checked at h
 refine Pure.ofFun (zam func153 rfl ntmps153 (by simp) rfl (res1 rfl) λ E hE=>zca (sr (qa (.xs ([]:List UInt8)) rfl (gc (zan (sr (qm (.xs a0) rfl ?_)))))))
 obtain⟨y1,a,h⟩:=zae h
 refine gq (zal (m_ref9_Valid_ok _ _ a) func40 (by kernel_rfl) (lc lf ln) (gc (kb (p:=y1) rfl h (λ hc h=> ?_) (λ hc h=> ?_))))
 .refine sr (qm (.xs a0) rfl (qa (.xs a0) rfl (gc (zbn (zdb ?_)))))
  obtain rfl:=oi h
  refine ke (pt AF0 2 (.xs a0)) [] rfl (s1 rfl) ⟨rfl,rfl⟩
 .refine zap (zaf (zan ?_))
  cases h
theorem m_ref9_compound_ok (a0:Int) (a1:List (List UInt8)) (r:(List UInt8)) (h:m_ref9_compound a0 a1=some r):Pure Tryz.prog 105 [(.exact (.int .i64 a0)),(.row 1 zab a1)] (.exact (.string (bs r))):=by
 unfold m_ref9_compound at h
 refine Pure.ofFun (zam func105 rfl ntmps105 (by simp) rfl (res1 rfl) λ E hE=>zca (sr (qa (.xs ([]:List UInt8)) rfl (gc (zan (sr (qm (.row 1 zab a1) rfl (gq (zao (by kernel_rfl) rfl (gq (zfx rfl rfl (gc (kd (p:=65535<(List.length a1:Int)) rfl h (λ hc h=> ?_) (λ hc h=> ?_))))))))))))))
 .refine zan ?_
  cases h
 .refine zap (zaf (zan (zck [] [(0,0),(0,1),(0,2),(0,3),(0,4),(0,5),(0,6),(0,7),(0,8)] hmixP (by kernel_rfl) (pq rfl (zah (av:= .xi a0) rfl (pq rfl (zds (k:= .u8) (r:=(UInt8.toNat (u8i a0):Int)) (by kernel_rfl) rfl (u8i_eq _) (pq rfl (zcd (n:=1) (enc:=c_uint8) [u8i a0] (CellsAll.cons rfl CellsOf.int CellsAll.nil) rfl (by kernel_rfl) (LEss.cons (lc lf ln) LEss.nil) (pq rfl (op_bytesS rfl (by kernel_rfl) rfl (pq rfl (zah (av:= .row 1 zab a1) rfl (pq rfl (zao (by kernel_rfl) rfl ?_)))))))))))))))
  obtain⟨y1,g,h⟩:=zae h
  refine pq rfl (zal (m_ref9_two_ok _ _ g) func106 (by kernel_rfl) (lc lf ln) ?_)
  obtain⟨n2,h⟩:=zad h
  refine pq rfl (op_addS n2 rfl rfl (pq rfl (zcj (av:= .xs ([u8i a0]++y1)) rfl (zcn (zaf (zax h (λ(c:List UInt8)=>(pt (pt AF0 1 (.row 1 zab a1)) 5 (.xs c))) (λ(c:List UInt8)=>[]) (λ k3 h=> ?_) (λ c h=> ?_)))))))
  .refine sr (qa (.xi 0) rfl (gc (zaq (zey (m_ref9_compound_L2 a1 k3) (m_ref9_compound_B2 a1 k3) (λ _ _=>rfl) (λ m _ _=>rfl) h (λ(d:List UInt8) (b:Int)=>(pt (pt (pt AF0 1 (.row 1 zab a1)) 5 (.xs d)) 6 (.xi b))) (λ(d:List UInt8) (b:Int)=>[]) ?_ (λ l d b h=> ?_)))))
   .exact s3 rfl rfl rfl
   .unfold m_ref9_compound_B2 at h
    refine zan (sr (qm (.xi b) rfl (qm (.row 1 zab a1) rfl (gq (zao (by kernel_rfl) rfl (gq (zbm rfl rfl (gc (kd (p:=b<(List.length a1:Int)) rfl h (λ hc h=> ?_) (λ hc h=> ?_))))))))))
    .refine zap (zaf (zan (zaq (zan (zax h (λ(e:Bool)=>(pt (pt (pt (pt AF0 1 (.row 1 zab a1)) 5 (.xs d)) 6 (.xi b)) 36 (.xb e))) (λ(e:Bool)=>[]) (λ k114 h=> ?_) (λ e h=> ?_))))))
     .refine kr (qm (.row 1 zab a1) rfl (qm (.xi b) rfl ?_))
      obtain⟨n116,h⟩:=zad h
      refine gq (zai (by kernel_rfl) rfl rfl n116.1 n116.2 (gq (zak (a:= .xs (gi a1 b)) (by kernel_rfl) rfl rfl (gq (op_eqlS rfl rfl (qm (.xb (decide ((gi a1 b)=([]:List UInt8)))) rfl (zcc (p:=(gi a1 b)=([]:List UInt8)) 32 rfl (λ hc=> ?_) (λ hc=> ?_))))))))
      .replace h:=zcg h hc
       refine gn (gn (gn (gq (zat rfl (av:= .xb true) rfl (zbc (zaa ⟨_,h,s4 rfl rfl rfl rfl⟩))))))
      .replace h:=zcf h hc
       refine gy (zah (av:= .xs d) rfl (gy (op_lenS (by kernel_rfl) rfl (gy (zfx rfl rfl (gq (zar rfl (av:= .xb (decide (131072<(List.length d:Int)))) rfl (zbc (zaa ⟨_,h,s4 rfl rfl rfl rfl⟩)))))))))
     .refine kb (p:=e) rfl h (λ hc h=> ?_) (λ hc h=> ?_)
      .refine zan ?_
       cases h
      .refine zap (zaf (kr (qm (.xs d) rfl (qm (.row 1 zab a1) rfl (qm (.xi b) rfl ?_)))))
       obtain⟨n117,h⟩:=zad h
       refine gq (zai (by kernel_rfl) rfl rfl n117.1 n117.2 (gq (zak (a:= .xs (gi a1 b)) (by kernel_rfl) rfl rfl ?_)))
       obtain⟨n118,h⟩:=zad h
       refine gq (op_addS n118 rfl rfl (qa (.xs (d++(gi a1 b))) rfl (zbc (zau (zaf (kr (qm (.xi b) rfl (gq (zbo rfl rfl rfl (qa (.xi (i64 (b+1))) rfl (zbc (zaa ⟨_,_,h,s3 rfl rfl rfl⟩))))))))))))
    .refine zbr (zbi (zbk (zbj (zaa ⟨_,h,s2 rfl rfl⟩))))
  .refine zan (sr (qm (.xs c) rfl ?_))
   obtain⟨y122,i,h⟩:=zae h
   refine gq (zal (m_ref9_read_ok _ _ _ i) func83 (by kernel_rfl) (lc lf (lc lf ln)) (qm (.tup [.xi y122.1, .row 1 zab y122.2.1, .xi y122.2.2]) rfl (gq (zbq (av:= .xi y122.1) rfl rfl (gq (zbq (av:= .row 1 zab y122.2.1) rfl rfl (gq (zbq (av:= .xi y122.2.2) rfl rfl (qa (.xi y122.1) rfl (qa (.row 1 zab y122.2.1) rfl (qa (.xi y122.2.2) rfl (gc (zax h (λ(f:Bool)=>(pt (pt AF0 5 (.xs c)) 59 (.xb f))) (λ(f:Bool)=>[]) (λ k123 h=> ?_) (λ f h=> ?_))))))))))))))
   .refine kr (qm (.xi y122.1) rfl (qm (.xs c) rfl (gq (op_lenS (by kernel_rfl) rfl (gq (zfr rfl rfl (qm (.xb (decide (¬y122.1=(List.length c:Int)))) rfl (zcc (p:= ¬y122.1=(List.length c:Int)) 53 rfl (λ hc=> ?_) (λ hc=> ?_)))))))))
    .replace h:=zcg h hc
     refine gn (gn (gn (gn (gn (gq (zat rfl (av:= .xb true) rfl (zbc (zaa ⟨_,h,s2 rfl rfl⟩))))))))
    .replace h:=zcf h hc
     refine gy (zah (av:= .row 1 zab y122.2.1) rfl (gy (zao (by kernel_rfl) rfl (gy (zah (av:= .row 1 zab a1) rfl (gy (zao (by kernel_rfl) rfl (gy (zfr rfl rfl (gq (zar rfl (av:= .xb (decide (¬(List.length y122.2.1:Int)=(List.length a1:Int)))) rfl (zbc (zaa ⟨_,h,s2 rfl rfl⟩)))))))))))))
   .refine kb (p:=f) rfl h (λ hc h=> ?_) (λ hc h=> ?_)
    .refine zan ?_
     cases h
    .refine zap (zaf (sr (qm (.xs c) rfl ?_)))
     obtain⟨y124,j,h⟩:=zae h
     refine gq (zal (m_ref9_checked_ok _ _ j) func153 (by kernel_rfl) (lc lf ln) (qa (.xs y124) rfl (gc (zbn ?_))))
     obtain rfl:=oi h
     refine ke (pt AF0 4 (.xs y124)) [] rfl (s1 rfl) ⟨rfl,rfl⟩
theorem m_ref9_Make_ok (a0:Int) (a1:List (List UInt8)) (r:(List UInt8)) (h:m_ref9_Make a0 a1=some r):Pure Tryz.prog 60 [(.exact (.int .i64 a0)),(.row 1 zab a1)] (.exact (.string (bs r))):=by
 unfold m_ref9_Make at h
 refine Pure.ofFun (zam func60 rfl ntmps60 (by simp) rfl (res1 rfl) λ E hE=>zca (sr (qa (.xs ([]:List UInt8)) rfl (gc (zan (sr (qm (.row 1 zab a1) rfl ?_)))))))
 obtain⟨y1,a,h⟩:=zae h
 refine gq (zal (m_ref9_all_ok _ _ a) func104 (by kernel_rfl) (lc lf ln) (gq (zdh rfl (gc (kb (p:= !y1) rfl h (λ hc h=> ?_) (λ hc h=> ?_))))))
 .refine zan ?_
  cases h
 .refine zap (zaf (sr (qm (.xi a0) rfl (qm (.row 1 zab a1) rfl ?_))))
  obtain⟨y2,b,h⟩:=zae h
  refine gq (zal (m_ref9_compound_ok _ _ _ b) func105 (by kernel_rfl) (lc lf (lc lf ln)) (qa (.xs y2) rfl (gc (zbn ?_))))
  obtain rfl:=oi h
  refine ke (pt AF0 4 (.xs y2)) [] rfl (s1 rfl) ⟨rfl,rfl⟩
theorem m_ref9_Dot_ok (a0:Int) (a1:List (List UInt8)) (r:(List UInt8)) (h:m_ref9_Dot a0 a1=some r):Pure Tryz.prog 28 [(.exact (.int .i64 a0)),(.row 1 zab a1)] (.exact (.string (bs r))):=by
 unfold m_ref9_Dot at h
 refine Pure.ofFun (zam func28 rfl ntmps28 (by simp) rfl (res1 rfl) λ E hE=>zca (sr (qa (.xs ([]:List UInt8)) rfl (gd (qm (.xi a0) rfl ?_)))))
 obtain⟨y1,a,h⟩:=zae h
 refine gq (zal (m_ref9_Name_ok _ _ a) func61 (by kernel_rfl) (lc lf ln) (G_l rfl (op_litI (n:=1) (enc:=zab) [y1] (by kernel_rfl) (CellsAll.cons rfl CellsOf.str CellsAll.nil) rfl (by kernel_rfl) (LEss.cons (lc lf ln) LEss.nil) (λ v2=>qm (.row 1 zab a1) rfl ?_))))
 obtain⟨n3,h⟩:=zad h
 refine G_l rfl (zcu (by kernel_rfl) rfl rfl zco n3 (λ v4=>G_sub rfl (SubU.freezeT (s:=9) rfl zbt) ?_))
 obtain⟨y5,b,h⟩:=zae h
 refine gq (zal (m_ref9_Make_ok _ _ _ b) func60 (by kernel_rfl) (lc lf (lc lf ln)) (qa (.xs y5) rfl (gc (zbn ?_))))
 obtain rfl:=oi h
 refine ke (pt AF0 4 (.xs y5)) [] rfl (s1 rfl) ⟨rfl,rfl⟩
theorem m_gen_Choices_Next_ok {w0:Nat} (a0:(List Int)×Int) (a1:Int) (r:Int×((List Int)×Int)) (h:zhc a0 a1=some r):Fun Tryz.prog 62 [(pA w0 0),(.exact (.int .i64 a1))] [boxI 93 w0 [.row 1 zav a0.1, .exact (.int .i64 a0.2)]] (λ a s=>a= .exact (.int .i64 r.1)/\s=[boxI 93 w0 [.row 1 zav r.2.1, .exact (.int .i64 r.2.2)]]):=by
 unfold zhc at h
 refine zam func62 rfl ntmps62 (by simp) rfl (res1 rfl) λ E hE=>zca (sr (qa (.xi 0) rfl (gc (zan (zan (zck [] [(0,0),(0,1),(0,2),(0,4),(0,5),(0,6),(1,3),(1,7),(0,8),(0,9)] hmixP (by kernel_rfl) (pq rfl (zah (av:=pA w0 0) rfl (pq rfl (zes rfl (pq rfl (zba (o:=1) (by kernel_rfl) rfl (pq rfl (zah (av:=pA w0 0) rfl (pq rfl (zes rfl (pq rfl (zba (o:=0) (by kernel_rfl) rfl (P_r rfl (zaz (a:= .xi a0.2) (by kernel_rfl) rfl rfl (P_r rfl (zaz (a:= .row 1 zav a0.1) (by kernel_rfl) rfl rfl (pq rfl (zao (by kernel_rfl) rfl (pq rfl (zgm rfl rfl (zcn (zaf (kd (p:=(List.length a0.1:Int)≤a0.2) rfl h (λ hc h=> ?_) (λ hc h=> ?_))))))))))))))))))))))))))))))
 .refine sr (qa (.xi 0) rfl (gc (zbn (zdb ?_))))
  obtain rfl:=oi h
  refine ke (pt AF0 4 (.xi 0)) [boxI 93 w0 [.row 1 zav a0.1, .xi a0.2]] rfl (s1 rfl) ⟨rfl,rfl⟩
 .refine zap (zaf (zan ?_))
  cases h
theorem m_gen_code_ok (a0:Int) (a1:Int) (a2:List (List (Int×Int×Int))) (r:(List (Int×Int×Int))) (h:m_gen_code a0 a1 a2=some r):Pure Tryz.prog 63 [(.exact (.int .i64 a0)),(.exact (.int .i64 a1)),(.row 1 c_L_api_Code a2)] (.row 3 zeq r):=by
 unfold m_gen_code at h
 refine Pure.ofFun (zam func63 rfl ntmps63 (by simp) rfl (res1 rfl) λ E hE=>zca (sr (qa (.exact (.slice none 0 0)) rfl (gd (qm (.xi a0) rfl (qm (.xi a1) rfl (qm (.row 1 c_L_api_Code a2) rfl (gq (zao (by kernel_rfl) rfl (gq (zft (c':=zeq (a0,a1,(List.length a2:Int))) (CellsAll.cons rfl CellsOf.int (CellsAll.cons rfl CellsOf.int (CellsAll.cons rfl CellsOf.int CellsAll.nil))) rfl (lc lf (lc lf (lc lf ln))) (G_l rfl (op_litI (n:=3) (enc:=zeq) [(a0,a1,(List.length a2:Int))] (by kernel_rfl) (CellsAll.cons rfl CellsOf.agg CellsAll.nil) rfl (by kernel_rfl) (LEss.cons (lc lf (lc lf (lc lf ln))) LEss.nil) (λ v1=>qa (.exact v1) rfl (gc (zcb h (λ(c:List (Int×Int×Int)) (v7_j2:Value)=>(pt AF0 7 (.exact v7_j2))) (λ(c:List (Int×Int×Int)) (v7_j2:Value)=>[vecT Tryz.prog 98 3 zeq v7_j2 c]) (λ k2 h=> ?_) (λ c v7_j2 h=> ?_)))))))))))))))))
 .refine sr (qa (.xi 0) rfl (gc (zaq (zcz (m_gen_code_L2 a2 k2) (m_gen_code_B2 a2 k2) (λ _ _=>rfl) (λ m _ _=>rfl) h (λ(d:List (Int×Int×Int)) (b:Int) (v7_l2:Value)=>(pt (pt (pt AF0 2 (.row 1 c_L_api_Code a2)) 7 (.exact v7_l2)) 8 (.xi b))) (λ(d:List (Int×Int×Int)) (b:Int) (v7_l2:Value)=>[vecT Tryz.prog 98 3 zeq v7_l2 d]) v1 ?_ (λ e d b v7_l2 h=> ?_)))))
  .exact s3 rfl rfl rfl
  .unfold m_gen_code_B2 at h
   refine zan (sr (qm (.xi b) rfl (qm (.row 1 c_L_api_Code a2) rfl (gq (zao (by kernel_rfl) rfl (gq (zbm rfl rfl (gc (kd (p:=b<(List.length a2:Int)) rfl h (λ hc h=> ?_) (λ hc h=> ?_))))))))))
   .refine zap (zaf (zan (zaq (kr (qm (.exact v7_l2) rfl (qm (.row 1 c_L_api_Code a2) rfl (qm (.xi b) rfl ?_)))))))
    obtain⟨n19,h⟩:=zad h
    refine gq (zai (by kernel_rfl) rfl rfl n19.1 n19.2 (gq (zak (a:= .row 3 zeq (gi a2 b)) (by kernel_rfl) rfl rfl ?_)))
    obtain⟨n20,h⟩:=zad h
    refine G_l rfl (zcu (by kernel_rfl) rfl rfl oc_c_api_Code n20 (λ v21=>qa (.exact v21) rfl (zbc (zau (zaf (kr (qm (.xi b) rfl (gq (zbo rfl rfl rfl (qa (.xi (i64 (b+1))) rfl (zbc (zaa ⟨_,_,v21,h,s3 rfl rfl rfl⟩))))))))))))
   .refine zbr (zbi (zbk (zbj (zaa ⟨_,v7_l2,h,s1 rfl⟩))))
 .refine sr (qm (.exact v7_j2) rfl (qa (.exact v7_j2) rfl (gc (zbn ?_))))
  obtain rfl:=oi h
  refine ke (pt AF0 6 (.row 3 zeq c)) [] rfl (Sub.trans (SubU.to (SubU.freezeT (s:=6) rfl len_c_api_Code)) (s1 rfl)) ⟨rfl,rfl⟩
theorem m_gen_Choices_body_F_ok {w0:Nat} (f:((List Int)×Int)->Int->Int->Bool->Option ((List (Int×Int×Int))×((List Int)×Int))) (hself_gen_Choices_body: ∀ ⦃w0:Nat⦄ (a0:(List Int)×Int) (a1:Int) (a2:Int) (a3:Bool) (r:(List (Int×Int×Int))×((List Int)×Int)),f a0 a1 a2 a3=some r->Fun Tryz.prog 29 [(pA w0 0),(.exact (.int .i64 a1)),(.exact (.int .i64 a2)),(.exact (.bool a3))] [boxI 93 w0 [.row 1 zav a0.1, .exact (.int .i64 a0.2)]] (λ a s=>a= .row 3 zeq r.1/\s=[boxI 93 w0 [.row 1 zav r.2.1, .exact (.int .i64 r.2.2)]])) (a0:(List Int)×Int) (a1:Int) (a2:Int) (a3:Bool) (r:(List (Int×Int×Int))×((List Int)×Int)) (h:m_gen_Choices_body_F f a0 a1 a2 a3=some r):Fun Tryz.prog 29 [(pA w0 0),(.exact (.int .i64 a1)),(.exact (.int .i64 a2)),(.exact (.bool a3))] [boxI 93 w0 [.row 1 zav a0.1, .exact (.int .i64 a0.2)]] (λ a s=>a= .row 3 zeq r.1/\s=[boxI 93 w0 [.row 1 zav r.2.1, .exact (.int .i64 r.2.2)]]):=by
 unfold m_gen_Choices_body_F at h
 refine zam func29 rfl ntmps29 (by simp) rfl (res1 rfl) λ E hE=>zca (sr (qa (.exact (.slice none 0 0)) rfl (gd (qm (pA w0 0) rfl ?_))))
 obtain⟨y1,g,h⟩:=zae h
 refine G_l rfl (zdg (m_gen_Choices_Next_ok _ _ _ g) func62 (by kernel_rfl) (lc lf (lc lf ln)) (qa (.xi y1.1) rfl (gc (zan (sr (qm (.xi a1) rfl (gq (op_leq rfl rfl (gc (kd (p:=a1≤1) rfl h (λ hc h=> ?_) (λ hc h=> ?_)))))))))))
 .cases h
 .refine zap (zaf (zax h (λ(b:Int)=>(pt (pt (pt (pt (pt AF0 0 (pA w0 0)) 1 (.xi a1)) 2 (.xi a2)) 3 (.xb a3)) 9 (.xi b))) (λ(b:Int)=>[boxI 93 w0 [.row 1 zav y1.2.1, .xi y1.2.2]]) (λ k3 h=> ?_) (λ b h=> ?_)))
  .refine zax h (λ(d:Bool)=>(pt (pt (pt (pt (pt (pt AF0 0 (pA w0 0)) 1 (.xi a1)) 2 (.xi a2)) 3 (.xb a3)) 9 (.xi y1.1)) 24 (.xb d))) (λ(d:Bool)=>[boxI 93 w0 [.row 1 zav y1.2.1, .xi y1.2.2]]) (λ k5 h=> ?_) (λ d h=> ?_)
   .refine kr (qm (.xb a3) rfl (qm (.xb a3) rfl (zfl (c:=a3) 17 rfl (λ hc=> ?_) (λ hc=> ?_))))
    .replace h:=zcg h hc
     refine gy (zah (av:= .xi y1.1) rfl (gy (zbf rfl rfl (gy (zah (av:= .xb (decide (y1.1=0))) rfl (zcc (p:=y1.1=0) 20 rfl (λ hc=> ?_) (λ hc=> ?_)))))))
     .replace h:=zcg h hc
      refine gn (gn (gy (zat rfl (av:= .xb true) rfl (gq (zat rfl (av:= .xb true) rfl (zbc (zaa ⟨_,h,so (l4 rfl rfl rfl rfl (lq rfl (lq rfl lt0)))⟩)))))))
     .replace h:=zcf h hc
      refine gy (zah (av:= .xi y1.1) rfl (gy (zbf rfl rfl (gy (zar rfl (av:= .xb (decide (y1.1=3))) rfl (gq (zat rfl (av:= .xb (decide (y1.1=3))) rfl (zbc (zaa ⟨_,h,so (l4 rfl rfl rfl rfl (lq rfl (lq rfl lt0)))⟩)))))))))
    .replace h:=zcf h hc
     refine gn (gn (gn (G_u rfl rfl (G_u rfl rfl (gn (gq (zar rfl (av:= .xb false) rfl (zbc (zaa ⟨_,h,so (l4 rfl rfl rfl rfl (lq rfl (lq rfl lt0)))⟩)))))))))
   .refine kb (p:=d) rfl h (λ hc h=> ?_) (λ hc h=> ?_)
    .refine kr (qa (.xi 4) rfl (zbc (zaa ⟨_,h,so (l4 rfl rfl rfl rfl (lq rfl lt0))⟩)))
    .refine zap (zaa ⟨_,h,so (l4 rfl rfl rfl rfl (lq rfl lt0))⟩)
  .refine zan (sr (qm (.xi b) rfl (gc (zaq (sr (gq (zbf rfl rfl (qa (.xb (decide (b=0))) rfl (gc (kd (p:=b=0) rfl h (λ hc h=> ?_) (λ hc h=> ?_)))))))))))
   .refine sr (qm (pA w0 0) rfl (qm (.xi a2) rfl ?_))
    obtain⟨y14,i,h⟩:=zae h
    refine G_l rfl (zdg (m_gen_Choices_Next_ok _ _ _ i) func62 (by kernel_rfl) (lc lf (lc lf ln)) ?_)
    obtain⟨y15,j,h⟩:=zae h
    refine gq (zal (m_gen_code_ok _ _ _ _ j) func63 (by kernel_rfl) (lc lf (lc lf (lc (zcy (by decide)) ln))) (qa (.row 3 zeq y15) rfl (gc (zbn (zde (zdb ?_))))))
    obtain rfl:=oi h
    refine ke (pt AF0 8 (.row 3 zeq y15)) [boxI 93 w0 [.row 1 zav y14.2.1, .xi y14.2.2]] rfl (s1 rfl) ⟨rfl,rfl⟩
   .refine sr (gq (zbf rfl rfl (qa (.xb (decide (b=1))) rfl (gc (kd (p:=b=1) rfl h (λ hc h=> ?_) (λ hc h=> ?_))))))
    .refine zan ?_
     cases h
    .refine sr (gq (zbf rfl rfl (qa (.xb (decide (b=2))) rfl (gc (kd (p:=b=2) rfl h (λ hc h=> ?_) (λ hc h=> ?_))))))
     .refine zan ?_
      cases h
     .refine sr (gq (zbf rfl rfl (qa (.xb (decide (b=3))) rfl (gc (kd (p:=b=3) rfl h (λ hc h=> ?_) (λ hc h=> ?_))))))
      .refine zan ?_
       cases h
      .refine zax h (λ(e:Bool)=>(pt (pt (pt (pt (pt (pt AF0 0 (pA w0 0)) 1 (.xi a1)) 2 (.xi a2)) 3 (.xb a3)) 25 (.xi b)) 44 (.xb e))) (λ(e:Bool)=>[boxI 93 w0 [.row 1 zav y1.2.1, .xi y1.2.2]]) (λ k16 h=> ?_) (λ e h=> ?_)
       .refine sr (gq (zbf rfl rfl (qa (.xb (decide (b=4))) rfl (gc (kd (p:=b=4) rfl h (λ hc h=> ?_) (λ hc h=> ?_))))))
        .refine zap (zaa ⟨_,h,so (l4 rfl rfl rfl rfl (lq rfl (lq rfl lt0)))⟩)
        .refine sr (gq (zbf rfl rfl (qa (.xb (decide (b=5))) rfl (gc (kd (p:=b=5) rfl h (λ hc h=> ?_) (λ hc h=> ?_))))))
         .refine zap (zaa ⟨_,h,so (l4 rfl rfl rfl rfl (lq rfl (lq rfl lt0)))⟩)
         .refine sr (gq (zbf rfl rfl (qa (.xb (decide (b=6))) rfl (gc (kd (p:=b=6) rfl h (λ hc h=> ?_) (λ hc h=> ?_))))))
          .refine zap (zaa ⟨_,h,so (l4 rfl rfl rfl rfl (lq rfl (lq rfl lt0)))⟩)
          .refine kr (gq (zbf rfl rfl (qa (.xb (decide (b=7))) rfl (zbc (zaa ⟨_,h,so (l4 rfl rfl rfl rfl (lq rfl (lq rfl lt0)))⟩)))))
       .refine kb (p:=e) rfl h (λ hc h=> ?_) (λ hc h=> ?_)
        .refine sr (qm (pA w0 0) rfl ?_)
         obtain⟨y17,k,h⟩:=zae h
         refine G_l rfl (zdg (m_gen_Choices_Next_ok _ _ _ k) func62 (by kernel_rfl) (lc lf (lc lf ln)) ?_)
         obtain⟨y18,l,h⟩:=zae h
         refine gq (zal (m_gen_code_ok _ _ _ _ l) func63 (by kernel_rfl) (lc lf (lc lf (lc (zcy (by decide)) ln))) (qm (pA w0 0) rfl (qm (.xi a1) rfl (gq (op_sub rfl rfl rfl (qm (.xi a2) rfl ?_))))))
         obtain⟨y19,m,h⟩:=zae h
         refine G_l rfl (zdg (hself_gen_Choices_body _ _ _ _ _ m) func29 (by kernel_rfl) (lc lf (lc lf (lc lf (lc lf ln)))) (gq (zcd (n:=1) (enc:=c_L_api_Code) [y18,y19.1] (CellsAll.cons rfl CellsOf.row (CellsAll.cons rfl CellsOf.row CellsAll.nil)) rfl (by kernel_rfl) (LEss.cons (lc lf ln) (LEss.cons (lc lf ln) LEss.nil)) ?_)))
         obtain⟨y20,o,h⟩:=zae h
         refine gq (zal (m_gen_code_ok _ _ _ _ o) func63 (by kernel_rfl) (lc lf (lc lf (lc lf ln))) (qa (.row 3 zeq y20) rfl (gc (zbn (zde (zdb ?_))))))
         obtain rfl:=oi h
         refine ke (pt AF0 8 (.row 3 zeq y20)) [boxI 93 w0 [.row 1 zav y19.2.1, .xi y19.2.2]] rfl (s1 rfl) ⟨rfl,rfl⟩
        .refine sr (gq (zbf rfl rfl (qa (.xb (decide (b=8))) rfl (gc (kd (p:=b=8) rfl h (λ hc h=> ?_) (λ hc h=> ?_))))))
         .refine zan ?_
          cases h
         .refine sr (gq (zbf rfl rfl (qa (.xb (decide (b=9))) rfl (gc (kd (p:=b=9) rfl h (λ hc h=> ?_) (λ hc h=> ?_))))))
          .refine zan ?_
           cases h
          .refine sr (gq (zbf rfl rfl (qa (.xb (decide (b=10))) rfl (gc (kd (p:=b=10) rfl h (λ hc h=> ?_) (λ hc h=> ?_))))))
           .refine zan ?_
            cases h
           .refine sr (gq (zbf rfl rfl (qa (.xb (decide (b=11))) rfl (gc (kd (p:=b=11) rfl h (λ hc h=> ?_) (λ hc h=> ?_))))))
            .refine zan ?_
             cases h
            .refine sr (gq (zbf rfl rfl (qa (.xb (decide (b=12))) rfl (gc (kd (p:=b=12) rfl h (λ hc h=> ?_) (λ hc h=> ?_))))))
             .refine zan ?_
              cases h
             .refine zap (zau (zaf (zan ?_)))
              cases h
theorem m_gen_Choices_body_S_ok: ∀n:Nat,(∀ ⦃w0:Nat⦄ (a0:(List Int)×Int) (a1:Int) (a2:Int) (a3:Bool) (r:(List (Int×Int×Int))×((List Int)×Int)),zhl n a0 a1 a2 a3=some r->Fun Tryz.prog 29 [(pA w0 0),(.exact (.int .i64 a1)),(.exact (.int .i64 a2)),(.exact (.bool a3))] [boxI 93 w0 [.row 1 zav a0.1, .exact (.int .i64 a0.2)]] (λ a s=>a= .row 3 zeq r.1/\s=[boxI 93 w0 [.row 1 zav r.2.1, .exact (.int .i64 r.2.2)]]))
  |0=>(λ _ _ _ _ _ _ h=>by have h':(none:Option _)=some _:=h;cases h')
  |n+1=>by
    have ih:=m_gen_Choices_body_S_ok n
    exact λ w0 a0 a1 a2 a3 r h=>m_gen_Choices_body_F_ok (zhl n) ih a0 a1 a2 a3 r h
theorem m_gen_Choices_body_ok {w0:Nat} (a0:(List Int)×Int) (a1:Int) (a2:Int) (a3:Bool) (r:(List (Int×Int×Int))×((List Int)×Int)) (h:m_gen_Choices_body a0 a1 a2 a3=some r):Fun Tryz.prog 29 [(pA w0 0),(.exact (.int .i64 a1)),(.exact (.int .i64 a2)),(.exact (.bool a3))] [boxI 93 w0 [.row 1 zav a0.1, .exact (.int .i64 a0.2)]] (λ a s=>a= .row 3 zeq r.1/\s=[boxI 93 w0 [.row 1 zav r.2.1, .exact (.int .i64 r.2.2)]]):=(m_gen_Choices_body_S_ok FU) a0 a1 a2 a3 r h
theorem m_gen_Choices_Core_ok {w0:Nat} (a0:(List Int)×Int) (a1:Int) (a2:Bool) (r:((List ((List UInt8)×Int×Bool×(Int×Int)×(List (Int×Int×Int))))×(List ((List UInt8)×Int×(List Int)×(List (List UInt8))))×(List (Int×Int×Int×Int×(Int×Int)))×(List (List UInt8)))×((List Int)×Int)) (h:m_gen_Choices_Core a0 a1 a2=some r):Fun Tryz.prog 9 [(pA w0 0),(.exact (.int .i64 a1)),(.exact (.bool a2))] [boxI 93 w0 [.row 1 zav a0.1, .exact (.int .i64 a0.2)]] (λ a s=>a= .agg (zcw r.1)/\s=[boxI 93 w0 [.row 1 zav r.2.1, .exact (.int .i64 r.2.2)]]):=by
 unfold m_gen_Choices_Core at h
 refine fun_of_awp_cell (sz:=4) func9 rfl ntmps9 (by simp) rfl (by kernel_rfl) λ E hE=>zca (sr (G_l rfl (zel (c:=[.exact (.slice none 0 0), .exact (.slice none 0 0), .row 6 zbh ((([],[],[],[]):(List ((List UInt8)×Int×Bool×(Int×Int)×(List (Int×Int×Int))))×(List ((List UInt8)×Int×(List Int)×(List (List UInt8))))×(List (Int×Int×Int×Int×(Int×Int)))×(List (List UInt8))).2.2.1), .exact (.slice none 0 0)]) rfl (lc lf (lc lf (lc (zcy (by decide)) (lc lf ln)))) (λ b1=>gd (G_l rfl (zel (c:=[.exact (.slice none 0 0), .exact (.slice none 0 0), .row 6 zbh ((([],[],[],[]):(List ((List UInt8)×Int×Bool×(Int×Int)×(List (Int×Int×Int))))×(List ((List UInt8)×Int×(List Int)×(List (List UInt8))))×(List (Int×Int×Int×Int×(Int×Int)))×(List (List UInt8))).2.2.1), .exact (.slice none 0 0)]) rfl (lc lf (lc lf (lc (zcy (by decide)) (lc lf ln)))) (λ b2=>gd (gq (zcd (n:=1) (enc:=c_string) [[97],[98],[99],[100]] (CellsAll.cons rfl CellsOf.str (CellsAll.cons rfl CellsOf.str (CellsAll.cons rfl CellsOf.str (CellsAll.cons rfl CellsOf.str CellsAll.nil)))) rfl (by kernel_rfl) (LEss.cons (lc lf ln) (LEss.cons (lc lf ln) (LEss.cons (lc lf ln) (LEss.cons (lc lf ln) LEss.nil)))) (qa (.row 1 c_string ([[97],[98],[99],[100]])) rfl (gc (k_join2_2 h (λ(b:List ((List UInt8)×Int×(List Int)×(List (List UInt8)))) (d:List (List UInt8)) (v7_1_j3:Value) (v7_3_j3:Value)=>(pt (pt (pt (pt (pt AF0 0 (pA w0 0)) 1 (.xi a1)) 2 (.xb a2)) 6 (pA b1 0)) 7 (pA b2 0))) (λ(b:List ((List UInt8)×Int×(List Int)×(List (List UInt8)))) (d:List (List UInt8)) (v7_1_j3:Value) (v7_3_j3:Value)=>[boxI 93 w0 [.row 1 zav a0.1, .xi a0.2],boxI 38 b1 ([.exact (.slice none 0 0), .exact (.slice none 0 0), .row 6 zbh ((([],[],[],[]):(List ((List UInt8)×Int×Bool×(Int×Int)×(List (Int×Int×Int))))×(List ((List UInt8)×Int×(List Int)×(List (List UInt8))))×(List (Int×Int×Int×Int×(Int×Int)))×(List (List UInt8))).2.2.1), .exact (.slice none 0 0)]),vecT Tryz.prog 34 4 zbs v7_1_j3 b,vecT Tryz.prog 36 1 zab v7_3_j3 d,boxI 38 b2 ([.exact (.slice none 0 0), .exact v7_1_j3, .row 6 zbh ((([],[],[],[]):(List ((List UInt8)×Int×Bool×(Int×Int)×(List (Int×Int×Int))))×(List ((List UInt8)×Int×(List Int)×(List (List UInt8))))×(List (Int×Int×Int×Int×(Int×Int)))×(List (List UInt8))).2.2.1), .exact v7_3_j3])]) (λ k3 h=> ?_) (λ b d v7_1_j3 v7_3_j3 h=> ?_)))))))))))))
 .refine sr (qa (.xi 0) rfl (gc (zaq (k_loop3_2 (m_gen_Choices_Core_L2 k3) (m_gen_Choices_Core_B2 k3) (λ _ _ _=>rfl) (λ m _ _ _=>rfl) h (λ(l:List ((List UInt8)×Int×(List Int)×(List (List UInt8)))) (q:List (List UInt8)) (f:Int) (v7_1_l2:Value) (v7_3_l2:Value)=>(pt (pt (pt (pt (pt (pt (pt AF0 0 (pA w0 0)) 1 (.xi a1)) 2 (.xb a2)) 6 (pA b1 0)) 7 (pA b2 0)) 8 (.row 1 c_string ([[97],[98],[99],[100]]))) 9 (.xi f))) (λ(l:List ((List UInt8)×Int×(List Int)×(List (List UInt8)))) (q:List (List UInt8)) (f:Int) (v7_1_l2:Value) (v7_3_l2:Value)=>[boxI 93 w0 [.row 1 zav a0.1, .xi a0.2],boxI 38 b1 ([.exact (.slice none 0 0), .exact (.slice none 0 0), .row 6 zbh ((([],[],[],[]):(List ((List UInt8)×Int×Bool×(Int×Int)×(List (Int×Int×Int))))×(List ((List UInt8)×Int×(List Int)×(List (List UInt8))))×(List (Int×Int×Int×Int×(Int×Int)))×(List (List UInt8))).2.2.1), .exact (.slice none 0 0)]),vecT Tryz.prog 34 4 zbs v7_1_l2 l,vecT Tryz.prog 36 1 zab v7_3_l2 q,boxI 38 b2 ([.exact (.slice none 0 0), .exact v7_1_l2, .row 6 zbh ((([],[],[],[]):(List ((List UInt8)×Int×Bool×(Int×Int)×(List (Int×Int×Int))))×(List ((List UInt8)×Int×(List Int)×(List (List UInt8))))×(List (Int×Int×Int×Int×(Int×Int)))×(List (List UInt8))).2.2.1), .exact v7_3_l2])]) (.slice none 0 0) (.slice none 0 0) ?_ (λ z l q f v7_1_l2 v7_3_l2 h=> ?_)))))
  .refine Sub.trans (SubU.to (SubU.nilT (P:=Tryz.prog) (t:=34) (n:=4) (enc:=zbs))) (Sub.trans (SubU.to (SubU.nilT (P:=Tryz.prog) (t:=36) (n:=1) (enc:=zab))) (Sub.trans (SubU.to SubU.f2) (Sub.trans (SubU.to SubU.f1) (Sub.trans (SubU.to SubU.f2) (Sub.trans (SubU.to SubU.f3) (Sub.trans (SubU.to SubU.f4) (so (l4 rfl rfl rfl rfl (lq rfl (lq rfl (lq rfl lt0)))))))))))
  .unfold m_gen_Choices_Core_B2 at h
   refine zan (sr (qm (.xi f) rfl (qm (.row 1 c_string ([[97],[98],[99],[100]])) rfl (gq (zao (by kernel_rfl) rfl (gq (zbm rfl rfl (gc (kd (p:=f<(List.length ([[97],[98],[99],[100]]):Int)) rfl h (λ hc h=> ?_) (λ hc h=> ?_))))))))))
   .refine zap (zaf (zan (zaq (zan (zck [] [(0,0),(0,2),(0,3),(0,4),(0,5),(0,6),(0,7),(1,1),(2,8),(0,9),(2,10)] hmixP (by kernel_rfl) (pq rfl (zba (o:=1) (by kernel_rfl) rfl (pq rfl (zah (av:= .row 1 c_string ([[97],[98],[99],[100]])) rfl (pq rfl (zah (av:= .xi f) rfl ?_)))))))))))
    obtain⟨n35,h⟩:=zad h
    refine pq rfl (zai (by kernel_rfl) rfl rfl n35.1 n35.2 (pq rfl (zak (a:= .xs (gi ([[97],[98],[99],[100]]) f)) (by kernel_rfl) rfl rfl (pq rfl (zft (c':=zbs ((gi ([[97],[98],[99],[100]]) f,(-1),[],[]):(List UInt8)×Int×(List Int)×(List (List UInt8)))) (CellsAll.cons rfl CellsOf.str (CellsAll.cons rfl CellsOf.int CellsAll.nil)) rfl (lc lf (lc lf (lc (zcy (by decide)) (lc (zcy (by decide)) ln)))) (pq rfl (zcd (n:=4) (enc:=zbs) ([((gi ([[97],[98],[99],[100]]) f,(-1),[],[]):(List UInt8)×Int×(List Int)×(List (List UInt8)))]:List ((List UInt8)×Int×(List Int)×(List (List UInt8)))) (CellsAll.cons rfl CellsOf.agg CellsAll.nil) rfl (by kernel_rfl) (LEss.cons (lc lf (lc lf (lc lf (lc lf ln)))) LEss.nil) (P_r rfl (opR_f4 (zaz (a:= .exact v7_1_l2) (by kernel_rfl) rfl rfl ?_))))))))))
    obtain⟨n36,h⟩:=zad h
    refine P_l rfl (opB_f2 (zcu (by kernel_rfl) rfl rfl oc_c_api_Info n36 (λ v37=>pq rfl (zba (o:=1) (by kernel_rfl) rfl (P_l rfl (opB_sl (List.Mem.head _) (λ hsl=>(opB_f4 (zbz (c':=[.exact v37]) (c3:=[.exact (.slice none 0 0), .exact v37, .row 6 zbh ((([],[],[],[]):(List ((List UInt8)×Int×Bool×(Int×Int)×(List (Int×Int×Int))))×(List ((List UInt8)×Int×(List Int)×(List (List UInt8))))×(List (Int×Int×Int×Int×(Int×Int)))×(List (List UInt8))).2.2.1), .exact v7_3_l2]) rfl rfl (CellsOf.sl hsl) (lc lf ln) (OneC.sl hsl OneC.nil) (by kernel_rfl) (Nat.le_of_ble_eq_true rfl) rfl (zcn (zaf (zck [] [(0,0),(0,2),(0,3),(0,4),(1,1),(2,5),(0,6),(2,7)] hmixP (by kernel_rfl) (pq rfl (zba (o:=3) (by kernel_rfl) rfl (pq rfl (zah (av:= .xi f) rfl ?_))))))))))))))))
    obtain⟨y38,x,h⟩:=zae h
    refine pq rfl (zal (m_ref9_Dot_ok _ _ _ x) func28 (by kernel_rfl) (lc lf (lc (zcy (by decide)) ln)) (pq rfl (zcd (n:=1) (enc:=zab) [y38] (CellsAll.cons rfl CellsOf.str CellsAll.nil) rfl (by kernel_rfl) (LEss.cons (lc lf ln) LEss.nil) (P_r rfl (zaz (a:= .exact v7_3_l2) (by kernel_rfl) rfl rfl ?_)))))
    obtain⟨n39,h⟩:=zad h
    refine P_l rfl (opB_f4 (zcu (by kernel_rfl) rfl rfl zco n39 (λ v40=>pq rfl (zba (o:=3) (by kernel_rfl) rfl (P_l rfl (opB_sl (List.Mem.head _) (λ hsl=>(opB_f1 (zbz (c':=[.exact v40]) (c3:=[.exact (.slice none 0 0), .exact v37, .row 6 zbh ((([],[],[],[]):(List ((List UInt8)×Int×Bool×(Int×Int)×(List (Int×Int×Int))))×(List ((List UInt8)×Int×(List Int)×(List (List UInt8))))×(List (Int×Int×Int×Int×(Int×Int)))×(List (List UInt8))).2.2.1), .exact v40]) rfl rfl (CellsOf.sl hsl) (lc lf ln) (OneC.sl hsl OneC.nil) (by kernel_rfl) (Nat.le_of_ble_eq_true rfl) rfl (zcn (zau (zaf (kr (qm (.xi f) rfl (gq (zbo rfl rfl rfl (qa (.xi (i64 (f+1))) rfl (zbc (zaa ⟨_,_,_,v37,v40,h, ?_⟩)))))))))))))))))))
    refine Sub.trans (SubU.to SubU.f1) (Sub.trans (SubU.to SubU.f2) (Sub.trans (SubU.to SubU.f4) (Sub.trans (SubU.to SubU.f4) (so (l4 rfl rfl rfl rfl (lq rfl (lq rfl (lq rfl lt0))))))))
   .refine zbr (zbi (zbk (zbj (zaa ⟨_,_,v7_1_l2,v7_3_l2,h,so (l4 rfl rfl rfl rfl (lq rfl lt0))⟩))))
 .refine k_join3_1 h (λ(i:List Int) (k:Int) (e:List ((List UInt8)×Int×Bool×(Int×Int)×(List (Int×Int×Int)))) (v7_0_j41:Value)=>(pt (pt (pt AF0 0 (pA w0 0)) 6 (pA b1 0)) 7 (pA b2 0))) (λ(i:List Int) (k:Int) (e:List ((List UInt8)×Int×Bool×(Int×Int)×(List (Int×Int×Int)))) (v7_0_j41:Value)=>[boxI 93 w0 [.row 1 zav i, .xi k],boxI 38 b1 ([.exact (.slice none 0 0), .exact (.slice none 0 0), .row 6 zbh ((([],[],[],[]):(List ((List UInt8)×Int×Bool×(Int×Int)×(List (Int×Int×Int))))×(List ((List UInt8)×Int×(List Int)×(List (List UInt8))))×(List (Int×Int×Int×Int×(Int×Int)))×(List (List UInt8))).2.2.1), .exact (.slice none 0 0)]),vecT Tryz.prog 33 6 zbu v7_0_j41 e,vecT Tryz.prog 34 4 zbs v7_1_j3 b,vecT Tryz.prog 36 1 zab v7_3_j3 d,boxI 38 b2 ([.exact v7_0_j41, .exact v7_1_j3, .row 6 zbh ((([],[],[],[]):(List ((List UInt8)×Int×Bool×(Int×Int)×(List (Int×Int×Int))))×(List ((List UInt8)×Int×(List Int)×(List (List UInt8))))×(List (Int×Int×Int×Int×(Int×Int)))×(List (List UInt8))).2.2.1), .exact v7_3_j3])]) (λ k41 h=> ?_) (λ i k e v7_0_j41 h=> ?_)
  .refine sr (qa (.xi 0) rfl (gc (zaq (k_loop4_1 (m_gen_Choices_Core_L4 a1 a2 k41) (m_gen_Choices_Core_B4 a1 a2 k41) (λ _ _ _ _=>rfl) (λ m _ _ _ _=>rfl) h (λ(u:List Int) (v:Int) (w:List ((List UInt8)×Int×Bool×(Int×Int)×(List (Int×Int×Int)))) (g:Int) (v7_0_l4:Value)=>(pt (pt (pt (pt (pt (pt AF0 0 (pA w0 0)) 1 (.xi a1)) 2 (.xb a2)) 6 (pA b1 0)) 7 (pA b2 0)) 10 (.xi g))) (λ(u:List Int) (v:Int) (w:List ((List UInt8)×Int×Bool×(Int×Int)×(List (Int×Int×Int)))) (g:Int) (v7_0_l4:Value)=>[boxI 93 w0 [.row 1 zav u, .xi v],boxI 38 b1 ([.exact (.slice none 0 0), .exact (.slice none 0 0), .row 6 zbh ((([],[],[],[]):(List ((List UInt8)×Int×Bool×(Int×Int)×(List (Int×Int×Int))))×(List ((List UInt8)×Int×(List Int)×(List (List UInt8))))×(List (Int×Int×Int×Int×(Int×Int)))×(List (List UInt8))).2.2.1), .exact (.slice none 0 0)]),vecT Tryz.prog 33 6 zbu v7_0_l4 w,vecT Tryz.prog 34 4 zbs v7_1_j3 b,vecT Tryz.prog 36 1 zab v7_3_j3 d,boxI 38 b2 ([.exact v7_0_l4, .exact v7_1_j3, .row 6 zbh ((([],[],[],[]):(List ((List UInt8)×Int×Bool×(Int×Int)×(List (Int×Int×Int))))×(List ((List UInt8)×Int×(List Int)×(List (List UInt8))))×(List (Int×Int×Int×Int×(Int×Int)))×(List (List UInt8))).2.2.1), .exact v7_3_j3])]) (.slice none 0 0) ?_ (λ A u v w g v7_0_l4 h=> ?_)))))
   .refine Sub.trans (SubU.to (SubU.nilT (P:=Tryz.prog) (t:=33) (n:=6) (enc:=zbu))) (Sub.trans (SubU.to SubU.f5) (Sub.trans (SubU.to SubU.f5) (Sub.trans (SubU.to SubU.f5) (Sub.trans (SubU.to SubU.f3) (Sub.trans (SubU.to SubU.f5) (Sub.trans (SubU.to SubU.f5) (so (l4 rfl rfl rfl rfl (lq rfl (lq rfl lt0))))))))))
   .unfold m_gen_Choices_Core_B4 at h
    refine zan (sr (qm (.xi g) rfl (qm (.xi a1) rfl (gq (zbm rfl rfl (gc (kd (p:=g<a1) rfl h (λ hc h=> ?_) (λ hc h=> ?_))))))))
    .refine zap (zaf (zan (zaq (zck [boxI 38 b2 ([.exact v7_0_l4, .exact v7_1_j3, .row 6 zbh ((([],[],[],[]):(List ((List UInt8)×Int×Bool×(Int×Int)×(List (Int×Int×Int))))×(List ((List UInt8)×Int×(List Int)×(List (List UInt8))))×(List (Int×Int×Int×Int×(Int×Int)))×(List (List UInt8))).2.2.1), .exact v7_3_j3])] [(0,0),(0,2),(0,3),(0,4),(4,1),(3,5),(0,6),(0,7),(2,8),(0,9),(2,10)] hmixP (by kernel_rfl) (pq rfl (zba (o:=0) (by kernel_rfl) rfl (pq rfl (zah (av:=pA w0 0) rfl (pq rfl (zah (av:= .xi a1) rfl (pq rfl (zah (av:= .xb a2) rfl (P_r4 (Has.cons (List.Mem.tail _ (List.Mem.tail _ (List.Mem.tail _ (List.Mem.tail _ (List.Mem.tail _ (List.Mem.head _)))))) Has.mk0) rfl (opI_mk (List.Mem.head _) (λ _=>zaz (a:= .exact v7_0_l4) (by kernel_rfl) rfl rfl rfl) ?_))))))))))))))
     obtain⟨y58,y,h⟩:=zae h
     refine P_l3 rfl (zdg (m_gen_Choices_body_ok _ _ _ _ _ y) func29 (by kernel_rfl) (lc lf (lc lf (lc lf (lc lf ln)))) ⟨(Has.cons (List.Mem.tail _ (List.Mem.tail _ (List.Mem.tail _ (List.Mem.tail _ (List.Mem.tail _ (List.Mem.head _)))))) Has.mk0), ?_⟩)
     refine pq rfl (zft (c':=zbu (([],0,true,(0,0),y58.1):(List UInt8)×Int×Bool×(Int×Int)×(List (Int×Int×Int)))) (CellsAll.cons rfl CellsOf.bool (CellsAll.cons rfl CellsOf.row CellsAll.nil)) rfl (lc lf (lc lf (lc lf (lc lf (lc lf (lc lf ln)))))) (pq rfl (zcd (n:=6) (enc:=zbu) [(([],0,true,(0,0),y58.1):(List UInt8)×Int×Bool×(Int×Int)×(List (Int×Int×Int)))] (CellsAll.cons rfl CellsOf.agg CellsAll.nil) rfl (by kernel_rfl) (LEss.cons (lc lf (lc lf (lc lf (lc lf (lc lf (lc lf ln)))))) LEss.nil) ?_)))
     obtain⟨n59,h⟩:=zad h
     refine P_l rfl (opB_f2 (zcu (by kernel_rfl) rfl rfl oc_c_api_Func n59 (λ v60=>pq rfl (zba (o:=0) (by kernel_rfl) rfl (P_l rfl (opB_sl (List.Mem.head _) (λ hsl=>(opB_f5 (zbz (c':=[.exact v60]) (c3:=[.exact v60, .exact v7_1_j3, .row 6 zbh ((([],[],[],[]):(List ((List UInt8)×Int×Bool×(Int×Int)×(List (Int×Int×Int))))×(List ((List UInt8)×Int×(List Int)×(List (List UInt8))))×(List (Int×Int×Int×Int×(Int×Int)))×(List (List UInt8))).2.2.1), .exact v7_3_j3]) rfl rfl (CellsOf.sl hsl) (lc lf ln) (OneC.sl hsl OneC.nil) (by kernel_rfl) (Nat.le_of_ble_eq_true rfl) rfl (zcn (zau (zaf (kr (qm (.xi g) rfl (gq (zbo rfl rfl rfl (qa (.xi (i64 (g+1))) rfl (zbc (zaa ⟨_,_,_,_,v60,h, ?_⟩)))))))))))))))))))
     refine Sub.trans (SubU.to SubU.f5) (Sub.trans (SubU.to SubU.f5) (Sub.trans (SubU.to SubU.f3) (Sub.trans (SubU.to SubU.f5) (Sub.trans (SubU.to SubU.f5) (so (l4 rfl rfl rfl rfl (lq rfl (lq rfl lt0))))))))
    .refine zbr (zbi (zbk (zbj (zaa ⟨_,_,_,v7_0_l4,h,s3 rfl rfl rfl⟩))))
  .refine sr (G_sub rfl (SubU.trans (SubU.f2) (SubU.trans (SubU.know len_c_api_Func) (SubU.trans (SubU.f5) (SubU.trans (SubU.f1) (SubU.trans (SubU.knowC (j:=0) (c':=[.row 6 zbu e, .exact v7_1_j3, .row 6 zbh ((([],[],[],[]):(List ((List UInt8)×Int×Bool×(Int×Int)×(List (Int×Int×Int))))×(List ((List UInt8)×Int×(List Int)×(List (List UInt8))))×(List (Int×Int×Int×Int×(Int×Int)))×(List (List UInt8))).2.2.1), .exact v7_3_j3]) rfl rfl) (SubU.drop)))))) (G_sub rfl (SubU.trans (SubU.f3) (SubU.trans (SubU.know len_c_api_Info) (SubU.trans (SubU.knowC (j:=1) (c':=[.row 6 zbu e, .row 4 zbs b, .row 6 zbh ((([],[],[],[]):(List ((List UInt8)×Int×Bool×(Int×Int)×(List (Int×Int×Int))))×(List ((List UInt8)×Int×(List Int)×(List (List UInt8))))×(List (Int×Int×Int×Int×(Int×Int)))×(List (List UInt8))).2.2.1), .exact v7_3_j3]) rfl rfl) (SubU.drop)))) (G_sub rfl (SubU.trans (SubU.f3) (SubU.trans (SubU.know zbt) (SubU.trans (SubU.knowC (j:=3) (c':=[.row 6 zbu e, .row 4 zbs b, .row 6 zbh ((([],[],[],[]):(List ((List UInt8)×Int×Bool×(Int×Int)×(List (Int×Int×Int))))×(List ((List UInt8)×Int×(List Int)×(List (List UInt8))))×(List (Int×Int×Int×Int×(Int×Int)))×(List (List UInt8))).2.2.1), .row 1 zab d]) rfl rfl) (SubU.drop)))) (G_r rfl (zei (m:=4) (c':=zcw (e,b,(([],[],[],[]):(List ((List UInt8)×Int×Bool×(Int×Int)×(List (Int×Int×Int))))×(List ((List UInt8)×Int×(List Int)×(List (List UInt8))))×(List (Int×Int×Int×Int×(Int×Int)))×(List (List UInt8))).2.2.1,d)) (by kernel_rfl) rfl rfl rfl (G_l rfl (opB_f2 (zbz (c':=[.row 6 zbu ((e,b,(([],[],[],[]):(List ((List UInt8)×Int×Bool×(Int×Int)×(List (Int×Int×Int))))×(List ((List UInt8)×Int×(List Int)×(List (List UInt8))))×(List (Int×Int×Int×Int×(Int×Int)))×(List (List UInt8))).2.2.1,d).1), .row 4 zbs ((e,b,(([],[],[],[]):(List ((List UInt8)×Int×Bool×(Int×Int)×(List (Int×Int×Int))))×(List ((List UInt8)×Int×(List Int)×(List (List UInt8))))×(List (Int×Int×Int×Int×(Int×Int)))×(List (List UInt8))).2.2.1,d).2.1), .row 6 zbh ((e,b,(([],[],[],[]):(List ((List UInt8)×Int×Bool×(Int×Int)×(List (Int×Int×Int))))×(List ((List UInt8)×Int×(List Int)×(List (List UInt8))))×(List (Int×Int×Int×Int×(Int×Int)))×(List (List UInt8))).2.2.1,d).2.2.1), .row 1 zab ((e,b,(([],[],[],[]):(List ((List UInt8)×Int×Bool×(Int×Int)×(List (Int×Int×Int))))×(List ((List UInt8)×Int×(List Int)×(List (List UInt8))))×(List (Int×Int×Int×Int×(Int×Int)))×(List (List UInt8))).2.2.1,d).2.2.2)]) (c3:=[.row 6 zbu ((e,b,(([],[],[],[]):(List ((List UInt8)×Int×Bool×(Int×Int)×(List (Int×Int×Int))))×(List ((List UInt8)×Int×(List Int)×(List (List UInt8))))×(List (Int×Int×Int×Int×(Int×Int)))×(List (List UInt8))).2.2.1,d).1), .row 4 zbs ((e,b,(([],[],[],[]):(List ((List UInt8)×Int×Bool×(Int×Int)×(List (Int×Int×Int))))×(List ((List UInt8)×Int×(List Int)×(List (List UInt8))))×(List (Int×Int×Int×Int×(Int×Int)))×(List (List UInt8))).2.2.1,d).2.1), .row 6 zbh ((e,b,(([],[],[],[]):(List ((List UInt8)×Int×Bool×(Int×Int)×(List (Int×Int×Int))))×(List ((List UInt8)×Int×(List Int)×(List (List UInt8))))×(List (Int×Int×Int×Int×(Int×Int)))×(List (List UInt8))).2.2.1,d).2.2.1), .row 1 zab ((e,b,(([],[],[],[]):(List ((List UInt8)×Int×Bool×(Int×Int)×(List (Int×Int×Int))))×(List ((List UInt8)×Int×(List Int)×(List (List UInt8))))×(List (Int×Int×Int×Int×(Int×Int)))×(List (List UInt8))).2.2.1,d).2.2.2)]) rfl rfl CellsOf.agg (lc lf (lc lf (lc lf (lc lf ln)))) (oc_c_api_Core _) (by kernel_rfl) (Nat.le_of_ble_eq_true rfl) rfl (gc (zbn ?_))))))))))
   obtain rfl:=oi h
   refine kP_any (endC (af':=(pt AF0 6 (.ptr (zcw ((e,b,(([],[],[],[]):(List ((List UInt8)×Int×Bool×(Int×Int)×(List (Int×Int×Int))))×(List ((List UInt8)×Int×(List Int)×(List (List UInt8))))×(List (Int×Int×Int×Int×(Int×Int)))×(List (List UInt8))).2.2.1,d).1,(e,b,(([],[],[],[]):(List ((List UInt8)×Int×Bool×(Int×Int)×(List (Int×Int×Int))))×(List ((List UInt8)×Int×(List Int)×(List (List UInt8))))×(List (Int×Int×Int×Int×(Int×Int)))×(List (List UInt8))).2.2.1,d).2.1,(e,b,(([],[],[],[]):(List ((List UInt8)×Int×Bool×(Int×Int)×(List (Int×Int×Int))))×(List ((List UInt8)×Int×(List Int)×(List (List UInt8))))×(List (Int×Int×Int×Int×(Int×Int)))×(List (List UInt8))).2.2.1,d).2.2.1,(e,b,(([],[],[],[]):(List ((List UInt8)×Int×Bool×(Int×Int)×(List (Int×Int×Int))))×(List ((List UInt8)×Int×(List Int)×(List (List UInt8))))×(List (Int×Int×Int×Int×(Int×Int)))×(List (List UInt8))).2.2.1,d).2.2.2))))) (σ':=[boxI 93 w0 [.row 1 zav i, .xi k]]) (c:=zcw ((e,b,(([],[],[],[]):(List ((List UInt8)×Int×Bool×(Int×Int)×(List (Int×Int×Int))))×(List ((List UInt8)×Int×(List Int)×(List (List UInt8))))×(List (Int×Int×Int×Int×(Int×Int)))×(List (List UInt8))).2.2.1,d).1,(e,b,(([],[],[],[]):(List ((List UInt8)×Int×Bool×(Int×Int)×(List (Int×Int×Int))))×(List ((List UInt8)×Int×(List Int)×(List (List UInt8))))×(List (Int×Int×Int×Int×(Int×Int)))×(List (List UInt8))).2.2.1,d).2.1,(e,b,(([],[],[],[]):(List ((List UInt8)×Int×Bool×(Int×Int)×(List (Int×Int×Int))))×(List ((List UInt8)×Int×(List Int)×(List (List UInt8))))×(List (Int×Int×Int×Int×(Int×Int)))×(List (List UInt8))).2.2.1,d).2.2.1,(e,b,(([],[],[],[]):(List ((List UInt8)×Int×Bool×(Int×Int)×(List (Int×Int×Int))))×(List ((List UInt8)×Int×(List Int)×(List (List UInt8))))×(List (Int×Int×Int×Int×(Int×Int)))×(List (List UInt8))).2.2.1,d).2.2.2)) (Sub.trans (SubU.to (SubU.freezeBox (s:=6) rfl)) (Sub.trans (SubU.to SubU.drop) (s1 rfl))) rfl rfl ⟨rfl,rfl⟩)
theorem m_ref9_eight_ok (a0:Int) (r:(List UInt8)) (h:m_ref9_eight a0=some r):Pure Tryz.prog 109 [(.exact (.int .i64 a0))] (.exact (.string (bs r))):=by
 unfold m_ref9_eight at h
 refine Pure.ofFun (zam func109 rfl ntmps109 (by simp) rfl (res1 rfl) λ E hE=>zca (sr (qa (.xs ([]:List UInt8)) rfl (gd ?_))))
 obtain⟨n1,h⟩:=zad h
 refine G_l rfl (op_make (enc:=c_uint8) (zr:=(0:UInt8)) (by kernel_rfl) rfl rfl n1.1 n1.2 len_c_uint8 zeroValue5 (λ _ _=>(Fit.ex Fit.nil0)) (λ v2=>qa (.exact v2) rfl (gc (zax h (λ(b:List UInt8)=>(pt AF0 3 (.exact v2))) (λ(b:List UInt8)=>[vecT Tryz.prog 52 1 c_uint8 v2 b]) (λ k3 h=> ?_) (λ b h=> ?_)))))
 .refine sr (qa (.xi 0) rfl (gc (zaq (zey (m_ref9_eight_L2 a0 k3) (m_ref9_eight_B2 a0 k3) (λ _ _=>rfl) (λ m _ _=>rfl) h (λ(c:List UInt8) (a:Int)=>(pt (pt (pt AF0 0 (.xi a0)) 3 (.exact v2)) 4 (.xi a))) (λ(c:List UInt8) (a:Int)=>[vecT Tryz.prog 52 1 c_uint8 v2 c]) ?_ (λ d c a h=> ?_)))))
  .exact s3 rfl rfl rfl
  .unfold m_ref9_eight_B2 at h
   refine zan (sr (qm (.xi a) rfl (gq (zbm rfl rfl (gc (kd (p:=a<8) rfl h (λ hc h=> ?_) (λ hc h=> ?_)))))))
   .refine zap (zaf (zan (zaq (kr (qm (.exact v2) rfl (qm (.xi a) rfl (gq (op_sub rfl rfl rfl (qm (.xi a0) rfl (gq (zds (k:= .u64) (by kernel_rfl) rfl rfl (qm (.xi a) rfl (gq (op_mul rfl rfl rfl (gq (zds (k:= .u64) (by kernel_rfl) rfl rfl ?_))))))))))))))))
    obtain⟨n15,h⟩:=zad h
    refine gq (op_shr rfl rfl n15 rfl (gq (zds (k:= .u8) (r:=(UInt8.toNat (u8i (Int.fdiv (IntKind.u64.wrap (a0)) (2^min (Int.toNat (IntKind.u64.wrap (i64 (8*a)))) IntKind.u64.bits))):Int)) (by kernel_rfl) rfl (u8i_eq _) ?_)))
    obtain⟨n16,h⟩:=zad h
    refine G_r rfl (zbl (by kernel_rfl) rfl rfl n16.1 n16.2 (G_l rfl (zcm (i:=i64 (7 - a)) (o:=0) (z:=u8i (Int.fdiv (IntKind.u64.wrap (a0)) (2^min (Int.toNat (IntKind.u64.wrap (i64 (8*a)))) IntKind.u64.bits))) (c':=[.exact (.int .u8 (UInt8.toNat (u8i (Int.fdiv (IntKind.u64.wrap (a0)) (2^min (Int.toNat (IntKind.u64.wrap (i64 (8*a)))) IntKind.u64.bits))):Int))]) (by kernel_rfl) len_c_uint8 rfl n16.1 n16.2 rfl CellsOf.int (lc lf ln) (OneC.int OneC.nil) (by kernel_rfl) (Nat.le_of_ble_eq_true rfl) rfl (zbc (zau (zaf (kr (qm (.xi a) rfl (gq (zbo rfl rfl rfl (qa (.xi (i64 (a+1))) rfl (zbc (zaa ⟨_,_,h,s3 rfl rfl rfl⟩)))))))))))))
   .refine zbr (zbi (zbk (zbj (zaa ⟨_,h,s1 rfl⟩))))
 .refine sr (qm (.exact v2) rfl (G_r rfl (op_bytesS_bor rfl (by kernel_rfl) (Bor.vec (List.Mem.head _) len_c_uint8) (qa (.xs b) rfl (gc (zbn ?_))))))
  obtain rfl:=oi h
  refine ke (pt AF0 2 (.xs b)) [] rfl (Sub.trans (SubU.to SubU.drop) (s1 rfl)) ⟨rfl,rfl⟩
theorem m_ref9_Int_ok (a0:Int) (r:(List UInt8)) (h:m_ref9_Int a0=some r):Pure Tryz.prog 68 [(.exact (.int .i64 a0))] (.exact (.string (bs r))):=by
 unfold m_ref9_Int at h
 refine Pure.ofFun (zam func68 rfl ntmps68 (by simp) rfl (res1 rfl) λ E hE=>zca (sr (qa (.xs ([]:List UInt8)) rfl (gc (zan (zck [] [(0,0),(0,1),(0,2),(0,3),(0,4),(0,5)] hmixP (by kernel_rfl) (pq rfl (zcd (n:=1) (enc:=c_uint8) [1] (CellsAll.cons rfl CellsOf.int CellsAll.nil) rfl (by kernel_rfl) (LEss.cons (lc lf ln) LEss.nil) (pq rfl (op_bytesS rfl (by kernel_rfl) rfl (pq rfl (zah (av:= .xi a0) rfl ?_))))))))))))
 obtain⟨y1,a,h⟩:=zae h
 refine pq rfl (zal (m_ref9_eight_ok _ _ a) func109 (by kernel_rfl) (lc lf ln) ?_)
 obtain⟨n2,h⟩:=zad h
 refine pq rfl (op_addS n2 rfl rfl (pq rfl (zcj (av:= .xs ([1]++y1)) rfl (zcn (zaf (zbn ?_))))))
 obtain rfl:=oi h
 refine ke (pt AF0 2 (.xs ([1]++y1))) [] rfl (s1 rfl) ⟨rfl,rfl⟩
theorem m_ref9_Numbered_ok (a0:Int) (a1:Int) (a2:List (List UInt8)) (r:(List UInt8)) (h:m_ref9_Numbered a0 a1 a2=some r):Pure Tryz.prog 65 [(.exact (.int .i64 a0)),(.exact (.int .i64 a1)),(.row 1 zab a2)] (.exact (.string (bs r))):=by
 unfold m_ref9_Numbered at h
 refine Pure.ofFun (zam func65 rfl ntmps65 (by simp) rfl (res1 rfl) λ E hE=>zca (sr (qa (.xs ([]:List UInt8)) rfl (gd (qm (.xi a0) rfl (qm (.xi a1) rfl ?_))))))
 obtain⟨y1,a,h⟩:=zae h
 refine gq (zal (m_ref9_Int_ok _ _ a) func68 (by kernel_rfl) (lc lf ln) (G_l rfl (op_litI (n:=1) (enc:=zab) [y1] (by kernel_rfl) (CellsAll.cons rfl CellsOf.str CellsAll.nil) rfl (by kernel_rfl) (LEss.cons (lc lf ln) LEss.nil) (λ v2=>qm (.row 1 zab a2) rfl ?_))))
 obtain⟨n3,h⟩:=zad h
 refine G_l rfl (zcu (by kernel_rfl) rfl rfl zco n3 (λ v4=>G_sub rfl (SubU.freezeT (s:=12) rfl zbt) ?_))
 obtain⟨y5,b,h⟩:=zae h
 refine gq (zal (m_ref9_Make_ok _ _ _ b) func60 (by kernel_rfl) (lc lf (lc lf ln)) (qa (.xs y5) rfl (gc (zbn ?_))))
 obtain rfl:=oi h
 refine ke (pt AF0 6 (.xs y5)) [] rfl (s1 rfl) ⟨rfl,rfl⟩
end
noncomputable section
open Go.RowKit
attribute [local irreducible] AV.exact AV.top AV.row AV.ptr AV.agg AV.tup AV.eptr AV.fn AV.nilq AV.nilqn opA opB opM opR Quiet Loud Reads wpG awp den Sub SubU Pure Fun vecI vecT boxI CellsAll CellsOf OneC LEs LEss
set_option maxRecDepth 100000
set_option maxHeartbeats 4000000
theorem zeg (a0:List UInt8) (r:(List (List UInt8))) (h:zev a0=some r):Pure Tryz.prog 42 [(.exact (.string (bs a0)))] (.row 1 zab r):=by
 unfold zev at h
 refine Pure.ofFun (zam func42 rfl ntmps42 (by simp) rfl (res1 rfl) λ E hE=>zca (sr (qa (.exact (.slice none 0 0)) rfl (gc (zan (sr (qm (.xs a0) rfl ?_)))))))
 obtain⟨y1,a,h⟩:=zae h
 refine gq (zal (m_ref9_Valid_ok _ _ a) func40 (by kernel_rfl) (lc lf ln) (gq (zdh rfl (gc (kb (p:= !y1) rfl h (λ hc h=> ?_) (λ hc h=> ?_))))))
 .refine zan ?_
  cases h
 .refine zap (zaf (sr (qm (.xs a0) rfl ?_)))
  obtain⟨y2,b,h⟩:=zae h
  refine gq (zal (m_ref9_walk_ok _ _ _ _ b) func90 (by kernel_rfl) (lc lf (lc lf (lc lf ln))) (qm (.tup [.xi y2.1, .row 1 zab y2.2.1, .xi y2.2.2]) rfl (gq (zbq (av:= .xi y2.1) rfl rfl (gq (zbq (av:= .row 1 zab y2.2.1) rfl rfl (gq (zbq (av:= .xi y2.2.2) rfl rfl (qa (.xi y2.1) rfl (qa (.row 1 zab y2.2.1) rfl (qa (.xi y2.2.2) rfl (gd (qm (.row 1 zab y2.2.1) rfl (qa (.row 1 zab y2.2.1) rfl (gc (zbn ?_))))))))))))))))
  obtain rfl:=oi h
  refine ke (pt AF0 2 (.row 1 zab y2.2.1)) [] rfl (s1 rfl) ⟨rfl,rfl⟩
theorem m_ref9_Kind_ok (a0:List UInt8) (r:Int) (h:m_ref9_Kind a0=some r):Pure Tryz.prog 43 [(.exact (.string (bs a0)))] (.exact (.int .i64 r)):=by
 unfold m_ref9_Kind at h
 refine Pure.ofFun (zam func43 rfl ntmps43 (by simp) rfl (res1 rfl) λ E hE=>zca (sr (qa (.xi 0) rfl (gc (zan (sr (qm (.xs a0) rfl ?_)))))))
 obtain⟨y1,a,h⟩:=zae h
 refine gq (zal (m_ref9_Valid_ok _ _ a) func40 (by kernel_rfl) (lc lf ln) (gq (zdh rfl (gc (kb (p:= !y1) rfl h (λ hc h=> ?_) (λ hc h=> ?_))))))
 .refine zan ?_
  cases h
 .refine zap (zaf (sr (qm (.xs a0) rfl ?_)))
  obtain⟨n2,h⟩:=zad h
  refine gq (zct (by kernel_rfl) rfl rfl n2.1 n2.2 (gq (zds (k:= .i64) (r:=(UInt8.toNat (gi a0 0):Int)) (by kernel_rfl) rfl (wrap_u8 rfl _) (qa (.xi (UInt8.toNat (gi a0 0):Int)) rfl (gc (zbn ?_))))))
  obtain rfl:=oi h
  refine ke (pt AF0 2 (.xi (UInt8.toNat (gi a0 0):Int))) [] rfl (s1 rfl) ⟨rfl,rfl⟩
theorem zdo (a0:List UInt8) (r:Int) (h:zej a0=some r):Pure Tryz.prog 44 [(.exact (.string (bs a0)))] (.exact (.int .i64 r)):=by
 unfold zej at h
 refine Pure.ofFun (zam func44 rfl ntmps44 (by simp) rfl (res1 rfl) λ E hE=>zca (sr (qa (.xi 0) rfl (gc (zan (sr (qm (.xs a0) rfl ?_)))))))
 obtain⟨y1,a,h⟩:=zae h
 refine gq (zal (m_ref9_Kind_ok _ _ a) func43 (by kernel_rfl) (lc lf ln) (gc (zaq (sr (gq (zbf rfl rfl (qa (.xb (decide (y1=1))) rfl (gc (kd (p:=y1=1) rfl h (λ hc h=> ?_) (λ hc h=> ?_))))))))))
 .refine sr (qm (.xs a0) rfl ?_)
  obtain⟨n2,h⟩:=zad h
  refine gq (op_slice_strd (by kernel_rfl) rfl (zdn rfl) zdu (by decide) n2 (Int.le_refl _) ?_)
  obtain⟨y3,b,h⟩:=zae h
  refine gq (zal (m_ref9_number_ok _ _ b) func91 (by kernel_rfl) (lc lf ln) (qa (.xi y3) rfl (gc (zbn (zde (zdb ?_))))))
  obtain rfl:=oi h
  refine ke (pt AF0 2 (.xi y3)) [] rfl (s1 rfl) ⟨rfl,rfl⟩
 .refine sr (gq (zbf rfl rfl (qa (.xb (decide (y1=2))) rfl (gc (kd (p:=y1=2) rfl h (λ hc h=> ?_) (λ hc h=> ?_))))))
  .refine zan ?_
   cases h
  .refine sr (gq (zbf rfl rfl (qa (.xb (decide (y1=10))) rfl (gc (kd (p:=y1=10) rfl h (λ hc h=> ?_) (λ hc h=> ?_))))))
   .refine zan ?_
    cases h
   .refine zap (zau (zaf (zan ?_)))
    cases h
theorem m_ref16_between_ok (a0:List UInt8) (a1:Int) (a2:Int) (r:Bool) (h:m_ref16_between a0 a1 a2=some r):Pure Tryz.prog 84 [(.exact (.string (bs a0))),(.exact (.int .i64 a1)),(.exact (.int .i64 a2))] (.exact (.bool r)):=by
 unfold m_ref16_between at h
 refine Pure.ofFun (zam func84 rfl ntmps84 (by simp) rfl (res1 rfl) λ E hE=>zca (sr (qa (.xb false) rfl (gc (zax h (λ(a:Bool)=>(pt AF0 6 (.xb a))) (λ(a:Bool)=>[]) (λ k1 h=> ?_) (λ a h=> ?_))))))
 .refine kr (qm (.xs a0) rfl ?_)
  obtain⟨y5,b,h⟩:=zae h
  refine gq (zal (m_ref9_Kind_ok _ _ b) func43 (by kernel_rfl) (lc lf ln) (gq (zbf rfl rfl (qm (.xb (decide (y5=1))) rfl (zcc (p:=y5=1) 10 rfl (λ hc=> ?_) (λ hc=> ?_))))))
  .replace h:=zcg h hc
   refine gy (zah (av:= .xs a0) rfl ?_)
   obtain⟨y6,c,h⟩:=zae h
   refine gy (zal (zdo _ _ c) func44 (by kernel_rfl) (lc lf ln) (gy (zah (av:= .xi a1) rfl (gy (zgm rfl rfl (gq (zat rfl (av:= .xb (decide (a1≤y6))) rfl (qm (.xb (decide (a1≤y6))) rfl (zcc (p:=a1≤y6) 16 rfl (λ hc=> ?_) (λ hc=> ?_))))))))))
   .replace h:=zcg h hc
    refine gy (zah (av:= .xs a0) rfl ?_)
    obtain⟨y7,d,h⟩:=zae h
    refine gy (zal (zdo _ _ d) func44 (by kernel_rfl) (lc lf ln) (gy (zah (av:= .xi a2) rfl (gy (op_leq rfl rfl (gq (zat rfl (av:= .xb (decide (y7≤a2))) rfl (qa (.xb (decide (y7≤a2))) rfl (zbc (zaa ⟨_,h,s1 rfl⟩))))))))))
   .replace h:=zcf h hc
    refine gn (gn (gn (gn (gq (zar rfl (av:= .xb false) rfl (qa (.xb false) rfl (zbc (zaa ⟨_,h,s1 rfl⟩))))))))
  .replace h:=zcf h hc
   refine gn (gn (gn (gn (gq (zar rfl (av:= .xb false) rfl (qm (.xb false) rfl (gn (gn (gn (gn (gq (zar rfl (av:= .xb false) rfl (qa (.xb false) rfl (zbc (zaa ⟨_,h,s1 rfl⟩)))))))))))))))
 .refine zbn ?_
  obtain rfl:=oi h
  refine ke (pt AF0 6 (.xb a)) [] rfl (s1 rfl) ⟨rfl,rfl⟩
theorem m_ref9_Compare_ok (a0:List UInt8) (a1:List UInt8) (r:Int) (h:m_ref9_Compare a0 a1=some r):Pure Tryz.prog 70 [(.exact (.string (bs a0))),(.exact (.string (bs a1)))] (.exact (.int .i64 r)):=by
 unfold m_ref9_Compare at h
 refine Pure.ofFun (zam func70 rfl ntmps70 (by simp) rfl (res1 rfl) λ E hE=>zca (sr (qa (.xi 0) rfl (gc (zan ?_)))))
 cases h
theorem m_ref16_offered_ok (d:(List UInt8)->Option Bool) (hself_ref16_term: ∀(a0:List UInt8) (r:Bool),d a0=some r->Pure Tryz.prog 41 [(.exact (.string (bs a0)))] (.exact (.bool r))) (a0:List (List UInt8)) (r:Bool) (h:m_ref16_offered d a0=some r):Pure Tryz.prog 85 [(.row 1 zab a0)] (.exact (.bool r)):=by
 unfold m_ref16_offered at h
 refine Pure.ofFun (zam func85 rfl ntmps85 (by simp) rfl (res1 rfl) λ E hE=>zca (sr (qa (.xb false) rfl (gc (zan (zax h (λ(e:Bool)=>(pt (pt AF0 0 (.row 1 zab a0)) 12 (.xb e))) (λ(e:Bool)=>[]) (λ k3 h=> ?_) (λ e h=> ?_)))))))
 .refine kr (qm (.row 1 zab a0) rfl (gq (zao (by kernel_rfl) rfl (gq (zbf rfl rfl (qm (.xb (decide ((List.length a0:Int)=0))) rfl (zcc (p:=(List.length a0:Int)=0) 7 rfl (λ hc=> ?_) (λ hc=> ?_))))))))
  .replace h:=zcg h hc
   refine gn (gn (gn (gn (gq (zat rfl (av:= .xb true) rfl (zbc (zaa ⟨_,h,s2 rfl rfl⟩)))))))
  .replace h:=zcf h hc
   refine gy (zah (av:= .row 1 zab a0) rfl (gy (zao (by kernel_rfl) rfl (gy (op_rem rfl rfl (by decide) rfl (gy (zbf rfl rfl (gq (zar rfl (av:= .xb (decide ((Int.tmod (List.length a0:Int) 2)=1))) rfl (zbc (zaa ⟨_,h,s2 rfl rfl⟩)))))))))))
 .refine kb (p:=e) rfl h (λ hc h=> ?_) (λ hc h=> ?_)
  .refine zan ?_
   cases h
  .refine zap (zaf (zbw h (AF0) ([]) (λ k4 h=> ?_) (λ  h=> ?_)))
   .refine sr (qa (.xi 0) rfl (gc (zaq (zcr (m_ref16_offered_L2 d a0 k4) (m_ref16_offered_B2 d a0 k4) (λ _=>rfl) (λ m _=>rfl) h (λ(b:Int)=>(pt (pt AF0 0 (.row 1 zab a0)) 3 (.xi b))) (λ(b:Int)=>[]) ?_ (λ o b h=> ?_)))))
    .exact s2 rfl rfl
    .unfold m_ref16_offered_B2 at h
     refine zan (sr (qm (.xi b) rfl (qm (.row 1 zab a0) rfl (gq (zao (by kernel_rfl) rfl (gq (zbm rfl rfl (gc (kd (p:=b<(List.length a0:Int)) rfl h (λ hc h=> ?_) (λ hc h=> ?_))))))))))
     .refine zap (zaf (zan (zaq (zan (zax h (λ(f:Bool)=>(pt (pt (pt AF0 0 (.row 1 zab a0)) 3 (.xi b)) 33 (.xb f))) (λ(f:Bool)=>[]) (λ k440 h=> ?_) (λ f h=> ?_))))))
      .refine kr (qm (.row 1 zab a0) rfl (qm (.xi b) rfl ?_))
       obtain⟨n445,h⟩:=zad h
       refine gq (zai (by kernel_rfl) rfl rfl n445.1 n445.2 (gq (zak (a:= .xs (gi a0 b)) (by kernel_rfl) rfl rfl ?_)))
       obtain⟨y446,i,h⟩:=zae h
       refine gq (zal (m_ref16_between_ok _ _ _ _ i) func84 (by kernel_rfl) (lc lf (lc lf (lc lf ln))) (gq (zdh rfl (qm (.xb (!y446)) rfl (zfl (c:= !y446) 25 rfl (λ hc=> ?_) (λ hc=> ?_))))))
       .replace h:=zcg h hc
        refine gn (gn (gn (gn (gn (gn (gn (gq (zat rfl (av:= .xb true) rfl (zbc (zaa ⟨_,h,s3 rfl rfl rfl⟩))))))))))
       .replace h:=zcf h hc
        refine gy (zah (av:= .row 1 zab a0) rfl (gy (zah (av:= .xi b) rfl (gy (zbo rfl rfl rfl ?_)))))
        obtain⟨n447,h⟩:=zad h
        refine gy (zai (by kernel_rfl) rfl rfl n447.1 n447.2 (gy (zak (a:= .xs (gi a0 (i64 (b+1)))) (by kernel_rfl) rfl rfl ?_)))
        obtain⟨y448,j,h⟩:=zae h
        refine gy (zal (hself_ref16_term _ _ j) func41 (by kernel_rfl) (lc lf ln) (gy (zdh rfl (gq (zar rfl (av:= .xb (!y448)) rfl (zbc (zaa ⟨_,h,s3 rfl rfl rfl⟩)))))))
      .refine kb (p:=f) rfl h (λ hc h=> ?_) (λ hc h=> ?_)
       .refine zan ?_
        cases h
       .refine zap (zaf (zax h (λ(g:Bool)=>(pt (pt (pt AF0 0 (.row 1 zab a0)) 3 (.xi b)) 75 (.xb g))) (λ(g:Bool)=>[]) (λ k449 h=> ?_) (λ g h=> ?_)))
        .refine zck [] [(0,0),(0,1),(0,2),(0,3),(0,4),(0,5),(0,6),(0,7),(0,8),(0,9),(0,10),(0,11),(0,12),(0,13),(0,14),(0,15),(0,16),(0,17),(0,18),(0,19),(0,20),(0,21),(0,22),(0,23),(0,24),(0,25),(0,26),(0,27),(0,28),(0,29),(0,30),(0,31),(0,32),(0,33),(0,34),(0,35),(0,36),(0,37),(0,38),(0,39),(0,40),(0,41)] hmixP (by kernel_rfl) (pq rfl (zah (av:= .xi b) rfl (pq rfl (zfx rfl rfl (pq rfl (zah (av:= .xb (decide (0<b))) rfl (zfd (p:=0<b) 36 rfl (λ hc=> ?_) (λ hc=> ?_))))))))
         .replace h:=zcg h hc
          refine py rfl (zah (av:= .row 1 zab a0) rfl (py rfl (zah (av:= .xi b) rfl (py rfl (op_sub rfl rfl rfl ?_)))))
          obtain⟨n459,h⟩:=zad h
          refine py rfl (zai (by kernel_rfl) rfl rfl n459.1 n459.2 (py rfl (zak (a:= .xs (gi a0 (i64 (b - 2)))) (by kernel_rfl) rfl rfl ?_)))
          obtain⟨y460,k,h⟩:=zae h
          refine py rfl (zal (zdo _ _ k) func44 (by kernel_rfl) (lc lf ln) (py rfl (zah (av:= .row 1 zab a0) rfl (py rfl (zah (av:= .xi b) rfl ?_)))))
          obtain⟨n461,h⟩:=zad h
          refine py rfl (zai (by kernel_rfl) rfl rfl n461.1 n461.2 (py rfl (zak (a:= .xs (gi a0 b)) (by kernel_rfl) rfl rfl ?_)))
          obtain⟨y462,l,h⟩:=zae h
          refine py rfl (zal (zdo _ _ l) func44 (by kernel_rfl) (lc lf ln) (py rfl (zfx rfl rfl (py rfl (zah (av:= .xb (decide (y462<y460))) rfl (zfd (p:=y462<y460) 49 rfl (λ hc=> ?_) (λ hc=> ?_)))))))
          .replace h:=zcg h hc
           refine pn rfl (pn rfl (pn rfl (pn rfl (pn rfl (pn rfl (pn rfl (pn rfl (pn rfl (pn rfl (pn rfl (pu rfl (pu rfl (pu rfl (pu rfl (pu rfl (pu rfl (pu rfl (pu rfl (pu rfl (pu rfl (pu rfl (pu rfl (pn rfl (py rfl (zat rfl (av:= .xb true) rfl ?_)))))))))))))))))))))))))
           refine pq rfl (zat rfl (av:= .xb true) rfl (zcn (zaa ⟨_,h,s3 rfl rfl rfl⟩)))
          .replace h:=zcf h hc
           refine py rfl (zah (av:= .row 1 zab a0) rfl (py rfl (zah (av:= .xi b) rfl (py rfl (op_sub rfl rfl rfl ?_)))))
           obtain⟨n463,h⟩:=zad h
           refine py rfl (zai (by kernel_rfl) rfl rfl n463.1 n463.2 (py rfl (zak (a:= .xs (gi a0 (i64 (b - 2)))) (by kernel_rfl) rfl rfl (py rfl (zah (av:= .row 1 zab a0) rfl (py rfl (zah (av:= .xi b) rfl ?_)))))))
           obtain⟨n464,h⟩:=zad h
           refine py rfl (zai (by kernel_rfl) rfl rfl n464.1 n464.2 (py rfl (zak (a:= .xs (gi a0 b)) (by kernel_rfl) rfl rfl (py rfl (op_eqlS rfl rfl (py rfl (zah (av:= .xb (decide ((gi a0 (i64 (b - 2)))=(gi a0 b)))) rfl (zfd (p:=(gi a0 (i64 (b - 2)))=(gi a0 b)) 60 rfl (λ hc=> ?_) (λ hc=> ?_)))))))))
           .replace h:=zcg h hc
            refine py rfl (zah (av:= .row 1 zab a0) rfl (py rfl (zah (av:= .xi b) rfl (py rfl (op_sub rfl rfl rfl ?_)))))
            obtain⟨n465,h⟩:=zad h
            refine py rfl (zai (by kernel_rfl) rfl rfl n465.1 n465.2 (py rfl (zak (a:= .xs (gi a0 (i64 (b - 1)))) (by kernel_rfl) rfl rfl (py rfl (zah (av:= .row 1 zab a0) rfl (py rfl (zah (av:= .xi b) rfl (py rfl (zbo rfl rfl rfl ?_)))))))))
            obtain⟨n466,h⟩:=zad h
            refine py rfl (zai (by kernel_rfl) rfl rfl n466.1 n466.2 (py rfl (zak (a:= .xs (gi a0 (i64 (b+1)))) (by kernel_rfl) rfl rfl ?_)))
            obtain⟨y467,n,h⟩:=zae h
            refine py rfl (zal (m_ref9_Compare_ok _ _ _ n) func70 (by kernel_rfl) (lc lf (lc lf ln)) (py rfl (zgm rfl rfl (py rfl (zat rfl (av:= .xb (decide (0≤y467))) rfl (py rfl (zar rfl (av:= .xb (decide (0≤y467))) rfl (pq rfl (zat rfl (av:= .xb (decide (0≤y467))) rfl (zcn (zaa ⟨_,h,s3 rfl rfl rfl⟩)))))))))))
           .replace h:=zcf h hc
            refine pn rfl (pn rfl (pn rfl (pn rfl (pn rfl (pn rfl (pn rfl (pn rfl (pn rfl (pn rfl (pn rfl (pn rfl (py rfl (zar rfl (av:= .xb false) rfl (py rfl (zar rfl (av:= .xb false) rfl (pq rfl (zat rfl (av:= .xb false) rfl (zcn (zaa ⟨_,h,s3 rfl rfl rfl⟩)))))))))))))))))))
         .replace h:=zcf h hc
          refine pn rfl (pn rfl (pn rfl (pn rfl (pn rfl (pn rfl (pn rfl (pn rfl (pn rfl (pn rfl (pn rfl (pn rfl (pn rfl (pu rfl (pu rfl (pu rfl (pu rfl (pu rfl (pu rfl (pu rfl (pu rfl (pu rfl (pu rfl (pu rfl (pu rfl ?_))))))))))))))))))))))))
          refine pu rfl (pu rfl (pu rfl (pu rfl (pu rfl (pu rfl (pu rfl (pu rfl (pu rfl (pu rfl (pu rfl (pu rfl (pn rfl (pq rfl (zar rfl (av:= .xb false) rfl (zcn (zaa ⟨_,h,s3 rfl rfl rfl⟩))))))))))))))))
        .refine kb (p:=g) rfl h (λ hc h=> ?_) (λ hc h=> ?_)
         .refine zan ?_
          cases h
         .refine zap (zau (zaf (kr (qm (.xi b) rfl (gq (zbo rfl rfl rfl (qa (.xi (i64 (b+2))) rfl (zbc (zaa ⟨_,h,s2 rfl rfl⟩)))))))))
     .refine zbr (zbi (zbk (zbj (zaa ⟨h,Sub.of_le lt0⟩))))
   .refine sr (qa (.xb true) rfl (gc (zbn ?_)))
    obtain rfl:=oi h
    refine ke (pt AF0 2 (.xb true)) [] rfl (s1 rfl) ⟨rfl,rfl⟩
theorem zgq (a0:Int) (r:(List UInt8)) (h:zgo a0=some r):Pure Tryz.prog 30 [(.exact (.int .i64 a0))] (.exact (.string (bs r))):=by
 unfold zgo at h
 refine Pure.ofFun (zam func30 rfl ntmps30 (by simp) rfl (res1 rfl) λ E hE=>zca (sr (qa (.xs ([]:List UInt8)) rfl (gc (zan (sr (qm (.xi a0) rfl (gc (zaq (zax h (λ(a:Bool)=>(pt (pt AF0 3 (.xi a0)) 4 (.xb a))) (λ(a:Bool)=>[]) (λ k5 h=> ?_) (λ a h=> ?_)))))))))))
 .refine sr (gq (zbf rfl rfl (qa (.xb (decide (a0=7))) rfl (gc (kd (p:=a0=7) rfl h (λ hc h=> ?_) (λ hc h=> ?_))))))
  .refine zap (zaa ⟨_,h,s2 rfl rfl⟩)
  .refine sr (gq (zbf rfl rfl (qa (.xb (decide (a0=8))) rfl (gc (kd (p:=a0=8) rfl h (λ hc h=> ?_) (λ hc h=> ?_))))))
   .refine zap (zaa ⟨_,h,s2 rfl rfl⟩)
   .refine sr (gq (zbf rfl rfl (qa (.xb (decide (a0=9))) rfl (gc (kd (p:=a0=9) rfl h (λ hc h=> ?_) (λ hc h=> ?_))))))
    .refine zap (zaa ⟨_,h,s2 rfl rfl⟩)
    .refine sr (gq (zbf rfl rfl (qa (.xb (decide (a0=10))) rfl (gc (kd (p:=a0=10) rfl h (λ hc h=> ?_) (λ hc h=> ?_))))))
     .refine zap (zaa ⟨_,h,s2 rfl rfl⟩)
     .refine kr (gq (zbf rfl rfl (qa (.xb (decide (a0=11))) rfl (zbc (zaa ⟨_,h,s2 rfl rfl⟩)))))
 .refine kb (p:=a) rfl h (λ hc h=> ?_) (λ hc h=> ?_)
  .refine zan ?_
   cases h
  .refine zax h (λ(b:Bool)=>(pt (pt AF0 3 (.xi a0)) 10 (.xb b))) (λ(b:Bool)=>[]) (λ k6 h=> ?_) (λ b h=> ?_)
   .refine sr (gq (zbf rfl rfl (qa (.xb (decide (a0=12))) rfl (gc (kd (p:=a0=12) rfl h (λ hc h=> ?_) (λ hc h=> ?_))))))
    .refine zap (zaa ⟨_,h,s2 rfl rfl⟩)
    .refine sr (gq (zbf rfl rfl (qa (.xb (decide (a0=13))) rfl (gc (kd (p:=a0=13) rfl h (λ hc h=> ?_) (λ hc h=> ?_))))))
     .refine zap (zaa ⟨_,h,s2 rfl rfl⟩)
     .refine kr (gq (zbf rfl rfl (qa (.xb (decide (a0=16))) rfl (zbc (zaa ⟨_,h,s2 rfl rfl⟩)))))
   .refine kb (p:=b) rfl h (λ hc h=> ?_) (λ hc h=> ?_)
    .refine sr (qa (.exact (.string (bs [80,83,80]))) rfl (gc (zbn (zde (zdb ?_)))))
     obtain rfl:=oi h
     refine ke (pt AF0 2 (.exact (.string (bs [80,83,80])))) [] rfl (s1 rfl) ⟨rfl,rfl⟩
    .refine sr (gq (zbf rfl rfl (qa (.xb (decide (a0=17))) rfl (gc (kd (p:=a0=17) rfl h (λ hc h=> ?_) (λ hc h=> ?_))))))
     .refine zan ?_
      cases h
     .refine sr (gq (zbf rfl rfl (qa (.xb (decide (a0=20))) rfl (gc (kd (p:=a0=20) rfl h (λ hc h=> ?_) (λ hc h=> ?_))))))
      .refine zan ?_
       cases h
      .refine sr (gq (zbf rfl rfl (qa (.xb (decide (a0=14))) rfl (gc (kd (p:=a0=14) rfl h (λ hc h=> ?_) (λ hc h=> ?_))))))
       .refine zan ?_
        cases h
       .refine zax h (λ(c:Bool)=>(pt (pt AF0 3 (.xi a0)) 20 (.xb c))) (λ(c:Bool)=>[]) (λ k7 h=> ?_) (λ c h=> ?_)
        .refine sr (gq (zbf rfl rfl (qa (.xb (decide (a0=15))) rfl (gc (kd (p:=a0=15) rfl h (λ hc h=> ?_) (λ hc h=> ?_))))))
         .refine zap (zaa ⟨_,h,s2 rfl rfl⟩)
         .refine kr (gq (zbf rfl rfl (qa (.xb (decide (a0=18))) rfl (zbc (zaa ⟨_,h,s2 rfl rfl⟩)))))
        .refine kb (p:=c) rfl h (λ hc h=> ?_) (λ hc h=> ?_)
         .refine zan ?_
          cases h
         .refine sr (gq (zbf rfl rfl (qa (.xb (decide (a0=19))) rfl (gc (kd (p:=a0=19) rfl h (λ hc h=> ?_) (λ hc h=> ?_))))))
          .refine zan ?_
           cases h
          .refine zap (zau (zaf (sr (qa (.xs ([]:List UInt8)) rfl (gc (zbn ?_))))))
           obtain rfl:=oi h
           refine ke (pt AF0 2 (.xs ([]:List UInt8))) [] rfl (s1 rfl) ⟨rfl,rfl⟩
theorem m_ref16_numbers_ok (a0:List (List UInt8)) (r:(List Int)×Bool) (h:m_ref16_numbers a0=some r):Pure Tryz.prog 138 [(.row 1 zab a0)] (.tup [.row 1 zav r.1, .exact (.bool r.2)]):=by
 unfold m_ref16_numbers at h
 refine Pure.ofFun (zam func138 rfl ntmps138 (by simp) rfl (res2 rfl) λ E hE=>zca (sr (qa (.exact (.slice none 0 0)) rfl (qa (.xb false) rfl (gd (qa (.exact (.slice none 0 0)) rfl (gc (zcb h (λ(c:List Int) (v4_j1:Value)=>(pt AF0 4 (.exact v4_j1))) (λ(c:List Int) (v4_j1:Value)=>[vecT Tryz.prog 22 1 zav v4_j1 c]) (λ k1 h=> ?_) (λ c v4_j1 h=> ?_)))))))))
 .refine sr (qa (.xi 0) rfl (gc (zaq (zcz (m_ref16_numbers_L2 a0 k1) (m_ref16_numbers_B2 a0 k1) (λ _ _=>rfl) (λ m _ _=>rfl) h (λ(d:List Int) (b:Int) (v4_l2:Value)=>(pt (pt (pt AF0 0 (.row 1 zab a0)) 4 (.exact v4_l2)) 5 (.xi b))) (λ(d:List Int) (b:Int) (v4_l2:Value)=>[vecT Tryz.prog 22 1 zav v4_l2 d]) (.slice none 0 0) ?_ (λ i d b v4_l2 h=> ?_)))))
  .refine Sub.trans (SubU.to (SubU.nilT (P:=Tryz.prog) (t:=22) (n:=1) (enc:=zav))) (s3 rfl rfl rfl)
  .unfold m_ref16_numbers_B2 at h
   refine zan (sr (qm (.xi b) rfl (qm (.row 1 zab a0) rfl (gq (zao (by kernel_rfl) rfl (gq (zbm rfl rfl (gc (kd (p:=b<(List.length a0:Int)) rfl h (λ hc h=> ?_) (λ hc h=> ?_))))))))))
   .refine zap (zaf (zan (zaq (zan (sr (qm (.row 1 zab a0) rfl (qm (.xi b) rfl ?_)))))))
    obtain⟨n108,h⟩:=zad h
    refine gq (zai (by kernel_rfl) rfl rfl n108.1 n108.2 (gq (zak (a:= .xs (gi a0 b)) (by kernel_rfl) rfl rfl ?_)))
    obtain⟨y109,f,h⟩:=zae h
    refine gq (zal (m_ref9_Kind_ok _ _ f) func43 (by kernel_rfl) (lc lf ln) (gq (zfr rfl rfl (gc (kd (p:= ¬y109=1) rfl h (λ hc h=> ?_) (λ hc h=> ?_))))))
    .refine zan ?_
     cases h
    .refine zap (zaf (sr (qm (.row 1 zab a0) rfl (qm (.xi b) rfl ?_))))
     obtain⟨n110,h⟩:=zad h
     refine gq (zai (by kernel_rfl) rfl rfl n110.1 n110.2 (gq (zak (a:= .xs (gi a0 b)) (by kernel_rfl) rfl rfl ?_)))
     obtain⟨y111,g,h⟩:=zae h
     refine gq (zal (zdo _ _ g) func44 (by kernel_rfl) (lc lf ln) (qa (.xi y111) rfl (gc (zan (zax h (λ(e:Bool)=>(pt (pt (pt (pt (pt AF0 0 (.row 1 zab a0)) 4 (.exact v4_l2)) 5 (.xi b)) 6 (.xi y111)) 29 (.xb e))) (λ(e:Bool)=>[vecT Tryz.prog 22 1 zav v4_l2 d]) (λ k114 h=> ?_) (λ e h=> ?_))))))
     .refine kr (qm (.xi y111) rfl (gq (zbm rfl rfl (qm (.xb (decide (y111<(-1)))) rfl (zcc (p:=y111<(-1)) 26 rfl (λ hc=> ?_) (λ hc=> ?_))))))
      .replace h:=zcg h hc
       refine gn (gn (gq (zat rfl (av:= .xb true) rfl (zbc (zaa ⟨_,h,so (l4 rfl rfl rfl rfl (lq rfl lt0))⟩)))))
      .replace h:=zcf h hc
       refine gy (zah (av:= .xi y111) rfl (gy (zfx rfl rfl (gq (zar rfl (av:= .xb (decide (1073741824<y111))) rfl (zbc (zaa ⟨_,h,so (l4 rfl rfl rfl rfl (lq rfl lt0))⟩)))))))
     .refine kb (p:=e) rfl h (λ hc h=> ?_) (λ hc h=> ?_)
      .cases h
      .refine zap (zaf (kr (qm (.exact v4_l2) rfl (qm (.xi y111) rfl (gq (zcd (n:=1) (enc:=zav) [y111] (CellsAll.cons rfl CellsOf.int CellsAll.nil) rfl (by kernel_rfl) (LEss.cons (lc lf ln) LEss.nil) ?_))))))
       obtain⟨n115,h⟩:=zad h
       refine G_l rfl (zcu (by kernel_rfl) rfl rfl oc_c_int n115 (λ v116=>qa (.exact v116) rfl (zbc (zau (zaf (kr (qm (.xi b) rfl (gq (zbo rfl rfl rfl (qa (.xi (i64 (b+1))) rfl (zbc (zaa ⟨_,_,v116,h,s3 rfl rfl rfl⟩))))))))))))
   .refine zbr (zbi (zbk (zbj (zaa ⟨_,v4_l2,h,s1 rfl⟩))))
 .refine sr (qm (.exact v4_j1) rfl (qa (.exact v4_j1) rfl (qa (.xb true) rfl (gc (zbn ?_)))))
  obtain rfl:=oi h
  refine ke (pt (pt AF0 2 (.row 1 zav c)) 3 (.xb true)) [] rfl (Sub.trans (SubU.to (SubU.freezeT (s:=2) rfl zdf)) (s2 rfl rfl)) ⟨rfl,rfl⟩
theorem zhd (a0:Int) (r:Bool) (h:zgu a0=some r):Pure Tryz.prog 67 [(.exact (.int .i64 a0))] (.exact (.bool r)):=by
 unfold zgu at h
 refine Pure.ofFun (zam func67 rfl ntmps67 (by simp) rfl (res1 rfl) λ E hE=>zca (sr (qa (.xb false) rfl (gc (zax h (λ(a:Bool)=>(pt AF0 2 (.xb a))) (λ(a:Bool)=>[]) (λ k1 h=> ?_) (λ a h=> ?_))))))
 .refine kr (qm (.xi a0) rfl (gq (zgm rfl rfl (qm (.xb (decide (2≤a0))) rfl (zcc (p:=2≤a0) 5 rfl (λ hc=> ?_) (λ hc=> ?_))))))
  .replace h:=zcg h hc
   refine gy (zah (av:= .xi a0) rfl (gy (zbm rfl rfl (gq (zat rfl (av:= .xb (decide (a0<1026))) rfl (qa (.xb (decide (a0<1026))) rfl (zbc (zaa ⟨_,h,s1 rfl⟩))))))))
  .replace h:=zcf h hc
   refine gn (gn (gq (zar rfl (av:= .xb false) rfl (qa (.xb false) rfl (zbc (zaa ⟨_,h,s1 rfl⟩))))))
 .refine zbn ?_
  obtain rfl:=oi h
  refine ke (pt AF0 2 (.xb a)) [] rfl (s1 rfl) ⟨rfl,rfl⟩
theorem m_ref16_ValidSet_ok (a0:List Int) (r:Bool) (h:m_ref16_ValidSet a0=some r):Pure Tryz.prog 139 [(.row 1 zav a0)] (.exact (.bool r)):=by
 unfold m_ref16_ValidSet at h
 refine Pure.ofFun (zam func139 rfl ntmps139 (by simp) rfl (res1 rfl) λ E hE=>zca (sr (qa (.xb false) rfl (gc (zbw h (AF0) ([]) (λ k1 h=> ?_) (λ  h=> ?_))))))
 .refine sr (qa (.xi 0) rfl (gc (zaq (zcr (m_ref16_ValidSet_L2 a0 k1) (m_ref16_ValidSet_B2 a0 k1) (λ _=>rfl) (λ m _=>rfl) h (λ(b:Int)=>(pt (pt AF0 0 (.row 1 zav a0)) 3 (.xi b))) (λ(b:Int)=>[]) ?_ (λ f b h=> ?_)))))
  .exact s2 rfl rfl
  .unfold m_ref16_ValidSet_B2 at h
   refine zan (sr (qm (.xi b) rfl (qm (.row 1 zav a0) rfl (gq (zao (by kernel_rfl) rfl (gq (zbm rfl rfl (gc (kd (p:=b<(List.length a0:Int)) rfl h (λ hc h=> ?_) (λ hc h=> ?_))))))))))
   .refine zap (zaf (zan (zaq (zax h (λ(d:Bool)=>(pt (pt (pt AF0 0 (.row 1 zav a0)) 3 (.xi b)) 31 (.xb d))) (λ(d:Bool)=>[]) (λ k108 h=> ?_) (λ d h=> ?_)))))
    .refine zck [] [(0,0),(0,1),(0,2),(0,3),(0,4),(0,5),(0,6),(0,7),(0,8),(0,9),(0,10),(0,11),(0,12),(0,13),(0,14),(0,15),(0,16),(0,17),(0,18),(0,19),(0,20),(0,21)] hmixP (by kernel_rfl) (pq rfl (zah (av:= .row 1 zav a0) rfl (pq rfl (zah (av:= .xi b) rfl ?_))))
     obtain⟨n113,h⟩:=zad h
     refine pq rfl (zai (by kernel_rfl) rfl rfl n113.1 n113.2 (pq rfl (zak (a:= .xi (gi a0 b)) (by kernel_rfl) rfl rfl ?_)))
     obtain⟨y114,e,h⟩:=zae h
     refine pq rfl (zal (zhd _ _ e) func67 (by kernel_rfl) (lc lf ln) (pq rfl (zdh rfl (pq rfl (zah (av:= .xb (!y114)) rfl (P_splitB (c:= !y114) 16 rfl (λ hc=> ?_) (λ hc=> ?_)))))))
     .replace h:=zcg h hc
      refine pn rfl (pn rfl (pn rfl (pu rfl (pu rfl (pu rfl (pu rfl (pu rfl (pu rfl (pu rfl (pu rfl (pu rfl (pu rfl (pn rfl (pq rfl (zat rfl (av:= .xb true) rfl (zcn (zaa ⟨_,h,s3 rfl rfl rfl⟩)))))))))))))))))
     .replace h:=zcf h hc
      refine py rfl (zah (av:= .xi b) rfl (py rfl (zfx rfl rfl (py rfl (zah (av:= .xb (decide (0<b))) rfl (zfd (p:=0<b) 19 rfl (λ hc=> ?_) (λ hc=> ?_)))))))
      .replace h:=zcg h hc
       refine py rfl (zah (av:= .row 1 zav a0) rfl (py rfl (zah (av:= .xi b) rfl ?_)))
       obtain⟨n115,h⟩:=zad h
       refine py rfl (zai (by kernel_rfl) rfl rfl n115.1 n115.2 (py rfl (zak (a:= .xi (gi a0 b)) (by kernel_rfl) rfl rfl (py rfl (zah (av:= .row 1 zav a0) rfl (py rfl (zah (av:= .xi b) rfl (py rfl (op_sub rfl rfl rfl ?_)))))))))
       obtain⟨n116,h⟩:=zad h
       refine py rfl (zai (by kernel_rfl) rfl rfl n116.1 n116.2 (py rfl (zak (a:= .xi (gi a0 (i64 (b - 1)))) (by kernel_rfl) rfl rfl (py rfl (op_leq rfl rfl (py rfl (zat rfl (av:= .xb (decide ((gi a0 b)≤(gi a0 (i64 (b - 1)))))) rfl (pq rfl (zar rfl (av:= .xb (decide ((gi a0 b)≤(gi a0 (i64 (b - 1)))))) rfl (zcn (zaa ⟨_,h,s3 rfl rfl rfl⟩)))))))))))
      .replace h:=zcf h hc
       refine pn rfl (pn rfl (pn rfl (pn rfl (pn rfl (pn rfl (pn rfl (pn rfl (pn rfl (pn rfl (py rfl (zar rfl (av:= .xb false) rfl (pq rfl (zar rfl (av:= .xb false) rfl (zcn (zaa ⟨_,h,s3 rfl rfl rfl⟩)))))))))))))))
    .refine kb (p:=d) rfl h (λ hc h=> ?_) (λ hc h=> ?_)
     .refine zan ?_
      cases h
     .refine zap (zau (zaf (kr (qm (.xi b) rfl (gq (zbo rfl rfl rfl (qa (.xi (i64 (b+1))) rfl (zbc (zaa ⟨_,h,s2 rfl rfl⟩)))))))))
   .refine zbr (zbi (zbk (zbj (zaa ⟨h,Sub.of_le lt0⟩))))
 .refine sr (qa (.xb true) rfl (gc (zbn ?_)))
  obtain rfl:=oi h
  refine ke (pt AF0 2 (.xb true)) [] rfl (s1 rfl) ⟨rfl,rfl⟩
theorem m_ref16_events_ok (a0:List UInt8) (r:(List Int)×Bool) (h:m_ref16_events a0=some r):Pure Tryz.prog 86 [(.exact (.string (bs a0)))] (.tup [.row 1 zav r.1, .exact (.bool r.2)]):=by
 unfold m_ref16_events at h
 refine Pure.ofFun (zam func86 rfl ntmps86 (by simp) rfl (res2 rfl) λ E hE=>zca (sr (qa (.exact (.slice none 0 0)) rfl (qa (.xb false) rfl (gd (qm (.xs a0) rfl ?_))))))
 obtain⟨y1,b,h⟩:=zae h
 refine gq (zal (zeg _ _ b) func42 (by kernel_rfl) (lc lf ln) ?_)
 obtain⟨y2,d,h⟩:=zae h
 refine gq (zal (m_ref16_numbers_ok _ _ d) func138 (by kernel_rfl) (lc lf ln) (qm (.tup [.row 1 zav y2.1, .xb y2.2]) rfl (gq (zbq (av:= .row 1 zav y2.1) rfl rfl (gq (zbq (av:= .xb y2.2) rfl rfl (qa (.row 1 zav y2.1) rfl (qa (.xb y2.2) rfl (gc (zax h (λ(a:Bool)=>(pt (pt AF0 2 (.row 1 zav y2.1)) 3 (.xb a))) (λ(a:Bool)=>[]) (λ k3 h=> ?_) (λ a h=> ?_)))))))))))
 .refine kr (qm (.row 1 zav y2.1) rfl (qm (.xb y2.2) rfl (qm (.xb y2.2) rfl (zfl (c:=y2.2) 14 rfl (λ hc=> ?_) (λ hc=> ?_)))))
  .replace h:=zcg h hc
   refine gy (zah (av:= .xs a0) rfl ?_)
   obtain⟨y6,e,h⟩:=zae h
   refine gy (zal (m_ref9_Kind_ok _ _ e) func43 (by kernel_rfl) (lc lf ln) (gy (zbf rfl rfl (gq (zat rfl (av:= .xb (decide (y6=5))) rfl (qm (.xb (decide (y6=5))) rfl (zcc (p:=y6=5) 19 rfl (λ hc=> ?_) (λ hc=> ?_))))))))
   .replace h:=zcg h hc
    refine gy (zah (av:= .row 1 zav y2.1) rfl ?_)
    obtain⟨y7,f,h⟩:=zae h
    refine gy (zal (m_ref16_ValidSet_ok _ _ f) func139 (by kernel_rfl) (lc lf ln) (gq (zat rfl (av:= .xb y7) rfl (qa (.row 1 zav y2.1) rfl (qa (.xb y7) rfl (zbc (zaa ⟨_,h,s2 rfl rfl⟩)))))))
   .replace h:=zcf h hc
    refine gn (gn (gq (zar rfl (av:= .xb false) rfl (qa (.row 1 zav y2.1) rfl (qa (.xb false) rfl (zbc (zaa ⟨_,h,s2 rfl rfl⟩)))))))
  .replace h:=zcf h hc
   refine gn (gn (gn (gq (zar rfl (av:= .xb false) rfl (qm (.xb false) rfl (gn (gn (gq (zar rfl (av:= .xb false) rfl (qa (.row 1 zav y2.1) rfl (qa (.xb false) rfl (zbc (zaa ⟨_,h,s2 rfl rfl⟩)))))))))))))
 .refine zbn ?_
  obtain rfl:=oi h
  refine ke (pt (pt AF0 2 (.row 1 zav y2.1)) 3 (.xb a)) [] rfl (s2 rfl rfl) ⟨rfl,rfl⟩
theorem m_ref16_term_F_ok (d:(List UInt8)->Option Bool) (hself_ref16_term: ∀(a0:List UInt8) (r:Bool),d a0=some r->Pure Tryz.prog 41 [(.exact (.string (bs a0)))] (.exact (.bool r))) (a0:List UInt8) (r:Bool) (h:m_ref16_term_F d a0=some r):Pure Tryz.prog 41 [(.exact (.string (bs a0)))] (.exact (.bool r)):=by
 unfold m_ref16_term_F at h
 refine Pure.ofFun (zam func41 rfl ntmps41 (by simp) rfl (res1 rfl) λ E hE=>zca (sr (qa (.xb false) rfl (gd (qm (.xs a0) rfl ?_)))))
 obtain⟨y1,i,h⟩:=zae h
 refine gq (zal (zeg _ _ i) func42 (by kernel_rfl) (lc lf ln) (qa (.row 1 zab y1) rfl (gc (zan (sr (qm (.xs a0) rfl ?_))))))
 obtain⟨y2,j,h⟩:=zae h
 refine gq (zal (m_ref9_Kind_ok _ _ j) func43 (by kernel_rfl) (lc lf ln) (gq (zfr rfl rfl (gc (kd (p:= ¬y2=9) rfl h (λ hc h=> ?_) (λ hc h=> ?_))))))
 .refine zan ?_
  cases h
 .refine zap (zaf (sr (qm (.row 1 zab y1) rfl ?_)))
  obtain⟨n3,h⟩:=zad h
  refine gq (zai (by kernel_rfl) rfl rfl n3.1 n3.2 (gq (zak (a:= .xs (gi y1 0)) (by kernel_rfl) rfl rfl ?_)))
  obtain⟨y4,k,h⟩:=zae h
  refine gq (zal (zdo _ _ k) func44 (by kernel_rfl) (lc lf ln) (qa (.xi y4) rfl (gd (qm (.row 1 zab y1) rfl ?_))))
  obtain⟨n5,h⟩:=zad h
  refine gq (op_slice_rowd (by kernel_rfl) rfl (zdn rfl) zdu (by decide) n5 (Int.le_refl _) (qa (.row 1 zab (List.drop (Int.toNat 1) y1)) rfl (gc (zan (sr (qm (.xi y4) rfl (gc (zaq (zax h (λ(f:Bool)=>(pt (pt (pt (pt AF0 3 (.row 1 zab (List.drop (Int.toNat 1) y1))) 4 (.xi y4)) 20 (.xi y4)) 21 (.xb f))) (λ(f:Bool)=>[]) (λ k15 h=> ?_) (λ f h=> ?_))))))))))
  .refine sr (gq (zbf rfl rfl (qa (.xb (decide (y4=1))) rfl (gc (kd (p:=y4=1) rfl h (λ hc h=> ?_) (λ hc h=> ?_))))))
   .refine zap (zaa ⟨_,h,s4 rfl rfl rfl rfl⟩)
   .refine sr (gq (zbf rfl rfl (qa (.xb (decide (y4=2))) rfl (gc (kd (p:=y4=2) rfl h (λ hc h=> ?_) (λ hc h=> ?_))))))
    .refine zap (zaa ⟨_,h,s4 rfl rfl rfl rfl⟩)
    .refine sr (gq (zbf rfl rfl (qa (.xb (decide (y4=3))) rfl (gc (kd (p:=y4=3) rfl h (λ hc h=> ?_) (λ hc h=> ?_))))))
     .refine zap (zaa ⟨_,h,s4 rfl rfl rfl rfl⟩)
     .refine kr (gq (zbf rfl rfl (qa (.xb (decide (y4=4))) rfl (zbc (zaa ⟨_,h,s4 rfl rfl rfl rfl⟩)))))
  .refine kb (p:=f) rfl h (λ hc h=> ?_) (λ hc h=> ?_)
   .refine sr (qm (.row 1 zab (List.drop (Int.toNat 1) y1)) rfl (gq (zao (by kernel_rfl) rfl (gq (zbf rfl rfl (qa (.xb (decide ((List.length (List.drop (Int.toNat 1) y1):Int)=0))) rfl (gc (zbn (zde (zdb ?_))))))))))
    obtain rfl:=oi h
    refine ke (pt AF0 2 (.xb (decide ((List.length (List.drop (Int.toNat 1) y1):Int)=0)))) [] rfl (s1 rfl) ⟨rfl,rfl⟩
   .refine sr (gq (zbf rfl rfl (qa (.xb (decide (y4=5))) rfl (gc (kd (p:=y4=5) rfl h (λ hc h=> ?_) (λ hc h=> ?_))))))
    .refine zan ?_
     cases h
    .refine sr (gq (zbf rfl rfl (qa (.xb (decide (y4=21))) rfl (gc (kd (p:=y4=21) rfl h (λ hc h=> ?_) (λ hc h=> ?_))))))
     .refine zax h (λ(g:Bool)=>(pt AF0 2 (.xb g))) (λ(g:Bool)=>[]) (λ k17 h=> ?_) (λ g h=> ?_)
      .refine kr (qm (.row 1 zab (List.drop (Int.toNat 1) y1)) rfl (gq (zao (by kernel_rfl) rfl (gq (zbf rfl rfl (qm (.xb (decide ((List.length (List.drop (Int.toNat 1) y1):Int)=1))) rfl (zcc (p:=(List.length (List.drop (Int.toNat 1) y1):Int)=1) 50 rfl (λ hc=> ?_) (λ hc=> ?_))))))))
       .replace h:=zcg h hc
        refine gy (zah (av:= .row 1 zab (List.drop (Int.toNat 1) y1)) rfl ?_)
        obtain⟨n20,h⟩:=zad h
        refine gy (zai (by kernel_rfl) rfl rfl n20.1 n20.2 (gy (zak (a:= .xs (gi (List.drop (Int.toNat 1) y1) 0)) (by kernel_rfl) rfl rfl ?_)))
        obtain⟨y21,l,h⟩:=zae h
        refine gy (zal (m_ref16_between_ok _ _ _ _ l) func84 (by kernel_rfl) (lc lf (lc lf (lc lf ln))) (gq (zat rfl (av:= .xb y21) rfl (qa (.xb y21) rfl (zbc (zaa ⟨_,h,s1 rfl⟩))))))
       .replace h:=zcf h hc
        refine gn (gn (gn (gn (gq (zar rfl (av:= .xb false) rfl (qa (.xb false) rfl (zbc (zaa ⟨_,h,s1 rfl⟩))))))))
      .refine zbn (zde (zdb ?_))
       obtain rfl:=oi h
       refine ke (pt AF0 2 (.xb g)) [] rfl (s1 rfl) ⟨rfl,rfl⟩
     .refine sr (gq (zbf rfl rfl (qa (.xb (decide (y4=6))) rfl (gc (kd (p:=y4=6) rfl h (λ hc h=> ?_) (λ hc h=> ?_))))))
      .refine sr (qm (.row 1 zab (List.drop (Int.toNat 1) y1)) rfl ?_)
       obtain⟨y22,n,h⟩:=zae h
       refine gq (zal (m_ref16_offered_ok d hself_ref16_term _ _ n) func85 (by kernel_rfl) (lc lf ln) (qa (.xb y22) rfl (gc (zbn (zde (zdb ?_))))))
       obtain rfl:=oi h
       refine ke (pt AF0 2 (.xb y22)) [] rfl (s1 rfl) ⟨rfl,rfl⟩
      .refine zap (zau (zaf (sr (qm (.xi y4) rfl ?_))))
       obtain⟨y23,o,h⟩:=zae h
       refine gq (zal (zgq _ _ o) func30 (by kernel_rfl) (lc lf ln) (qa (.xs y23) rfl (gc (zan (sr (qm (.row 1 zab (List.drop (Int.toNat 1) y1)) rfl (gq (zao (by kernel_rfl) rfl (qm (.xs y23) rfl (gq (op_lenS (by kernel_rfl) rfl (gq (zfr rfl rfl (gc (kd (p:= ¬(List.length (List.drop (Int.toNat 1) y1):Int)=(List.length y23:Int)) rfl h (λ hc h=> ?_) (λ hc h=> ?_))))))))))))))))
       .refine zan ?_
        cases h
       .refine zap (zaf (zbw h (AF0) ([]) (λ k24 h=> ?_) (λ  h=> ?_)))
        .refine sr (qa (.xi 0) rfl (gc (zaq (zcr (m_ref16_term_L2 d y1 y23 k24) (m_ref16_term_B2 d y1 y23 k24) (λ _=>rfl) (λ m _=>rfl) h (λ(c:Int)=>(pt (pt (pt (pt AF0 3 (.row 1 zab (List.drop (Int.toNat 1) y1))) 4 (.xi y4)) 5 (.xs y23)) 6 (.xi c))) (λ(c:Int)=>[]) ?_ (λ t c h=> ?_)))))
         .exact s4 rfl rfl rfl rfl
         .unfold m_ref16_term_B2 at h
          refine zan (sr (qm (.xi c) rfl (qm (.row 1 zab (List.drop (Int.toNat 1) y1)) rfl (gq (zao (by kernel_rfl) rfl (gq (zbm rfl rfl (gc (kd (p:=c<(List.length (List.drop (Int.toNat 1) y1):Int)) rfl h (λ hc h=> ?_) (λ hc h=> ?_))))))))))
          .refine zap (zaf (zan (zaq (sr (qa (.xb true) rfl (gc (zax h (λ(e:Bool)=>(pt (pt (pt (pt (pt AF0 3 (.row 1 zab (List.drop (Int.toNat 1) y1))) 4 (.xi y4)) 5 (.xs y23)) 6 (.xi c)) 7 (.xb e))) (λ(e:Bool)=>[]) (λ k153 h=> ?_) (λ e h=> ?_))))))))
           .refine sr (qm (.xs y23) rfl (qm (.xi c) rfl ?_))
            obtain⟨n159,h⟩:=zad h
            refine gq (zct (by kernel_rfl) rfl rfl n159.1 n159.2 (gc (zaq (sr (gq (zgr (a:=(gi y23 c)) (b:=80) rfl rfl (qa (.xb (decide ((gi y23 c)=80))) rfl (gc (kd (p:=(gi y23 c)=80) rfl h (λ hc h=> ?_) (λ hc h=> ?_))))))))))
            .refine kr (qm (.row 1 zab (List.drop (Int.toNat 1) y1)) rfl (qm (.xi c) rfl ?_))
             obtain⟨n160,h⟩:=zad h
             refine gq (zai (by kernel_rfl) rfl rfl n160.1 n160.2 (gq (zak (a:= .xs (gi (List.drop (Int.toNat 1) y1) c)) (by kernel_rfl) rfl rfl ?_)))
             obtain⟨y161,q,h⟩:=zae h
             refine gq (zal (hself_ref16_term _ _ q) func41 (by kernel_rfl) (lc lf ln) (qa (.xb y161) rfl (zbc (zau (zaa ⟨_,h,so (l4 rfl rfl rfl rfl (lq rfl lt0))⟩)))))
            .refine sr (gq (zgr (a:=(gi y23 c)) (b:=83) rfl rfl (qa (.xb (decide ((gi y23 c)=83))) rfl (gc (kd (p:=(gi y23 c)=83) rfl h (λ hc h=> ?_) (λ hc h=> ?_))))))
             .refine kr (qm (.row 1 zab (List.drop (Int.toNat 1) y1)) rfl (qm (.xi c) rfl ?_))
              obtain⟨n162,h⟩:=zad h
              refine gq (zai (by kernel_rfl) rfl rfl n162.1 n162.2 (gq (zak (a:= .xs (gi (List.drop (Int.toNat 1) y1) c)) (by kernel_rfl) rfl rfl ?_)))
              obtain⟨y163,s,h⟩:=zae h
              refine gq (zal (m_ref16_events_ok _ _ s) func86 (by kernel_rfl) (lc lf ln) (qm (.tup [.row 1 zav y163.1, .xb y163.2]) rfl (gq (zbq (av:= .row 1 zav y163.1) rfl rfl (gq (zbq (av:= .xb y163.2) rfl rfl (qa (.xb y163.2) rfl (zbc (zau (zaa ⟨_,h,so (l4 rfl rfl rfl rfl (lq rfl lt0))⟩))))))))))
             .refine zan ?_
              cases h
           .refine sr (qm (.xb e) rfl (gq (zdh rfl (gc (kb (p:= !e) rfl h (λ hc h=> ?_) (λ hc h=> ?_))))))
            .refine zan ?_
             cases h
            .refine zap (zau (zaf (kr (qm (.xi c) rfl (gq (zbo rfl rfl rfl (qa (.xi (i64 (c+1))) rfl (zbc (zaa ⟨_,h,s4 rfl rfl rfl rfl⟩)))))))))
          .refine zbr (zbi (zbk (zbj (zaa ⟨h,Sub.of_le lt0⟩))))
        .refine sr (qa (.xb true) rfl (gc (zbn ?_)))
         obtain rfl:=oi h
         refine ke (pt AF0 2 (.xb true)) [] rfl (s1 rfl) ⟨rfl,rfl⟩
end
noncomputable section
open Go.RowKit
attribute [local irreducible] AV.exact AV.top AV.row AV.ptr AV.agg AV.tup AV.eptr AV.fn AV.nilq AV.nilqn opA opB opM opR Quiet Loud Reads wpG awp den Sub SubU Pure Fun vecI vecT boxI CellsAll CellsOf OneC LEs LEss
set_option maxRecDepth 100000
set_option maxHeartbeats 4000000
theorem m_ref16_term_S_ok: ∀n:Nat,(∀(a0:List UInt8) (r:Bool),m_ref16_term_S n a0=some r->Pure Tryz.prog 41 [(.exact (.string (bs a0)))] (.exact (.bool r)))
  |0=>(λ _ _ h=>by have h':(none:Option _)=some _:=h;cases h')
  |n+1=>by
    have ih:=m_ref16_term_S_ok n
    exact λ a0 r h=>m_ref16_term_F_ok (m_ref16_term_S n) ih a0 r h
theorem m_ref16_term_ok (a0:List UInt8) (r:Bool) (h:m_ref16_term a0=some r):Pure Tryz.prog 41 [(.exact (.string (bs a0)))] (.exact (.bool r)):=(m_ref16_term_S_ok FU) a0 r h
theorem zfj (a0:List UInt8) (r:Bool) (h:zfs a0=some r):Pure Tryz.prog 17 [(.exact (.string (bs a0)))] (.exact (.bool r)):=by
 unfold zfs at h
 refine Pure.ofFun (zam func17 rfl ntmps17 (by simp) rfl (res1 rfl) λ E hE=>zca (sr (qa (.xb false) rfl (gc (zax h (λ(a:Bool)=>(pt AF0 2 (.xb a))) (λ(a:Bool)=>[]) (λ k1 h=> ?_) (λ a h=> ?_))))))
 .refine kr (qm (.xs a0) rfl ?_)
  obtain⟨y4,b,h⟩:=zae h
  refine gq (zal (m_ref9_Valid_ok _ _ b) func40 (by kernel_rfl) (lc lf ln) (qm (.xb y4) rfl (zfl (c:=y4) 5 rfl (λ hc=> ?_) (λ hc=> ?_))))
  .replace h:=zcg h hc
   refine gy (zah (av:= .xs a0) rfl ?_)
   obtain⟨y5,d,h⟩:=zae h
   refine gy (zal (m_ref16_term_ok _ _ d) func41 (by kernel_rfl) (lc lf ln) (gq (zat rfl (av:= .xb y5) rfl (qa (.xb y5) rfl (zbc (zaa ⟨_,h,s1 rfl⟩))))))
  .replace h:=zcf h hc
   refine gn (gn (gq (zar rfl (av:= .xb false) rfl (qa (.xb false) rfl (zbc (zaa ⟨_,h,s1 rfl⟩))))))
 .refine zbn ?_
  obtain rfl:=oi h
  refine ke (pt AF0 2 (.xb a)) [] rfl (s1 rfl) ⟨rfl,rfl⟩
theorem zhv (a0:Int) (a1:List (List UInt8)) (r:(List UInt8)) (h:zid a0 a1=some r):Pure Tryz.prog 31 [(.exact (.int .i64 a0)),(.row 1 zab a1)] (.exact (.string (bs r))):=by
 unfold zid at h
 refine Pure.ofFun (zam func31 rfl ntmps31 (by simp) rfl (res1 rfl) λ E hE=>zca (sr (qa (.xs ([]:List UInt8)) rfl (gd (qm (.xi a0) rfl (qm (.row 1 zab a1) rfl ?_))))))
 obtain⟨y1,a,h⟩:=zae h
 refine gq (zal (m_ref9_Numbered_ok _ _ _ _ a) func65 (by kernel_rfl) (lc lf (lc lf (lc lf ln))) (qa (.xs y1) rfl (gc (zan (sr (qm (.xs y1) rfl ?_))))))
 obtain⟨y2,b,h⟩:=zae h
 refine gq (zal (zfj _ _ b) func17 (by kernel_rfl) (lc lf ln) (gc (kb (p:=y2) rfl h (λ hc h=> ?_) (λ hc h=> ?_))))
 .refine sr (qm (.xs y1) rfl (qa (.xs y1) rfl (gc (zbn (zdb ?_)))))
  obtain rfl:=oi h
  refine ke (pt AF0 4 (.xs y1)) [] rfl (s1 rfl) ⟨rfl,rfl⟩
 .refine zap (zaf (zan ?_))
  cases h
theorem m_ref16_Prefix_ok (a0:List (Int×(List UInt8))) (r:(List UInt8)) (h:m_ref16_Prefix a0=some r):Pure Tryz.prog 33 [(.row 2 zbg a0)] (.exact (.string (bs r))):=by
 unfold m_ref16_Prefix at h
 refine Pure.ofFun (zam func33 rfl ntmps33 (by simp) rfl (res1 rfl) λ E hE=>zca (sr (qa (.xs ([]:List UInt8)) rfl (gd (qa (.exact (.slice none 0 0)) rfl (gc (zcb h (λ(g:List (Int×(List UInt8))) (v3_j1:Value)=>(pt AF0 3 (.exact v3_j1))) (λ(g:List (Int×(List UInt8))) (v3_j1:Value)=>[vecT Tryz.prog 109 2 zbg v3_j1 g]) (λ k1 h=> ?_) (λ g v3_j1 h=> ?_))))))))
 .refine sr (qa (.xi 0) rfl (gc (zaq (zcz (m_ref16_Prefix_L14 a0 k1) (m_ref16_Prefix_B14 a0 k1) (λ _ _=>rfl) (λ m _ _=>rfl) h (λ(e:List (Int×(List UInt8))) (d:Int) (v3_l14:Value)=>(pt (pt (pt AF0 0 (.row 2 zbg a0)) 3 (.exact v3_l14)) 4 (.xi d))) (λ(e:List (Int×(List UInt8))) (d:Int) (v3_l14:Value)=>[vecT Tryz.prog 109 2 zbg v3_l14 e]) (.slice none 0 0) ?_ (λ C e d v3_l14 h=> ?_)))))
  .refine Sub.trans (SubU.to (SubU.nilT (P:=Tryz.prog) (t:=109) (n:=2) (enc:=zbg))) (s3 rfl rfl rfl)
  .unfold m_ref16_Prefix_B14 at h
   refine zan (sr (qm (.xi d) rfl (qm (.row 2 zbg a0) rfl (gq (zao (by kernel_rfl) rfl (gq (zbm rfl rfl (gc (kd (p:=d<(List.length a0:Int)) rfl h (λ hc h=> ?_) (λ hc h=> ?_))))))))))
   .refine zap (zaf (zcb h (λ(s:List (Int×(List UInt8))) (v3_j1238:Value)=>(pt (pt (pt AF0 0 (.row 2 zbg a0)) 3 (.exact v3_j1238)) 4 (.xi d))) (λ(s:List (Int×(List UInt8))) (v3_j1238:Value)=>[vecT Tryz.prog 109 2 zbg v3_j1238 s]) (λ k1238 h=> ?_) (λ s v3_j1238 h=> ?_)))
    .refine zaq (zan (zax h (λ(j:Bool)=>(pt (pt (pt (pt AF0 0 (.row 2 zbg a0)) 3 (.exact v3_l14)) 4 (.xi d)) 29 (.xb j))) (λ(j:Bool)=>[vecT Tryz.prog 109 2 zbg v3_l14 e]) (λ k1412 h=> ?_) (λ j h=> ?_)))
     .refine kr (qm (.row 2 zbg a0) rfl (qm (.xi d) rfl ?_))
      obtain⟨n1417,h⟩:=zad h
      refine gq (zai (by kernel_rfl) rfl rfl n1417.1 n1417.2 (gq (zaj (o:=0) (c':=(List.drop 0 (zbg (gi a0 d)))) (by kernel_rfl) rfl rfl (gq (zak (a:= .xi ((gi a0 d).1)) (by kernel_rfl) rfl rfl ?_)))))
      obtain⟨y1418,w,h⟩:=zae h
      refine gq (zal (zhd _ _ w) func67 (by kernel_rfl) (lc lf ln) (gq (zdh rfl (qm (.xb (!y1418)) rfl (zfl (c:= !y1418) 21 rfl (λ hc=> ?_) (λ hc=> ?_))))))
      .replace h:=zcg h hc
       refine gn (gn (gn (gn (gn (gn (gn (gq (zat rfl (av:= .xb true) rfl (zbc (zaa ⟨_,h,s4 rfl rfl rfl rfl⟩))))))))))
      .replace h:=zcf h hc
       refine gy (zah (av:= .row 2 zbg a0) rfl (gy (zah (av:= .xi d) rfl ?_)))
       obtain⟨n1419,h⟩:=zad h
       refine gy (zai (by kernel_rfl) rfl rfl n1419.1 n1419.2 (gy (zaj (o:=1) (c':=(List.drop 1 (zbg (gi a0 d)))) (by kernel_rfl) rfl rfl (gy (zak (a:= .xs ((gi a0 d).2)) (by kernel_rfl) rfl rfl ?_)))))
       obtain⟨y1420,x,h⟩:=zae h
       refine gy (zal (zfj _ _ x) func17 (by kernel_rfl) (lc lf ln) (gy (zdh rfl (gq (zar rfl (av:= .xb (!y1420)) rfl (zbc (zaa ⟨_,h,s4 rfl rfl rfl rfl⟩)))))))
     .refine kb (p:=j) rfl h (λ hc h=> ?_) (λ hc h=> ?_)
      .refine zan ?_
       cases h
      .refine zap (zaf (sr (qa (.xi 0) rfl (gc (zbw h ((pt (pt (pt (pt AF0 0 (.row 2 zbg a0)) 3 (.exact v3_l14)) 4 (.xi d)) 5 (.xi 0))) ([vecT Tryz.prog 109 2 zbg v3_l14 e]) (λ k1421 h=> ?_) (λ  h=> ?_))))))
       .refine zaq (zgs (m_ref16_Prefix_L26 a0 e d k1421) (m_ref16_Prefix_B26 a0 e d k1421) (λ _=>rfl) (λ m _=>rfl) h ((pt (pt (pt (pt AF0 0 (.row 2 zbg a0)) 3 (.exact v3_l14)) 4 (.xi d)) 5 (.xi 0))) ([vecT Tryz.prog 109 2 zbg v3_l14 e]) ?_ (λ D  h=> ?_))
        .exact s4 rfl rfl rfl rfl
        .unfold m_ref16_Prefix_B26 at h
         refine zan (zax h (λ(k:Bool)=>(pt (pt (pt (pt (pt AF0 0 (.row 2 zbg a0)) 3 (.exact v3_l14)) 4 (.xi d)) 5 (.xi 0)) 73 (.xb k))) (λ(k:Bool)=>[vecT Tryz.prog 109 2 zbg v3_l14 e]) (λ k1532 h=> ?_) (λ k h=> ?_))
         .refine zck [] [(0,0),(0,1),(1,2),(0,3),(0,4),(0,5),(0,6),(0,10),(0,11),(0,12),(0,13),(0,14),(1,7),(0,8),(1,9),(0,15),(0,16),(0,17),(0,18),(0,22),(0,23),(0,24),(0,25),(0,26),(1,19),(0,20),(1,21),(0,27),(0,28),(0,29),(0,30),(0,34),(0,35),(0,36),(0,37),(0,38),(1,31),(0,32),(1,33),(0,39),(0,40),(0,41),(0,42),(0,43)] hmixP (by kernel_rfl) (pq rfl (zah (av:= .xi 0) rfl (pq rfl (zah (av:= .exact v3_l14) rfl (P_r rfl (zcl (by kernel_rfl) rfl (pq rfl (zbm rfl rfl (pq rfl (zah (av:= .xb (decide (0<(List.length e:Int)))) rfl (zfd (p:=0<(List.length e:Int)) 34 rfl (λ hc=> ?_) (λ hc=> ?_))))))))))))
          .replace h:=zcg h hc
           refine py rfl (zah (av:= .exact v3_l14) rfl (py rfl (zah (av:= .xi 0) rfl (py rfl (zah (av:= .row 2 zbg a0) rfl (py rfl (zah (av:= .xi d) rfl ?_)))))))
           obtain⟨n1540,h⟩:=zad h
           refine py rfl (zai (by kernel_rfl) rfl rfl n1540.1 n1540.2 (py rfl (zaj (o:=0) (c':=(List.drop 0 (zbg (gi a0 d)))) (by kernel_rfl) rfl rfl (py rfl (zak (a:= .xi ((gi a0 d).1)) (by kernel_rfl) rfl rfl ?_)))))
           obtain⟨n1541,h⟩:=zad h
           refine Py_r rfl rfl rfl (zbl (by kernel_rfl) rfl rfl n1541.1 n1541.2 (py rfl (zem (o:=0) (by kernel_rfl) rfl (Py_r rfl rfl rfl (zcs (i:=0) (o:=0) (a:= .xi ((gi e 0).1)) (by kernel_rfl) zez rfl n1541.1 n1541.2 rfl (py rfl (zbm rfl rfl (py rfl (zah (av:= .xb (decide (((gi e 0).1)<((gi a0 d).1)))) rfl (zfd (p:=((gi e 0).1)<((gi a0 d).1)) 46 rfl (λ hc=> ?_) (λ hc=> ?_)))))))))))
           .replace h:=zcg h hc
            refine pn rfl (pn rfl (pn rfl (pn rfl (pn rfl (pn rfl (pn rfl (P_n zdl rfl rfl rfl (pn rfl (P_n zdl rfl rfl rfl (pn rfl (pn rfl (pu rfl (pu rfl (pu rfl (pu rfl (pu rfl (pu rfl (pu rfl (P_u zdl rfl rfl rfl (pu rfl (P_u zdl rfl rfl rfl (pu rfl (pu rfl (pn rfl ?_))))))))))))))))))))))))
            refine py rfl (zat rfl (av:= .xb true) rfl (pq rfl (zat rfl (av:= .xb true) rfl (zcn (zaa ⟨_,h,so (l4 rfl rfl rfl rfl (lq rfl lt0))⟩)))))
           .replace h:=zcf h hc
            refine py rfl (zah (av:= .exact v3_l14) rfl (py rfl (zah (av:= .xi 0) rfl (py rfl (zah (av:= .row 2 zbg a0) rfl (py rfl (zah (av:= .xi d) rfl ?_)))))))
            obtain⟨n1542,h⟩:=zad h
            refine py rfl (zai (by kernel_rfl) rfl rfl n1542.1 n1542.2 (py rfl (zaj (o:=0) (c':=(List.drop 0 (zbg (gi a0 d)))) (by kernel_rfl) rfl rfl (py rfl (zak (a:= .xi ((gi a0 d).1)) (by kernel_rfl) rfl rfl ?_)))))
            obtain⟨n1543,h⟩:=zad h
            refine Py_r rfl rfl rfl (zbl (by kernel_rfl) rfl rfl n1543.1 n1543.2 (py rfl (zem (o:=0) (by kernel_rfl) rfl (Py_r rfl rfl rfl (zcs (i:=0) (o:=0) (a:= .xi ((gi e 0).1)) (by kernel_rfl) zez rfl n1543.1 n1543.2 rfl (py rfl (zbf rfl rfl (py rfl (zah (av:= .xb (decide (((gi e 0).1)=((gi a0 d).1)))) rfl (zfd (p:=((gi e 0).1)=((gi a0 d).1)) 58 rfl (λ hc=> ?_) (λ hc=> ?_)))))))))))
            .replace h:=zcg h hc
             refine py rfl (zah (av:= .exact v3_l14) rfl (py rfl (zah (av:= .xi 0) rfl (py rfl (zah (av:= .row 2 zbg a0) rfl (py rfl (zah (av:= .xi d) rfl ?_)))))))
             obtain⟨n1544,h⟩:=zad h
             refine py rfl (zai (by kernel_rfl) rfl rfl n1544.1 n1544.2 (py rfl (zaj (o:=1) (c':=(List.drop 1 (zbg (gi a0 d)))) (by kernel_rfl) rfl rfl (py rfl (zak (a:= .xs ((gi a0 d).2)) (by kernel_rfl) rfl rfl ?_)))))
             obtain⟨n1545,h⟩:=zad h
             refine Py_r rfl rfl rfl (zbl (by kernel_rfl) rfl rfl n1545.1 n1545.2 (py rfl (zem (o:=1) (by kernel_rfl) rfl (Py_r rfl rfl rfl (zcs (i:=0) (o:=1) (a:= .xs ((gi e 0).2)) (by kernel_rfl) zez rfl n1545.1 n1545.2 rfl ?_)))))
             obtain⟨y1546,y,h⟩:=zae h
             refine py rfl (zal (m_ref9_Compare_ok _ _ _ y) func70 (by kernel_rfl) (lc lf (lc lf ln)) (py rfl (zbm rfl rfl (py rfl (zat rfl (av:= .xb (decide (y1546<0))) rfl (py rfl (zar rfl (av:= .xb (decide (y1546<0))) rfl (pq rfl (zat rfl (av:= .xb (decide (y1546<0))) rfl (zcn (zaa ⟨_,h,so (l4 rfl rfl rfl rfl (lq rfl lt0))⟩)))))))))))
            .replace h:=zcf h hc
             refine pn rfl (pn rfl (pn rfl (pn rfl (pn rfl (pn rfl (pn rfl (P_n zdl rfl rfl rfl (pn rfl (P_n zdl rfl rfl rfl (pn rfl (pn rfl (py rfl (zar rfl (av:= .xb false) rfl (py rfl (zar rfl (av:= .xb false) rfl (pq rfl (zat rfl (av:= .xb false) rfl (zcn (zaa ⟨_,h,so (l4 rfl rfl rfl rfl (lq rfl lt0))⟩)))))))))))))))))))
          .replace h:=zcf h hc
           refine pn rfl (pn rfl (pn rfl (pn rfl (pn rfl (pn rfl (pn rfl (P_n zdl rfl rfl rfl (pn rfl (P_n zdl rfl rfl rfl (pn rfl (pn rfl (pu rfl (pu rfl (pu rfl (pu rfl (pu rfl (pu rfl (pu rfl (P_u zdl rfl rfl rfl (pu rfl (P_u zdl rfl rfl rfl (pu rfl (pu rfl (pu rfl ?_))))))))))))))))))))))))
           refine pu rfl (pu rfl (pu rfl (pu rfl (pu rfl (pu rfl (P_u zdl rfl rfl rfl (pu rfl (P_u zdl rfl rfl rfl (pu rfl (pu rfl (pu rfl (pn rfl (pq rfl (zar rfl (av:= .xb false) rfl (zcn (zaa ⟨_,h,so (l4 rfl rfl rfl rfl (lq rfl lt0))⟩))))))))))))))))
         .refine kb (p:=k) rfl h (λ hc h=> ?_) (λ hc h=> ?_)
          .refine zap (zaf (zaq ?_))
           cases h
          .refine zbr (zbi (zbk (zbj (zaa ⟨h,s4 rfl rfl rfl rfl⟩))))
       .refine zan (zax h (λ(l:Bool)=>(pt (pt (pt (pt (pt AF0 0 (.row 2 zbg a0)) 3 (.exact v3_l14)) 4 (.xi d)) 5 (.xi 0)) 90 (.xb l))) (λ(l:Bool)=>[vecT Tryz.prog 109 2 zbg v3_l14 e]) (λ k1553 h=> ?_) (λ l h=> ?_))
        .refine zck [] [(0,0),(0,1),(1,2),(0,3),(0,4),(0,5),(0,6),(0,9),(0,10),(0,11),(0,12),(1,7),(1,8),(0,13),(0,14)] hmixP (by kernel_rfl) (pq rfl (zah (av:= .xi 0) rfl (pq rfl (zah (av:= .exact v3_l14) rfl (P_r rfl (zcl (by kernel_rfl) rfl (pq rfl (zbm rfl rfl (pq rfl (zah (av:= .xb (decide (0<(List.length e:Int)))) rfl (zfd (p:=0<(List.length e:Int)) 80 rfl (λ hc=> ?_) (λ hc=> ?_))))))))))))
         .replace h:=zcg h hc
          refine py rfl (zah (av:= .exact v3_l14) rfl (py rfl (zah (av:= .xi 0) rfl (py rfl (zah (av:= .row 2 zbg a0) rfl (py rfl (zah (av:= .xi d) rfl ?_)))))))
          obtain⟨n1556,h⟩:=zad h
          refine py rfl (zai (by kernel_rfl) rfl rfl n1556.1 n1556.2 (py rfl (zbx (m:=2) (c':=zbg (gi a0 d)) (by kernel_rfl) rfl rfl rfl ?_)))
          obtain⟨n1557,h⟩:=zad h
          refine Py_r rfl rfl rfl (zbl (by kernel_rfl) rfl rfl n1557.1 n1557.2 (Py_r rfl rfl rfl (zet (i:=0) (o:=0) (m:=2) (c':=zbg (gi e 0)) (by kernel_rfl) zez rfl n1557.1 n1557.2 rfl rfl (py rfl (op_eqlA (a:=(gi e 0)) (b:=(gi a0 d)) (by kernel_rfl) (eq_c_api_Offer _ _) rfl rfl (pq rfl (zat rfl (av:= .xb (decide ((gi e 0)=(gi a0 d)))) rfl (zcn (zaa ⟨_,h,so (l4 rfl rfl rfl rfl (lq rfl lt0))⟩)))))))))
         .replace h:=zcf h hc
          refine pn rfl (pn rfl (pn rfl (pn rfl (pn rfl (pn rfl (P_n zdl rfl rfl rfl (P_n zdl rfl rfl rfl (pn rfl (pq rfl (zar rfl (av:= .xb false) rfl (zcn (zaa ⟨_,h,so (l4 rfl rfl rfl rfl (lq rfl lt0))⟩))))))))))))
        .refine kb (p:=l) rfl h (λ hc h=> ?_) (λ hc h=> ?_)
         .refine zbr (zbi (zbj (zaa ⟨_,v3_l14,h,s3 rfl rfl rfl⟩)))
         .refine zap (zaf (sr (qm (.exact v3_l14) rfl (gq (zft (c':=zbg ((0,[]):Int×(List UInt8))) CellsAll.nil rfl (lc lf (lc lf ln)) (gq (zcd (n:=2) (enc:=zbg) ([((0,[]):Int×(List UInt8))]:List (Int×(List UInt8))) (CellsAll.cons rfl CellsOf.agg CellsAll.nil) rfl (by kernel_rfl) (LEss.cons (lc lf (lc lf ln)) LEss.nil) ?_)))))))
          obtain⟨n1558,h⟩:=zad h
          refine G_l rfl (zcu (by kernel_rfl) rfl rfl oc_c_api_Offer n1558 (λ v1559=>qa (.exact v1559) rfl (gc (zan (zck [] [(0,0),(0,1),(0,2),(0,4),(0,5),(1,3),(1,6),(2,7)] hmixP (by kernel_rfl) (pq rfl (zah (av:= .exact v1559) rfl (pq rfl (zah (av:= .xi 0) rfl (pq rfl (zbo rfl rfl rfl (pq rfl (zah (av:= .exact v1559) rfl (pq rfl (zah (av:= .xi 0) rfl ?_)))))))))))))))
          obtain⟨n1560,h⟩:=zad h
          refine P_r rfl (zeh (by kernel_rfl) rfl (zdn rfl) zdu n1560.1 n1560.2.1 n1560.2.2 ?_)
          obtain⟨n1561,h⟩:=zad h
          refine P_r rfl (zeh (by kernel_rfl) rfl (zdn rfl) zdu n1561.1 n1561.2.1 n1561.2.2 (P_l rfl (op_copy (q:=(Nat.min (Int.toNat (List.length (e++([((0,[]):Int×(List UInt8))]:List (Int×(List UInt8)))):Int) - Int.toNat 0) (Int.toNat (List.length (e++([((0,[]):Int×(List UInt8))]:List (Int×(List UInt8)))):Int) - Int.toNat (i64 (0+1))))) (by kernel_rfl) (by kernel_rfl) zez oc_c_api_Offer rfl rfl (by have hh:=n1560;first|omega|(simp only[i64]at hh;omega)|(simp only[i64]at hh ⊢;omega)) (by have hh:=n1561;first|omega|(simp only[i64]at hh;omega)|(simp only[i64]at hh ⊢;omega)) rfl (zcn (zaf (kr (qm (.exact v1559) rfl (qm (.xi 0) rfl (qm (.row 2 zbg a0) rfl (qm (.xi d) rfl ?_))))))))))
          obtain⟨n1562,h⟩:=zad h
          refine gq (zai (by kernel_rfl) rfl rfl n1562.1 n1562.2 (gq (zbx (m:=2) (c':=zbg (gi a0 d)) (by kernel_rfl) rfl rfl rfl ?_)))
          obtain⟨n1563,h⟩:=zad h
          refine G_r rfl (zbl (by kernel_rfl) rfl rfl n1563.1 n1563.2 (G_l rfl (zcm (i:=0) (o:=0) (z:=gi a0 d) (c':=[.xi ((gi a0 d).1), .xs ((gi a0 d).2)]) (by kernel_rfl) zez rfl n1563.1 n1563.2 rfl CellsOf.agg (lc lf (lc lf ln)) (oc_c_api_Offer _) (by kernel_rfl) (Nat.le_of_ble_eq_true rfl) rfl (zbc (zau (zaa ⟨_,v1559,h,s3 rfl rfl rfl⟩))))))
    .refine kr (qm (.xi d) rfl (gq (zbo rfl rfl rfl (qa (.xi (i64 (d+1))) rfl (zbc (zaa ⟨_,_,v3_j1238,h,s3 rfl rfl rfl⟩))))))
   .refine zbr (zbi (zbk (zbj (zaa ⟨_,v3_l14,h,s1 rfl⟩))))
 .refine zan (sr (qm (.exact v3_j1) rfl (G_r rfl (zcl (by kernel_rfl) rfl (gq (zbf rfl rfl (gc (kd (p:=(List.length g:Int)=0) rfl h (λ hc h=> ?_) (λ hc h=> ?_)))))))))
  .refine zan ?_
   cases h
  .refine zap (zaf (sr (qa (.exact (.slice none 0 0)) rfl (gc (zcb h (λ(u:List (List UInt8)) (v6_j1564:Value)=>(pt AF0 6 (.exact v6_j1564))) (λ(u:List (List UInt8)) (v6_j1564:Value)=>[vecT Tryz.prog 36 1 zab v6_j1564 u]) (λ k1564 h=> ?_) (λ u v6_j1564 h=> ?_))))))
   .refine sr (qa (.xi 0) rfl (gc (zaq (zcz (m_ref16_Prefix_L28 g k1564) (m_ref16_Prefix_B28 g k1564) (λ _ _=>rfl) (λ m _ _=>rfl) h (λ(v:List (List UInt8)) (f:Int) (v6_l28:Value)=>(pt (pt (pt AF0 3 (.exact v3_j1)) 6 (.exact v6_l28)) 7 (.xi f))) (λ(v:List (List UInt8)) (f:Int) (v6_l28:Value)=>[vecT Tryz.prog 109 2 zbg v3_j1 g,vecT Tryz.prog 36 1 zab v6_l28 v]) (.slice none 0 0) ?_ (λ F v f v6_l28 h=> ?_)))))
    .refine Sub.trans (SubU.to (SubU.nilT (P:=Tryz.prog) (t:=36) (n:=1) (enc:=zab))) (Sub.trans (SubU.to SubU.f1) (s3 rfl rfl rfl))
    .unfold m_ref16_Prefix_B28 at h
     refine zan (sr (qm (.xi f) rfl (qm (.exact v3_j1) rfl (G_r rfl (zcl (by kernel_rfl) rfl (gq (zbm rfl rfl (gc (kd (p:=f<(List.length g:Int)) rfl h (λ hc h=> ?_) (λ hc h=> ?_))))))))))
     .refine zap (zaf (zan (zaq (zck [] [(0,0),(0,1),(0,2),(0,7),(0,8),(1,3),(0,4),(1,5),(0,6),(1,9),(0,10),(1,11),(0,12),(2,13),(0,14)] hmixP (by kernel_rfl) (pq rfl (zah (av:= .exact v6_l28) rfl (pq rfl (zah (av:= .exact v3_j1) rfl (pq rfl (zah (av:= .xi f) rfl (pq rfl (zah (av:= .exact v3_j1) rfl (pq rfl (zah (av:= .xi f) rfl ?_))))))))))))))
      obtain⟨n1591,h⟩:=zad h
      refine P_r rfl (zbl (by kernel_rfl) rfl rfl n1591.1 n1591.2 (pq rfl (zem (o:=0) (by kernel_rfl) rfl (P_r rfl (zcs (i:=f) (o:=0) (a:= .xi ((gi g f).1)) (by kernel_rfl) zez rfl n1591.1 n1591.2 rfl ?_)))))
      obtain⟨y1592,A,h⟩:=zae h
      refine pq rfl (zal (m_ref9_Int_ok _ _ A) func68 (by kernel_rfl) (lc lf ln) ?_)
      obtain⟨n1593,h⟩:=zad h
      refine P_r rfl (zbl (by kernel_rfl) rfl rfl n1593.1 n1593.2 (pq rfl (zem (o:=1) (by kernel_rfl) rfl (P_r rfl (zcs (i:=f) (o:=1) (a:= .xs ((gi g f).2)) (by kernel_rfl) zez rfl n1593.1 n1593.2 rfl (pq rfl (zcd (n:=1) (enc:=zab) [y1592,(gi g f).2] (CellsAll.cons rfl CellsOf.str (CellsAll.cons rfl CellsOf.str CellsAll.nil)) rfl (by kernel_rfl) (LEss.cons (lc lf ln) (LEss.cons (lc lf ln) LEss.nil)) ?_)))))))
      obtain⟨n1594,h⟩:=zad h
      refine P_l rfl (opB_f1 (zcu (by kernel_rfl) rfl rfl zco n1594 (λ v1595=>pq rfl (zcj (av:= .exact v1595) rfl (zcn (zau (zaf (kr (qm (.xi f) rfl (gq (zbo rfl rfl rfl (qa (.xi (i64 (f+1))) rfl (zbc (zaa ⟨_,_,v1595,h, ?_⟩))))))))))))))
      refine Sub.trans (SubU.to SubU.f1) (s3 rfl rfl rfl)
     .refine zbr (zbi (zbk (zbj (zaa ⟨_,v6_l28,h, ?_⟩))))
      refine Sub.trans (SubU.to SubU.drop) (s1 rfl)
   .refine sr (qm (.exact v6_j1564) rfl (G_sub rfl (SubU.freezeT2 (s1:=6) (s2:=134) rfl rfl zbt) ?_))
    obtain⟨y1596,B,h⟩:=zae h
    refine gq (zal (zhv _ _ _ B) func31 (by kernel_rfl) (lc lf (lc lf ln)) (qa (.xs y1596) rfl (gc (zbn ?_))))
    obtain rfl:=oi h
    refine ke (pt AF0 2 (.xs y1596)) [] rfl (s1 rfl) ⟨rfl,rfl⟩
theorem m_law22_prefix_ok (a0:Int) (r:(List UInt8)) (h:m_law22_prefix a0=some r):Pure Tryz.prog 11 [(.exact (.int .i64 a0))] (.exact (.string (bs r))):=by
 unfold m_law22_prefix at h
 refine Pure.ofFun (zam func11 rfl ntmps11 (by simp) rfl (res1 rfl) λ E hE=>zca (sr (qa (.xs ([]:List UInt8)) rfl (gd (qm (.xi a0) rfl ?_)))))
 obtain⟨y1,a,h⟩:=zae h
 refine gq (zal (zhv _ _ _ a) func31 (by kernel_rfl) (lc lf (lc (zcy (by decide)) ln)) (gq (zft (c':=zbg (a0,y1)) (CellsAll.cons rfl CellsOf.int (CellsAll.cons rfl CellsOf.str CellsAll.nil)) rfl (lc lf (lc lf ln)) (gq (zcd (n:=2) (enc:=zbg) [(a0,y1)] (CellsAll.cons rfl CellsOf.agg CellsAll.nil) rfl (by kernel_rfl) (LEss.cons (lc lf (lc lf ln)) LEss.nil) ?_)))))
 obtain⟨y2,b,h⟩:=zae h
 refine gq (zal (m_ref16_Prefix_ok _ _ b) func33 (by kernel_rfl) (lc lf ln) (qa (.xs y2) rfl (gc (zbn ?_))))
 obtain rfl:=oi h
 refine ke (pt AF0 2 (.xs y2)) [] rfl (s1 rfl) ⟨rfl,rfl⟩
theorem m_ref16_Set_ok (a0:List Int) (r:(List Int)) (h:m_ref16_Set a0=some r):Pure Tryz.prog 66 [(.row 1 zav a0)] (.row 1 zav r):=by
 unfold m_ref16_Set at h
 refine Pure.ofFun (zam func66 rfl ntmps66 (by simp) rfl (res1 rfl) λ E hE=>zca (sr (qa (.exact (.slice none 0 0)) rfl (gd (G_l rfl (op_allocA (f:=(λ(x:Bool)=> .xb x)) 1024 (false:Bool) (.bool false) rfl (by kernel_rfl) rfl (λ b1=>gc (zax h (λ(d:List Bool)=>(pt AF0 3 (pA b1 0))) (λ(d:List Bool)=>[boxI 192 b1 (List.map (λ(x:Bool)=> .xb x) d)]) (λ k2 h=> ?_) (λ d h=> ?_)))))))))
 .refine sr (qa (.xi 0) rfl (gc (zaq (zey (m_ref16_Set_L2 a0 k2) (m_ref16_Set_B2 a0 k2) (λ _ _=>rfl) (λ m _ _=>rfl) h (λ(e:List Bool) (b:Int)=>(pt (pt (pt AF0 0 (.row 1 zav a0)) 3 (pA b1 0)) 4 (.xi b))) (λ(e:List Bool) (b:Int)=>[boxI 192 b1 (List.map (λ(x:Bool)=> .xb x) e)]) ?_ (λ o e b h=> ?_)))))
  .exact s3 rfl rfl rfl
  .unfold m_ref16_Set_B2 at h
   refine zan (sr (qm (.xi b) rfl (qm (.row 1 zav a0) rfl (gq (zao (by kernel_rfl) rfl (gq (zbm rfl rfl (gc (kd (p:=b<(List.length a0:Int)) rfl h (λ hc h=> ?_) (λ hc h=> ?_))))))))))
   .refine zap (zaf (zax h (λ(i:List Bool)=>(pt (pt (pt AF0 0 (.row 1 zav a0)) 3 (pA b1 0)) 4 (.xi b))) (λ(i:List Bool)=>[boxI 192 b1 (List.map (λ(x:Bool)=> .xb x) i)]) (λ k49 h=> ?_) (λ i h=> ?_)))
    .refine zaq (sr (qm (.row 1 zav a0) rfl (qm (.xi b) rfl ?_)))
     obtain⟨n54,h⟩:=zad h
     refine gq (zai (by kernel_rfl) rfl rfl n54.1 n54.2 (gq (zak (a:= .xi (gi a0 b)) (by kernel_rfl) rfl rfl ?_)))
     obtain⟨y55,l,h⟩:=zae h
     refine gq (zal (zhd _ _ l) func67 (by kernel_rfl) (lc lf ln) (gc (kb (p:=y55) rfl h (λ hc h=> ?_) (λ hc h=> ?_))))
     .refine kr (qm (.row 1 zav a0) rfl (qm (.xi b) rfl ?_))
      obtain⟨n56,h⟩:=zad h
      refine gq (zai (by kernel_rfl) rfl rfl n56.1 n56.2 (gq (zak (a:= .xi (gi a0 b)) (by kernel_rfl) rfl rfl (gq (op_sub rfl rfl rfl ?_)))))
      obtain⟨n57,h⟩:=zad h
      refine gq (op_indexArr (m:=1024) (n:=1) (by kernel_rfl) rfl rfl n57.1 n57.2.1 (G_l rfl (zbz (c':=[.xb true]) (c3:=List.map (λ(x:Bool)=> .xb x) (List.set e (Int.toNat (i64 ((gi a0 b) - 2))) true)) rfl rfl CellsOf.bool (lc lf ln) (OneC.bool OneC.nil) (by kernel_rfl) (arr_set_le n57.1 n57.2.2) (arr_set (f:=(λ(x:Bool)=> .xb x)) (z:=true) n57.1 n57.2.2) (zbc (zau (zaa ⟨_,h,s3 rfl rfl rfl⟩))))))
     .refine zap (zau (zaa ⟨_,h,s3 rfl rfl rfl⟩))
    .refine kr (qm (.xi b) rfl (gq (zbo rfl rfl rfl (qa (.xi (i64 (b+1))) rfl (zbc (zaa ⟨_,_,h,s3 rfl rfl rfl⟩))))))
   .refine zbr (zbi (zbk (zbj (zaa ⟨_,h,s1 rfl⟩))))
 .refine sr (qa (.exact (.slice none 0 0)) rfl (gc (zcb h (λ(g:List Int) (v5_j58:Value)=>(pt AF0 5 (.exact v5_j58))) (λ(g:List Int) (v5_j58:Value)=>[vecT Tryz.prog 22 1 zav v5_j58 g]) (λ k58 h=> ?_) (λ g v5_j58 h=> ?_))))
  .refine sr (qa (.xi 0) rfl (gc (zaq (zcz (m_ref16_Set_L4 d k58) (m_ref16_Set_B4 d k58) (λ _ _=>rfl) (λ m _ _=>rfl) h (λ(j:List Int) (c:Int) (v5_l4:Value)=>(pt (pt (pt AF0 3 (pA b1 0)) 5 (.exact v5_l4)) 6 (.xi c))) (λ(j:List Int) (c:Int) (v5_l4:Value)=>[boxI 192 b1 (List.map (λ(x:Bool)=> .xb x) d),vecT Tryz.prog 22 1 zav v5_l4 j]) (.slice none 0 0) ?_ (λ q j c v5_l4 h=> ?_)))))
   .refine Sub.trans (SubU.to (SubU.nilT (P:=Tryz.prog) (t:=22) (n:=1) (enc:=zav))) (Sub.trans (SubU.to SubU.f1) (s3 rfl rfl rfl))
   .unfold m_ref16_Set_B4 at h
    refine zan (sr (qm (.xi c) rfl (gq (zbm rfl rfl (gc (kd (p:=c<1024) rfl h (λ hc h=> ?_) (λ hc h=> ?_)))))))
    .refine zap (zaf (zcb h (λ(k:List Int) (v5_j95:Value)=>(pt (pt (pt AF0 3 (pA b1 0)) 5 (.exact v5_j95)) 6 (.xi c))) (λ(k:List Int) (v5_j95:Value)=>[boxI 192 b1 (List.map (λ(x:Bool)=> .xb x) d),vecT Tryz.prog 22 1 zav v5_j95 k]) (λ k95 h=> ?_) (λ k v5_j95 h=> ?_)))
     .refine zaq (sr (qm (.xi c) rfl ?_))
      obtain⟨n99,h⟩:=zad h
      refine gq (op_indexArr (m:=1024) (n:=1) (by kernel_rfl) rfl rfl n99.1 n99.2.1 (G_r rfl (zaz (a:= .xb (gi d c)) (by kernel_rfl) rfl (arr_get (f:=(λ(x:Bool)=> .xb x)) n99.1 n99.2.2) (gc (kb (p:=gi d c) rfl h (λ hc h=> ?_) (λ hc h=> ?_))))))
      .refine kr (qm (.exact v5_l4) rfl (qm (.xi c) rfl (gq (zbo rfl rfl rfl (gq (zcd (n:=1) (enc:=zav) [i64 (2+c)] (CellsAll.cons rfl CellsOf.int CellsAll.nil) rfl (by kernel_rfl) (LEss.cons (lc lf ln) LEss.nil) ?_))))))
       obtain⟨n100,h⟩:=zad h
       refine G_l rfl (opB_f1 (zcu (by kernel_rfl) rfl rfl oc_c_int n100 (λ v101=>qa (.exact v101) rfl (zbc (zau (zaa ⟨_,v101,h, ?_⟩))))))
       refine Sub.trans (SubU.to SubU.f1) (s3 rfl rfl rfl)
      .refine zap (zau (zaa ⟨_,v5_l4,h,s3 rfl rfl rfl⟩))
     .refine kr (qm (.xi c) rfl (gq (zbo rfl rfl rfl (qa (.xi (i64 (c+1))) rfl (zbc (zaa ⟨_,_,v5_j95,h,s3 rfl rfl rfl⟩))))))
    .refine zbr (zbi (zbk (zbj (zaa ⟨_,v5_l4,h, ?_⟩))))
     refine Sub.trans (SubU.to SubU.drop) (s1 rfl)
  .refine sr (qm (.exact v5_j58) rfl (qa (.exact v5_j58) rfl (gc (zbn ?_))))
   obtain rfl:=oi h
   refine ke (pt AF0 2 (.row 1 zav g)) [] rfl (Sub.trans (SubU.to (SubU.freezeT (s:=2) rfl zdf)) (s1 rfl)) ⟨rfl,rfl⟩
theorem m_ref9_Sort_ok (a0:List (List UInt8)) (r:(List (List UInt8))) (h:m_ref9_Sort a0=some r):Pure Tryz.prog 110 [(.row 1 zab a0)] (.row 1 zab r):=by
 unfold m_ref9_Sort at h
 refine Pure.ofFun (zam func110 rfl ntmps110 (by simp) rfl (res1 rfl) λ E hE=>zca (sr (qa (.exact (.slice none 0 0)) rfl (gd (qa (.exact (.slice none 0 0)) rfl (gc (zcb h (λ(d:List (List UInt8)) (v3_j1:Value)=>(pt AF0 3 (.exact v3_j1))) (λ(d:List (List UInt8)) (v3_j1:Value)=>[vecT Tryz.prog 36 1 zab v3_j1 d]) (λ k1 h=> ?_) (λ d v3_j1 h=> ?_))))))))
 .refine sr (qa (.xi 0) rfl (gc (zaq (zcz (m_ref9_Sort_L14 a0 k1) (m_ref9_Sort_B14 a0 k1) (λ _ _=>rfl) (λ m _ _=>rfl) h (λ(b:List (List UInt8)) (c:Int) (v3_l14:Value)=>(pt (pt (pt AF0 0 (.row 1 zab a0)) 3 (.exact v3_l14)) 4 (.xi c))) (λ(b:List (List UInt8)) (c:Int) (v3_l14:Value)=>[vecT Tryz.prog 36 1 zab v3_l14 b]) (.slice none 0 0) ?_ (λ k b c v3_l14 h=> ?_)))))
  .refine Sub.trans (SubU.to (SubU.nilT (P:=Tryz.prog) (t:=36) (n:=1) (enc:=zab))) (s3 rfl rfl rfl)
  .unfold m_ref9_Sort_B14 at h
   refine zan (sr (qm (.xi c) rfl (qm (.row 1 zab a0) rfl (gq (zao (by kernel_rfl) rfl (gq (zbm rfl rfl (gc (kd (p:=c<(List.length a0:Int)) rfl h (λ hc h=> ?_) (λ hc h=> ?_))))))))))
   .refine zap (zaf (zcb h (λ(g:List (List UInt8)) (v3_j664:Value)=>(pt (pt (pt AF0 0 (.row 1 zab a0)) 3 (.exact v3_j664)) 4 (.xi c))) (λ(g:List (List UInt8)) (v3_j664:Value)=>[vecT Tryz.prog 36 1 zab v3_j664 g]) (λ k664 h=> ?_) (λ g v3_j664 h=> ?_)))
    .refine zaq (sr (qm (.exact v3_l14) rfl (G_r rfl (zcl (by kernel_rfl) rfl (qa (.xi (List.length b:Int)) rfl (gc (zbw h ((pt (pt (pt (pt AF0 0 (.row 1 zab a0)) 3 (.exact v3_l14)) 4 (.xi c)) 5 (.xi (List.length b:Int)))) ([vecT Tryz.prog 36 1 zab v3_l14 b]) (λ k745 h=> ?_) (λ  h=> ?_))))))))
     .refine zaq (zgs (m_ref9_Sort_L26 a0 b c k745) (m_ref9_Sort_B26 a0 b c k745) (λ _=>rfl) (λ m _=>rfl) h ((pt (pt (pt (pt AF0 0 (.row 1 zab a0)) 3 (.exact v3_l14)) 4 (.xi c)) 5 (.xi (List.length b:Int)))) ([vecT Tryz.prog 36 1 zab v3_l14 b]) ?_ (λ l  h=> ?_))
      .exact s4 rfl rfl rfl rfl
      .unfold m_ref9_Sort_B26 at h
       refine zan (zax h (λ(e:Bool)=>(pt (pt (pt (pt (pt AF0 0 (.row 1 zab a0)) 3 (.exact v3_l14)) 4 (.xi c)) 5 (.xi (List.length b:Int))) 28 (.xb e))) (λ(e:Bool)=>[vecT Tryz.prog 36 1 zab v3_l14 b]) (λ k800 h=> ?_) (λ e h=> ?_))
       .refine zck [] [(0,0),(0,1),(0,2),(0,3),(0,4),(0,5),(0,8),(0,9),(0,10),(0,11),(1,6),(1,7),(0,12),(0,13),(0,14)] hmixP (by kernel_rfl) (pq rfl (zah (av:= .xi (List.length b:Int)) rfl (pq rfl (zfx rfl rfl (pq rfl (zah (av:= .xb (decide (0<(List.length b:Int)))) rfl (zfd (p:=0<(List.length b:Int)) 16 rfl (λ hc=> ?_) (λ hc=> ?_))))))))
        .replace h:=zcg h hc
         refine py rfl (zah (av:= .exact v3_l14) rfl (py rfl (zah (av:= .xi (List.length b:Int)) rfl (py rfl (op_sub rfl rfl rfl (py rfl (zah (av:= .row 1 zab a0) rfl (py rfl (zah (av:= .xi c) rfl ?_)))))))))
         obtain⟨n804,h⟩:=zad h
         refine py rfl (zai (by kernel_rfl) rfl rfl n804.1 n804.2 (py rfl (zak (a:= .xs (gi a0 c)) (by kernel_rfl) rfl rfl ?_)))
         obtain⟨n805,h⟩:=zad h
         refine Py_r rfl rfl rfl (zbl (by kernel_rfl) rfl rfl n805.1 n805.2 (Py_r rfl rfl rfl (zcs (i:=i64 ((List.length b:Int) - 1)) (o:=0) (a:= .xs (gi b (i64 ((List.length b:Int) - 1)))) (by kernel_rfl) zbt rfl n805.1 n805.2 rfl ?_)))
         obtain⟨y806,j,h⟩:=zae h
         refine py rfl (zal (m_ref9_Compare_ok _ _ _ j) func70 (by kernel_rfl) (lc lf (lc lf ln)) (py rfl (zfx rfl rfl (pq rfl (zat rfl (av:= .xb (decide (0<y806))) rfl (zcn (zaa ⟨_,h,so (l4 rfl rfl rfl rfl (lq rfl lt0))⟩)))))))
        .replace h:=zcf h hc
         refine pn rfl (pn rfl (pn rfl (pn rfl (pn rfl (pn rfl (pn rfl (P_n zdl rfl rfl rfl (P_n zdl rfl rfl rfl (pn rfl (pn rfl (pq rfl (zar rfl (av:= .xb false) rfl (zcn (zaa ⟨_,h,so (l4 rfl rfl rfl rfl (lq rfl lt0))⟩))))))))))))))
       .refine kb (p:=e) rfl h (λ hc h=> ?_) (λ hc h=> ?_)
        .refine zap (zaf (zaq ?_))
         cases h
        .refine zbr (zbi (zbk (zbj (zaa ⟨h,s4 rfl rfl rfl rfl⟩))))
     .refine zan (zax h (λ(f:Bool)=>(pt (pt (pt (pt (pt AF0 0 (.row 1 zab a0)) 3 (.exact v3_l14)) 4 (.xi c)) 5 (.xi (List.length b:Int))) 44 (.xb f))) (λ(f:Bool)=>[vecT Tryz.prog 36 1 zab v3_l14 b]) (λ k813 h=> ?_) (λ f h=> ?_))
      .refine zck [] [(0,0),(0,1),(0,2),(0,3),(0,4),(0,5),(0,8),(0,9),(0,10),(0,11),(1,6),(1,7),(0,12),(0,13)] hmixP (by kernel_rfl) (pq rfl (zah (av:= .xi (List.length b:Int)) rfl (pq rfl (zfx rfl rfl (pq rfl (zah (av:= .xb (decide (0<(List.length b:Int)))) rfl (zfd (p:=0<(List.length b:Int)) 33 rfl (λ hc=> ?_) (λ hc=> ?_))))))))
       .replace h:=zcg h hc
        refine py rfl (zah (av:= .exact v3_l14) rfl (py rfl (zah (av:= .xi (List.length b:Int)) rfl (py rfl (op_sub rfl rfl rfl (py rfl (zah (av:= .row 1 zab a0) rfl (py rfl (zah (av:= .xi c) rfl ?_)))))))))
        obtain⟨n816,h⟩:=zad h
        refine py rfl (zai (by kernel_rfl) rfl rfl n816.1 n816.2 (py rfl (zak (a:= .xs (gi a0 c)) (by kernel_rfl) rfl rfl ?_)))
        obtain⟨n817,h⟩:=zad h
        refine Py_r rfl rfl rfl (zbl (by kernel_rfl) rfl rfl n817.1 n817.2 (Py_r rfl rfl rfl (zcs (i:=i64 ((List.length b:Int) - 1)) (o:=0) (a:= .xs (gi b (i64 ((List.length b:Int) - 1)))) (by kernel_rfl) zbt rfl n817.1 n817.2 rfl (py rfl (op_eqlS rfl rfl (pq rfl (zat rfl (av:= .xb (decide ((gi b (i64 ((List.length b:Int) - 1)))=(gi a0 c)))) rfl (zcn (zaa ⟨_,h,so (l4 rfl rfl rfl rfl (lq rfl lt0))⟩)))))))))
       .replace h:=zcf h hc
        refine pn rfl (pn rfl (pn rfl (pn rfl (pn rfl (pn rfl (pn rfl (P_n zdl rfl rfl rfl (P_n zdl rfl rfl rfl (pn rfl (pq rfl (zar rfl (av:= .xb false) rfl (zcn (zaa ⟨_,h,so (l4 rfl rfl rfl rfl (lq rfl lt0))⟩)))))))))))))
      .refine kb (p:=f) rfl h (λ hc h=> ?_) (λ hc h=> ?_)
       .refine zbr (zbi (zbj (zaa ⟨_,v3_l14,h,s3 rfl rfl rfl⟩)))
       .refine zap (zaf (sr (qm (.exact v3_l14) rfl (gq (zcd (n:=1) (enc:=zab) [([]:List UInt8)] (CellsAll.cons rfl CellsOf.str CellsAll.nil) rfl (by kernel_rfl) (LEss.cons (lc lf ln) LEss.nil) ?_)))))
        obtain⟨n818,h⟩:=zad h
        refine G_l rfl (zcu (by kernel_rfl) rfl rfl zco n818 (λ v819=>qa (.exact v819) rfl (gc (zan (zck [] [(0,0),(0,1),(0,2),(0,4),(0,5),(1,3),(1,6),(2,7)] hmixP (by kernel_rfl) (pq rfl (zah (av:= .exact v819) rfl (pq rfl (zah (av:= .xi (List.length b:Int)) rfl (pq rfl (zbo rfl rfl rfl (pq rfl (zah (av:= .exact v819) rfl (pq rfl (zah (av:= .xi (List.length b:Int)) rfl ?_)))))))))))))))
        obtain⟨n820,h⟩:=zad h
        refine P_r rfl (zeh (by kernel_rfl) rfl (zdn rfl) zdu n820.1 n820.2.1 n820.2.2 ?_)
        obtain⟨n821,h⟩:=zad h
        refine P_r rfl (zeh (by kernel_rfl) rfl (zdn rfl) zdu n821.1 n821.2.1 n821.2.2 (P_l rfl (op_copy (q:=(Nat.min (Int.toNat (List.length (b++([([]:List UInt8)])):Int) - Int.toNat (List.length b:Int)) (Int.toNat (List.length (b++([([]:List UInt8)])):Int) - Int.toNat (i64 ((List.length b:Int)+1))))) (by kernel_rfl) (by kernel_rfl) zbt zco rfl rfl (by have hh:=n820;first|omega|(simp only[i64]at hh;omega)|(simp only[i64]at hh ⊢;omega)) (by have hh:=n821;first|omega|(simp only[i64]at hh;omega)|(simp only[i64]at hh ⊢;omega)) rfl (zcn (zaf (kr (qm (.exact v819) rfl (qm (.xi (List.length b:Int)) rfl (qm (.row 1 zab a0) rfl (qm (.xi c) rfl ?_))))))))))
        obtain⟨n822,h⟩:=zad h
        refine gq (zai (by kernel_rfl) rfl rfl n822.1 n822.2 (gq (zak (a:= .xs (gi a0 c)) (by kernel_rfl) rfl rfl ?_)))
        obtain⟨n823,h⟩:=zad h
        refine G_r rfl (zbl (by kernel_rfl) rfl rfl n823.1 n823.2 (G_l rfl (zcm (i:=(List.length b:Int)) (o:=0) (z:=gi a0 c) (c':=[.xs (gi a0 c)]) (by kernel_rfl) zbt rfl n823.1 n823.2 rfl CellsOf.str (lc lf ln) (OneC.str OneC.nil) (by kernel_rfl) (Nat.le_of_ble_eq_true rfl) rfl (zbc (zau (zaa ⟨_,v819,h,s3 rfl rfl rfl⟩))))))
    .refine kr (qm (.xi c) rfl (gq (zbo rfl rfl rfl (qa (.xi (i64 (c+1))) rfl (zbc (zaa ⟨_,_,v3_j664,h,s3 rfl rfl rfl⟩))))))
   .refine zbr (zbi (zbk (zbj (zaa ⟨_,v3_l14,h,s1 rfl⟩))))
 .refine sr (qm (.exact v3_j1) rfl (qa (.exact v3_j1) rfl (gc (zbn ?_))))
  obtain rfl:=oi h
  refine ke (pt AF0 2 (.row 1 zab d)) [] rfl (Sub.trans (SubU.to (SubU.freezeT (s:=2) rfl zbt)) (s1 rfl)) ⟨rfl,rfl⟩
theorem m_ref9_Set_ok (a0:List (List UInt8)) (r:(List UInt8)) (h:m_ref9_Set a0=some r):Pure Tryz.prog 69 [(.row 1 zab a0)] (.exact (.string (bs r))):=by
 unfold m_ref9_Set at h
 refine Pure.ofFun (zam func69 rfl ntmps69 (by simp) rfl (res1 rfl) λ E hE=>zca (sr (qa (.xs ([]:List UInt8)) rfl (gc (zan (sr (qm (.row 1 zab a0) rfl ?_)))))))
 obtain⟨y1,a,h⟩:=zae h
 refine gq (zal (m_ref9_all_ok _ _ a) func104 (by kernel_rfl) (lc lf ln) (gq (zdh rfl (gc (kb (p:= !y1) rfl h (λ hc h=> ?_) (λ hc h=> ?_))))))
 .refine zan ?_
  cases h
 .refine zap (zaf (sr (qm (.row 1 zab a0) rfl ?_)))
  obtain⟨y2,b,h⟩:=zae h
  refine gq (zal (m_ref9_Sort_ok _ _ b) func110 (by kernel_rfl) (lc lf ln) ?_)
  obtain⟨y3,c,h⟩:=zae h
  refine gq (zal (m_ref9_compound_ok _ _ _ c) func105 (by kernel_rfl) (lc lf (lc lf ln)) (qa (.xs y3) rfl (gc (zbn ?_))))
  obtain rfl:=oi h
  refine ke (pt AF0 2 (.xs y3)) [] rfl (s1 rfl) ⟨rfl,rfl⟩
theorem m_ref16_SetValue_ok (a0:List Int) (r:(List UInt8)) (h:m_ref16_SetValue a0=some r):Pure Tryz.prog 32 [(.row 1 zav a0)] (.exact (.string (bs r))):=by
 unfold m_ref16_SetValue at h
 refine Pure.ofFun (zam func32 rfl ntmps32 (by simp) rfl (res1 rfl) λ E hE=>zca (sr (qa (.xs ([]:List UInt8)) rfl (gd (qa (.exact (.slice none 0 0)) rfl (gd (qm (.row 1 zav a0) rfl ?_)))))))
 obtain⟨y1,f,h⟩:=zae h
 refine gq (zal (m_ref16_Set_ok _ _ f) func66 (by kernel_rfl) (lc lf ln) (qa (.row 1 zav y1) rfl (gc (zbw h ((pt (pt AF0 3 (.exact (.slice none 0 0))) 4 (.row 1 zav y1))) ([]) (λ k2 h=> ?_) (λ  h=> ?_)))))
 .refine sr (qa (.xi 0) rfl (gc (zaq (zcr (m_ref16_SetValue_L2 a0 k2) (m_ref16_SetValue_B2 a0 k2) (λ _=>rfl) (λ m _=>rfl) h (λ(b:Int)=>(pt (pt (pt (pt AF0 0 (.row 1 zav a0)) 3 (.exact (.slice none 0 0))) 4 (.row 1 zav y1)) 5 (.xi b))) (λ(b:Int)=>[]) ?_ (λ k b h=> ?_)))))
  .exact s4 rfl rfl rfl rfl
  .unfold m_ref16_SetValue_B2 at h
   refine zan (sr (qm (.xi b) rfl (qm (.row 1 zav a0) rfl (gq (zao (by kernel_rfl) rfl (gq (zbm rfl rfl (gc (kd (p:=b<(List.length a0:Int)) rfl h (λ hc h=> ?_) (λ hc h=> ?_))))))))))
   .refine zap (zaf (zan (zaq (sr (qm (.row 1 zav a0) rfl (qm (.xi b) rfl ?_))))))
    obtain⟨n14,h⟩:=zad h
    refine gq (zai (by kernel_rfl) rfl rfl n14.1 n14.2 (gq (zak (a:= .xi (gi a0 b)) (by kernel_rfl) rfl rfl ?_)))
    obtain⟨y15,g,h⟩:=zae h
    refine gq (zal (zhd _ _ g) func67 (by kernel_rfl) (lc lf ln) (gq (zdh rfl (gc (kb (p:= !y15) rfl h (λ hc h=> ?_) (λ hc h=> ?_))))))
    .refine zan ?_
     cases h
    .refine zap (zau (zaf (kr (qm (.xi b) rfl (gq (zbo rfl rfl rfl (qa (.xi (i64 (b+1))) rfl (zbc (zaa ⟨_,h,s4 rfl rfl rfl rfl⟩)))))))))
   .refine zbr (zbi (zbk (zbj (zaa ⟨h,s2 rfl rfl⟩))))
 .refine zcb h (λ(d:List (List UInt8)) (v3_j16:Value)=>(pt AF0 3 (.exact v3_j16))) (λ(d:List (List UInt8)) (v3_j16:Value)=>[vecT Tryz.prog 36 1 zab v3_j16 d]) (λ k16 h=> ?_) (λ d v3_j16 h=> ?_)
  .refine sr (qa (.xi 0) rfl (gc (zaq (zcz (m_ref16_SetValue_L4 y1 k16) (m_ref16_SetValue_B4 y1 k16) (λ _ _=>rfl) (λ m _ _=>rfl) h (λ(e:List (List UInt8)) (c:Int) (v3_l4:Value)=>(pt (pt (pt AF0 3 (.exact v3_l4)) 4 (.row 1 zav y1)) 6 (.xi c))) (λ(e:List (List UInt8)) (c:Int) (v3_l4:Value)=>[vecT Tryz.prog 36 1 zab v3_l4 e]) (.slice none 0 0) ?_ (λ l e c v3_l4 h=> ?_)))))
   .refine Sub.trans (SubU.to (SubU.nilT (P:=Tryz.prog) (t:=36) (n:=1) (enc:=zab))) (s3 rfl rfl rfl)
   .unfold m_ref16_SetValue_B4 at h
    refine zan (sr (qm (.xi c) rfl (qm (.row 1 zav y1) rfl (gq (zao (by kernel_rfl) rfl (gq (zbm rfl rfl (gc (kd (p:=c<(List.length y1:Int)) rfl h (λ hc h=> ?_) (λ hc h=> ?_))))))))))
    .refine zap (zaf (zan (zaq (kr (qm (.exact v3_l4) rfl (qm (.row 1 zav y1) rfl (qm (.xi c) rfl ?_)))))))
     obtain⟨n38,h⟩:=zad h
     refine gq (zai (by kernel_rfl) rfl rfl n38.1 n38.2 (gq (zak (a:= .xi (gi y1 c)) (by kernel_rfl) rfl rfl ?_)))
     obtain⟨y39,i,h⟩:=zae h
     refine gq (zal (m_ref9_Int_ok _ _ i) func68 (by kernel_rfl) (lc lf ln) (gq (zcd (n:=1) (enc:=zab) [y39] (CellsAll.cons rfl CellsOf.str CellsAll.nil) rfl (by kernel_rfl) (LEss.cons (lc lf ln) LEss.nil) ?_)))
     obtain⟨n40,h⟩:=zad h
     refine G_l rfl (zcu (by kernel_rfl) rfl rfl zco n40 (λ v41=>qa (.exact v41) rfl (zbc (zau (zaf (kr (qm (.xi c) rfl (gq (zbo rfl rfl rfl (qa (.xi (i64 (c+1))) rfl (zbc (zaa ⟨_,_,v41,h,s3 rfl rfl rfl⟩))))))))))))
    .refine zbr (zbi (zbk (zbj (zaa ⟨_,v3_l4,h,s1 rfl⟩))))
  .refine sr (qm (.exact v3_j16) rfl (G_sub rfl (SubU.freezeT2 (s1:=3) (s2:=35) rfl rfl zbt) ?_))
   obtain⟨y42,j,h⟩:=zae h
   refine gq (zal (m_ref9_Set_ok _ _ j) func69 (by kernel_rfl) (lc lf ln) (qa (.xs y42) rfl (gc (zbn ?_))))
   obtain rfl:=oi h
   refine ke (pt AF0 2 (.xs y42)) [] rfl (s1 rfl) ⟨rfl,rfl⟩
theorem m_ref16_Guarded_ok (a0:Int) (a1:List UInt8) (a2:List Int) (a3:List UInt8) (r:(List UInt8)) (h:m_ref16_Guarded a0 a1 a2 a3=some r):Pure Tryz.prog 10 [(.exact (.int .i64 a0)),(.exact (.string (bs a1))),(.row 1 zav a2),(.exact (.string (bs a3)))] (.exact (.string (bs r))):=by
 unfold m_ref16_Guarded at h
 refine Pure.ofFun (zam func10 rfl ntmps10 (by simp) rfl (res1 rfl) λ E hE=>zca (sr (qa (.xs ([]:List UInt8)) rfl (gc (zan (sr (qm (.xi a0) rfl ?_)))))))
 obtain⟨y1,a,h⟩:=zae h
 refine gq (zal (zgq _ _ a) func30 (by kernel_rfl) (lc lf ln) (gq (op_neqS rfl rfl (gc (kd (p:= ¬y1=[80,83,80]) rfl h (λ hc h=> ?_) (λ hc h=> ?_))))))
 .refine zan ?_
  cases h
 .refine zap (zaf (sr (qm (.xi a0) rfl (qm (.xs a1) rfl (qm (.row 1 zav a2) rfl ?_)))))
  obtain⟨y2,b,h⟩:=zae h
  refine gq (zal (m_ref16_SetValue_ok _ _ b) func32 (by kernel_rfl) (lc lf ln) (qm (.xs a3) rfl (gq (zcd (n:=1) (enc:=zab) [a1,y2,a3] (CellsAll.cons rfl CellsOf.str (CellsAll.cons rfl CellsOf.str (CellsAll.cons rfl CellsOf.str CellsAll.nil))) rfl (by kernel_rfl) (LEss.cons (lc lf ln) (LEss.cons (lc lf ln) (LEss.cons (lc lf ln) LEss.nil))) ?_))))
  obtain⟨y3,c,h⟩:=zae h
  refine gq (zal (zhv _ _ _ c) func31 (by kernel_rfl) (lc lf (lc lf ln)) (qa (.xs y3) rfl (gc (zbn ?_))))
  obtain rfl:=oi h
  refine ke (pt AF0 8 (.xs y3)) [] rfl (s1 rfl) ⟨rfl,rfl⟩
theorem m_ref21_Clean_F_ok (c:(List UInt8)->Option Bool) (hself_ref21_Clean: ∀(a0:List UInt8) (r:Bool),c a0=some r->Pure Tryz.prog 18 [(.exact (.string (bs a0)))] (.exact (.bool r))) (a0:List UInt8) (r:Bool) (h:m_ref21_Clean_F c a0=some r):Pure Tryz.prog 18 [(.exact (.string (bs a0)))] (.exact (.bool r)):=by
 unfold m_ref21_Clean_F at h
 refine Pure.ofFun (zam func18 rfl ntmps18 (by simp) rfl (res1 rfl) λ E hE=>zca (sr (qa (.xb false) rfl (gd (qm (.xs a0) rfl ?_)))))
 obtain⟨y1,e,h⟩:=zae h
 refine gq (zal (zeg _ _ e) func42 (by kernel_rfl) (lc lf ln) (qa (.row 1 zab y1) rfl (gc (zbw h ((pt AF0 3 (.row 1 zab y1))) ([]) (λ k2 h=> ?_) (λ  h=> ?_)))))
 .refine sr (qm (.xs a0) rfl ?_)
  obtain⟨y7,f,h⟩:=zae h
  refine gq (zal (m_ref9_Kind_ok _ _ f) func43 (by kernel_rfl) (lc lf ln) (gq (zbf rfl rfl (gc (kd (p:=y7=9) rfl h (λ hc h=> ?_) (λ hc h=> ?_))))))
  .refine sr (qm (.row 1 zab y1) rfl ?_)
   obtain⟨n8,h⟩:=zad h
   refine gq (zai (by kernel_rfl) rfl rfl n8.1 n8.2 (gq (zak (a:= .xs (gi y1 0)) (by kernel_rfl) rfl rfl ?_)))
   obtain⟨y9,g,h⟩:=zae h
   refine gq (zal (zdo _ _ g) func44 (by kernel_rfl) (lc lf ln) (qa (.xi y9) rfl (gc (zax h (λ(d:Bool)=>(pt (pt AF0 3 (.row 1 zab y1)) 20 (.xb d))) (λ(d:Bool)=>[]) (λ k10 h=> ?_) (λ d h=> ?_)))))
   .refine kr (qm (.xi y9) rfl (gq (zbf rfl rfl (qm (.xb (decide (y9=21))) rfl (zcc (p:=y9=21) 17 rfl (λ hc=> ?_) (λ hc=> ?_))))))
    .replace h:=zcg h hc
     refine gn (gn (gq (zat rfl (av:= .xb true) rfl (zbc (zaa ⟨_,h,s2 rfl rfl⟩)))))
    .replace h:=zcf h hc
     refine gy (zah (av:= .xi y9) rfl (gy (zbf rfl rfl (gq (zar rfl (av:= .xb (decide (y9=4))) rfl (zbc (zaa ⟨_,h,s2 rfl rfl⟩)))))))
   .refine kb (p:=d) rfl h (λ hc h=> ?_) (λ hc h=> ?_)
    .refine zan ?_
     cases h
    .refine zap (zaa ⟨h,s1 rfl⟩)
  .refine zap (zaa ⟨h,s1 rfl⟩)
 .refine zbw h (AF0) ([]) (λ k11 h=> ?_) (λ  h=> ?_)
  .refine sr (qa (.xi 0) rfl (gc (zaq (zcr (m_ref21_Clean_L2 c y1 k11) (m_ref21_Clean_B2 c y1 k11) (λ _=>rfl) (λ m _=>rfl) h (λ(b:Int)=>(pt (pt AF0 3 (.row 1 zab y1)) 5 (.xi b))) (λ(b:Int)=>[]) ?_ (λ j b h=> ?_)))))
   .exact s2 rfl rfl
   .unfold m_ref21_Clean_B2 at h
    refine zan (sr (qm (.xi b) rfl (qm (.row 1 zab y1) rfl (gq (zao (by kernel_rfl) rfl (gq (zbm rfl rfl (gc (kd (p:=b<(List.length y1:Int)) rfl h (λ hc h=> ?_) (λ hc h=> ?_))))))))))
    .refine zap (zaf (zan (zaq (sr (qm (.row 1 zab y1) rfl (qm (.xi b) rfl ?_))))))
     obtain⟨n23,h⟩:=zad h
     refine gq (zai (by kernel_rfl) rfl rfl n23.1 n23.2 (gq (zak (a:= .xs (gi y1 b)) (by kernel_rfl) rfl rfl ?_)))
     obtain⟨y24,i,h⟩:=zae h
     refine gq (zal (hself_ref21_Clean _ _ i) func18 (by kernel_rfl) (lc lf ln) (gq (zdh rfl (gc (kb (p:= !y24) rfl h (λ hc h=> ?_) (λ hc h=> ?_))))))
     .refine zan ?_
      cases h
     .refine zap (zau (zaf (kr (qm (.xi b) rfl (gq (zbo rfl rfl rfl (qa (.xi (i64 (b+1))) rfl (zbc (zaa ⟨_,h,s2 rfl rfl⟩)))))))))
    .refine zbr (zbi (zbk (zbj (zaa ⟨h,Sub.of_le lt0⟩))))
  .refine sr (qa (.xb true) rfl (gc (zbn ?_)))
   obtain rfl:=oi h
   refine ke (pt AF0 2 (.xb true)) [] rfl (s1 rfl) ⟨rfl,rfl⟩
theorem m_ref21_Clean_S_ok: ∀n:Nat,(∀(a0:List UInt8) (r:Bool),m_ref21_Clean_S n a0=some r->Pure Tryz.prog 18 [(.exact (.string (bs a0)))] (.exact (.bool r)))
  |0=>(λ _ _ h=>by have h':(none:Option _)=some _:=h;cases h')
  |n+1=>by
    have ih:=m_ref21_Clean_S_ok n
    exact λ a0 r h=>m_ref21_Clean_F_ok (m_ref21_Clean_S n) ih a0 r h
theorem m_ref21_Clean_ok (a0:List UInt8) (r:Bool) (h:m_ref21_Clean a0=some r):Pure Tryz.prog 18 [(.exact (.string (bs a0)))] (.exact (.bool r)):=(m_ref21_Clean_S_ok FU) a0 r h
end
noncomputable section
open Go.RowKit
attribute [local irreducible] AV.exact AV.top AV.row AV.ptr AV.agg AV.tup AV.eptr AV.fn AV.nilq AV.nilqn opA opB opM opR Quiet Loud Reads wpG awp den Sub SubU Pure Fun vecI vecT boxI CellsAll CellsOf OneC LEs LEss
set_option maxRecDepth 100000
set_option maxHeartbeats 4000000
theorem zdm (a0:List UInt8) (r:Int) (h:zeo a0=some r):Pure Tryz.prog 45 [(.exact (.string (bs a0)))] (.exact (.int .i64 r)):=by
 unfold zeo at h
 refine Pure.ofFun (zam func45 rfl ntmps45 (by simp) rfl (res1 rfl) λ E hE=>zca (sr (qa (.xi 0) rfl (gc (zan (sr (qm (.xs a0) rfl ?_)))))))
 obtain⟨y1,b,h⟩:=zae h
 refine gq (zal (zfj _ _ b) func17 (by kernel_rfl) (lc lf ln) (gq (zdh rfl (gc (kb (p:= !y1) rfl h (λ hc h=> ?_) (λ hc h=> ?_))))))
 .refine zan ?_
  cases h
 .refine zap (zaf (sr (qm (.xs a0) rfl ?_)))
  obtain⟨y2,c,h⟩:=zae h
  refine gq (zal (zeg _ _ c) func42 (by kernel_rfl) (lc lf ln) ?_)
  obtain⟨n3,h⟩:=zad h
  refine gq (zai (by kernel_rfl) rfl rfl n3.1 n3.2 (gq (zak (a:= .xs (gi y2 0)) (by kernel_rfl) rfl rfl ?_)))
  obtain⟨y4,d,h⟩:=zae h
  refine gq (zal (zdo _ _ d) func44 (by kernel_rfl) (lc lf ln) (qa (.xi y4) rfl (gc (zbn ?_))))
  obtain rfl:=oi h
  refine ke (pt AF0 2 (.xi y4)) [] rfl (s1 rfl) ⟨rfl,rfl⟩
theorem m_ref18_Head_ok (a0:(List ((List UInt8)×Int×Bool×(Int×Int)×(List (Int×Int×Int))))×(List ((List UInt8)×Int×(List Int)×(List (List UInt8))))×(List (Int×Int×Int×Int×(Int×Int)))×(List (List UInt8))) (a1:List UInt8) (r:(List UInt8)×Int) (h:m_ref18_Head a0 a1=some r):Pure Tryz.prog 46 [(.agg (zcw a0)),(.exact (.string (bs a1)))] (.tup [.exact (.string (bs r.1)), .exact (.int .i64 r.2)]):=by
 unfold m_ref18_Head at h
 refine Pure.ofFun (zam func46 rfl ntmps46 (by simp) rfl (res2 rfl) λ E hE=>zca (sr (gq (zfe (c:=zcw a0) rfl CellsOf.agg (qa (.xs ([]:List UInt8)) rfl (qa (.xi 0) rfl (gd (qa (.exact (.slice none 0 0)) rfl (gc (zbw h ((pt AF0 1 (.xs a1))) ([]) (λ k1 h=> ?_) (λ  h=> ?_)))))))))))
 .refine zaq (zgs (m_ref18_Head_L2 a1 k1) (m_ref18_Head_B2 a1 k1) (λ _=>rfl) (λ m _=>rfl) h ((pt (pt (pt AF0 1 (.xs a1)) 2 (.ptr (zcw a0))) 6 (.exact (.slice none 0 0)))) ([]) ?_ (λ d  h=> ?_))
  .exact s3 rfl rfl rfl
  .unfold m_ref18_Head_B2 at h
   refine zan (sr (qm (.xs a1) rfl ?_))
   obtain⟨y6,a,h⟩:=zae h
   refine gq (zal (zdm _ _ a) func45 (by kernel_rfl) (lc lf ln) (gq (zbf rfl rfl (gc (kd (p:=y6=5) rfl h (λ hc h=> ?_) (λ hc h=> ?_))))))
   .refine zap (zaf (zaq (zan (zan ?_))))
    cases h
   .refine zbr (zbi (zbk (zbj (zaa ⟨h,s1 rfl⟩))))
 .refine zan (sr (qm (.xs a1) rfl ?_))
  obtain⟨y7,b,h⟩:=zae h
  refine gq (zal (zfj _ _ b) func17 (by kernel_rfl) (lc lf ln) (gq (zdh rfl (gc (kb (p:= !y7) rfl h (λ hc h=> ?_) (λ hc h=> ?_))))))
  .refine zan ?_
   cases h
  .refine zap (zaf (sr (qm (.xs a1) rfl (qa (.xs a1) rfl (qa (.xi 0) rfl (gc (zbn ?_)))))))
   obtain rfl:=oi h
   refine ke (pt (pt AF0 4 (.xs a1)) 5 (.xi 0)) [] rfl (s2 rfl rfl) ⟨rfl,rfl⟩
theorem m_ref21_Parallel_ok (a0:Int) (r:Bool) (h:zfk a0=some r):Pure Tryz.prog 48 [(.exact (.int .i64 a0))] (.exact (.bool r)):=by
 unfold zfk at h
 refine Pure.ofFun (zam func48 rfl ntmps48 (by simp) rfl (res1 rfl) λ E hE=>zca (sr (qa (.xb false) rfl (gc (zax h (λ(a:Bool)=>(pt AF0 2 (.xb a))) (λ(a:Bool)=>[]) (λ k1 h=> ?_) (λ a h=> ?_))))))
 .refine kr (qm (.xi a0) rfl (gq (zbf rfl rfl (qm (.xb (decide (a0=16))) rfl (zcc (p:=a0=16) 5 rfl (λ hc=> ?_) (λ hc=> ?_))))))
  .replace h:=zcg h hc
   refine gn (gn (gq (zat rfl (av:= .xb true) rfl (qm (.xb true) rfl (gn (gn (gq (zat rfl (av:= .xb true) rfl (qa (.xb true) rfl (zbc (zaa ⟨_,h,s1 rfl⟩)))))))))))
  .replace h:=zcf h hc
   refine gy (zah (av:= .xi a0) rfl (gy (zbf rfl rfl (gq (zar rfl (av:= .xb (decide (a0=17))) rfl (qm (.xb (decide (a0=17))) rfl (zcc (p:=a0=17) 9 rfl (λ hc=> ?_) (λ hc=> ?_))))))))
   .replace h:=zcg h hc
    refine gn (gn (gq (zat rfl (av:= .xb true) rfl (qa (.xb true) rfl (zbc (zaa ⟨_,h,s1 rfl⟩))))))
   .replace h:=zcf h hc
    refine gy (zah (av:= .xi a0) rfl (gy (zbf rfl rfl (gq (zar rfl (av:= .xb (decide (a0=20))) rfl (qa (.xb (decide (a0=20))) rfl (zbc (zaa ⟨_,h,s1 rfl⟩))))))))
 .refine zbn ?_
  obtain rfl:=oi h
  refine ke (pt AF0 2 (.xb a)) [] rfl (s1 rfl) ⟨rfl,rfl⟩
theorem m_ref21_Structural_ok (a0:Int) (r:Bool) (h:zfh a0=some r):Pure Tryz.prog 47 [(.exact (.int .i64 a0))] (.exact (.bool r)):=by
 unfold zfh at h
 refine Pure.ofFun (zam func47 rfl ntmps47 (by simp) rfl (res1 rfl) λ E hE=>zca (sr (qa (.xb false) rfl (gc (zan (sr (qm (.xi a0) rfl (gc (zaq (zax h (λ(a:Bool)=>(pt (pt AF0 0 (.xi a0)) 4 (.xb a))) (λ(a:Bool)=>[]) (λ k3 h=> ?_) (λ a h=> ?_)))))))))))
 .refine sr (gq (zbf rfl rfl (qa (.xb (decide (a0=14))) rfl (gc (kd (p:=a0=14) rfl h (λ hc h=> ?_) (λ hc h=> ?_))))))
  .refine zap (zaa ⟨_,h,s2 rfl rfl⟩)
  .refine sr (gq (zbf rfl rfl (qa (.xb (decide (a0=15))) rfl (gc (kd (p:=a0=15) rfl h (λ hc h=> ?_) (λ hc h=> ?_))))))
   .refine zap (zaa ⟨_,h,s2 rfl rfl⟩)
   .refine sr (gq (zbf rfl rfl (qa (.xb (decide (a0=7))) rfl (gc (kd (p:=a0=7) rfl h (λ hc h=> ?_) (λ hc h=> ?_))))))
    .refine zap (zaa ⟨_,h,s2 rfl rfl⟩)
    .refine sr (gq (zbf rfl rfl (qa (.xb (decide (a0=13))) rfl (gc (kd (p:=a0=13) rfl h (λ hc h=> ?_) (λ hc h=> ?_))))))
     .refine zap (zaa ⟨_,h,s2 rfl rfl⟩)
     .refine sr (gq (zbf rfl rfl (qa (.xb (decide (a0=10))) rfl (gc (kd (p:=a0=10) rfl h (λ hc h=> ?_) (λ hc h=> ?_))))))
      .refine zap (zaa ⟨_,h,s2 rfl rfl⟩)
      .refine sr (gq (zbf rfl rfl (qa (.xb (decide (a0=11))) rfl (gc (kd (p:=a0=11) rfl h (λ hc h=> ?_) (λ hc h=> ?_))))))
       .refine zap (zaa ⟨_,h,s2 rfl rfl⟩)
       .refine sr (gq (zbf rfl rfl (qa (.xb (decide (a0=12))) rfl (gc (kd (p:=a0=12) rfl h (λ hc h=> ?_) (λ hc h=> ?_))))))
        .refine zap (zaa ⟨_,h,s2 rfl rfl⟩)
        .refine kr (gq (zbf rfl rfl (qa (.xb (decide (a0=9))) rfl (zbc (zaa ⟨_,h,s2 rfl rfl⟩)))))
 .refine kb (p:=a) rfl h (λ hc h=> ?_) (λ hc h=> ?_)
  .refine zan ?_
   cases h
  .refine zap (zau (zaf (sr (qm (.xi a0) rfl ?_))))
   obtain⟨y4,b,h⟩:=zae h
   refine gq (zal (m_ref21_Parallel_ok _ _ b) func48 (by kernel_rfl) (lc lf ln) (qa (.xb y4) rfl (gc (zbn ?_))))
   obtain rfl:=oi h
   refine ke (pt AF0 2 (.xb y4)) [] rfl (s1 rfl) ⟨rfl,rfl⟩
theorem m_ref16_Operands_ok (a0:List UInt8) (r:(List (List UInt8))) (h:zdd a0=some r):Fun Tryz.prog 49 [(.exact (.string (bs a0)))] [] (λ a s=> ∃z0,a= .exact z0/\s=[vecT Tryz.prog 36 1 zab z0 r]):=by
 unfold zdd at h
 refine zam func49 rfl ntmps49 (by simp) rfl (res1 rfl) λ E hE=>zca (sr (qa (.exact (.slice none 0 0)) rfl (gd (qm (.xs a0) rfl ?_))))
 obtain⟨y1,k,h⟩:=zae h
 refine gq (zal (zdm _ _ k) func45 (by kernel_rfl) (lc lf ln) (qa (.xi y1) rfl (gd (qm (.xs a0) rfl ?_))))
 obtain⟨y2,l,h⟩:=zae h
 refine gq (zal (zeg _ _ l) func42 (by kernel_rfl) (lc lf ln) (qa (.row 1 zab y2) rfl (gd (qa (.exact (.slice none 0 0)) rfl (gc (zbw h ((pt (pt (pt AF0 3 (.xi y1)) 4 (.row 1 zab y2)) 5 (.exact (.slice none 0 0)))) ([]) (λ k3 h=> ?_) (λ  h=> ?_)))))))
 .refine sr (qm (.xi y1) rfl (gq (zbf rfl rfl (gc (kd (p:=y1=6) rfl h (λ hc h=> ?_) (λ hc h=> ?_))))))
  .refine zcb h (λ(e:List (List UInt8)) (v5_j25:Value)=>(pt AF0 5 (.exact v5_j25))) (λ(e:List (List UInt8)) (v5_j25:Value)=>[vecT Tryz.prog 36 1 zab v5_j25 e]) (λ k25 h=> ?_) (λ e v5_j25 h=> ?_)
   .refine sr (qa (.xi 2) rfl (gc (zaq (zcz (m_ref16_Operands_L4 y2 k25) (m_ref16_Operands_B4 y2 k25) (λ _ _=>rfl) (λ m _ _=>rfl) h (λ(g:List (List UInt8)) (d:Int) (v5_l4:Value)=>(pt (pt (pt AF0 4 (.row 1 zab y2)) 5 (.exact v5_l4)) 6 (.xi d))) (λ(g:List (List UInt8)) (d:Int) (v5_l4:Value)=>[vecT Tryz.prog 36 1 zab v5_l4 g]) (.slice none 0 0) ?_ (λ q g d v5_l4 h=> ?_)))))
    .refine Sub.trans (SubU.to (SubU.nilT (P:=Tryz.prog) (t:=36) (n:=1) (enc:=zab))) (s3 rfl rfl rfl)
    .unfold m_ref16_Operands_B4 at h
     refine zan (sr (qm (.xi d) rfl (qm (.row 1 zab y2) rfl (gq (zao (by kernel_rfl) rfl (gq (zbm rfl rfl (gc (kd (p:=d<(List.length y2:Int)) rfl h (λ hc h=> ?_) (λ hc h=> ?_))))))))))
     .refine zap (zaf (zan (zaq (kr (qm (.exact v5_l4) rfl (qm (.row 1 zab y2) rfl (qm (.xi d) rfl ?_)))))))
      obtain⟨n42,h⟩:=zad h
      refine gq (zai (by kernel_rfl) rfl rfl n42.1 n42.2 (gq (zak (a:= .xs (gi y2 d)) (by kernel_rfl) rfl rfl (gq (zcd (n:=1) (enc:=zab) [gi y2 d] (CellsAll.cons rfl CellsOf.str CellsAll.nil) rfl (by kernel_rfl) (LEss.cons (lc lf ln) LEss.nil) ?_)))))
      obtain⟨n43,h⟩:=zad h
      refine G_l rfl (zcu (by kernel_rfl) rfl rfl zco n43 (λ v44=>qa (.exact v44) rfl (zbc (zau (zaf (kr (qm (.xi d) rfl (gq (zbo rfl rfl rfl (qa (.xi (i64 (d+2))) rfl (zbc (zaa ⟨_,_,v44,h,s3 rfl rfl rfl⟩))))))))))))
     .refine zbr (zbi (zbk (zbj (zaa ⟨_,v5_l4,h,s1 rfl⟩))))
   .refine sr (qm (.exact v5_j25) rfl (qa (.exact v5_j25) rfl (gc (zbn (zek ?_)))))
    obtain rfl:=oi h
    refine ke (pt AF0 2 (.exact v5_j25)) [vecT Tryz.prog 36 1 zab v5_j25 e] rfl (s1 rfl) ⟨v5_j25,rfl,rfl⟩
  .refine zap (zaa ⟨h,s3 rfl rfl rfl⟩)
 .refine sr (qm (.xi y1) rfl ?_)
  obtain⟨y45,o,h⟩:=zae h
  refine gq (zal (zgq _ _ o) func30 (by kernel_rfl) (lc lf ln) (qa (.xs y45) rfl (gc (zcb h (λ(f:List (List UInt8)) (v5_j46:Value)=>(pt AF0 5 (.exact v5_j46))) (λ(f:List (List UInt8)) (v5_j46:Value)=>[vecT Tryz.prog 36 1 zab v5_j46 f]) (λ k46 h=> ?_) (λ f v5_j46 h=> ?_)))))
  .refine sr (qa (.xi 0) rfl (gc (zaq (zcz (m_ref16_Operands_L6 y2 y45 k46) (m_ref16_Operands_B6 y2 y45 k46) (λ _ _=>rfl) (λ m _ _=>rfl) h (λ(i:List (List UInt8)) (c:Int) (v5_l6:Value)=>(pt (pt (pt (pt AF0 4 (.row 1 zab y2)) 5 (.exact v5_l6)) 7 (.xs y45)) 8 (.xi c))) (λ(i:List (List UInt8)) (c:Int) (v5_l6:Value)=>[vecT Tryz.prog 36 1 zab v5_l6 i]) (.slice none 0 0) ?_ (λ u i c v5_l6 h=> ?_)))))
   .refine Sub.trans (SubU.to (SubU.nilT (P:=Tryz.prog) (t:=36) (n:=1) (enc:=zab))) (s4 rfl rfl rfl rfl)
   .unfold m_ref16_Operands_B6 at h
    refine zan (sr (qm (.xi c) rfl (qm (.xs y45) rfl (gq (op_lenS (by kernel_rfl) rfl (gq (zbm rfl rfl (gc (kd (p:=c<(List.length y45:Int)) rfl h (λ hc h=> ?_) (λ hc h=> ?_))))))))))
    .refine zap (zaf (zcb h (λ(j:List (List UInt8)) (v5_j93:Value)=>(pt (pt (pt (pt AF0 4 (.row 1 zab y2)) 5 (.exact v5_j93)) 7 (.xs y45)) 8 (.xi c))) (λ(j:List (List UInt8)) (v5_j93:Value)=>[vecT Tryz.prog 36 1 zab v5_j93 j]) (λ k93 h=> ?_) (λ j v5_j93 h=> ?_)))
     .refine zaq (sr (qm (.xs y45) rfl (qm (.xi c) rfl ?_)))
      obtain⟨n98,h⟩:=zad h
      refine gq (zct (by kernel_rfl) rfl rfl n98.1 n98.2 (gq (zgr (a:=(gi y45 c)) (b:=80) rfl rfl (gc (kd (p:=(gi y45 c)=80) rfl h (λ hc h=> ?_) (λ hc h=> ?_))))))
      .refine kr (qm (.exact v5_l6) rfl (qm (.row 1 zab y2) rfl (qm (.xi c) rfl (gq (zbo rfl rfl rfl ?_)))))
       obtain⟨n99,h⟩:=zad h
       refine gq (zai (by kernel_rfl) rfl rfl n99.1 n99.2 (gq (zak (a:= .xs (gi y2 (i64 (c+1)))) (by kernel_rfl) rfl rfl (gq (zcd (n:=1) (enc:=zab) [gi y2 (i64 (c+1))] (CellsAll.cons rfl CellsOf.str CellsAll.nil) rfl (by kernel_rfl) (LEss.cons (lc lf ln) LEss.nil) ?_)))))
       obtain⟨n100,h⟩:=zad h
       refine G_l rfl (zcu (by kernel_rfl) rfl rfl zco n100 (λ v101=>qa (.exact v101) rfl (zbc (zau (zaa ⟨_,v101,h,s4 rfl rfl rfl rfl⟩)))))
      .refine zap (zau (zaa ⟨_,v5_l6,h,s4 rfl rfl rfl rfl⟩))
     .refine kr (qm (.xi c) rfl (gq (zbo rfl rfl rfl (qa (.xi (i64 (c+1))) rfl (zbc (zaa ⟨_,_,v5_j93,h,s4 rfl rfl rfl rfl⟩))))))
    .refine zbr (zbi (zbk (zbj (zaa ⟨_,v5_l6,h,s1 rfl⟩))))
  .refine sr (qm (.exact v5_j46) rfl (qa (.exact v5_j46) rfl (gc (zbn ?_))))
   obtain rfl:=oi h
   refine ke (pt AF0 2 (.exact v5_j46)) [vecT Tryz.prog 36 1 zab v5_j46 f] rfl (s1 rfl) ⟨v5_j46,rfl,rfl⟩
theorem zfb (a0:List UInt8) (r:(List (List UInt8))) (h:zdd a0=some r):Pure Tryz.prog 49 [(.exact (.string (bs a0)))] (.row 1 zab r):=Pure.ofOwn zbt (m_ref16_Operands_ok a0 r h)
end

noncomputable section
open Go.RowKit
section
variable {P:Program} {af:AF} {σ ρ:Items} {d:Option Tmp} {ty t e:TypeId} {pos:String} {after:Array Edge} {g:Option (Nat×Bool)} {x y:Operand} {α:Type} {n:Nat} {enc:α->List AV} {xs:List α} {v:Value} {k:IntKind} {i:Int} {K:AF->Prop}
theorem ix_row [Inhabited α] (hB:sliceB P t n=true) (hx:af.ev x= .row n enc xs) (hy:af.ev y= .exact (.int k i)) (h:0≤i/\i<xs.length) (hk:K (af.put d (.ptr (enc (gi xs i))))):opA P ⟨d, .indexAddr t x y,ty,pos,after,g⟩ af K:=zai hB hx hy h.1 h.2 hk
theorem ix_str {a:List UInt8} (hB:isStrB P t=true) (hx:af.ev x= .exact (.string (bs a))) (hy:af.ev y= .exact (.int k i)) (h:0≤i/\i<a.length) (hk:K (af.put d (uA (gi a i)))):opA P ⟨d, .index t x y,ty,pos,after,g⟩ af K:=zct hB hx hy h.1 h.2 hk
theorem ix_vec (hB:sliceB P t n=true) (hx:af.ev x= .exact v) (hy:af.ev y= .exact (.int k i)) (h:0≤i/\i<xs.length) (hk:K (af.put d (.eptr v (i.toNat*n)))):opR P ⟨d, .indexAddr t x y,ty,pos,after,g⟩ af (vecT P e n enc v xs::ρ) K:=zbl hB hx hy h.1 h.2 hk
theorem c_eql {a b:Int} (hx:af.ev x= .exact (.int k a)) (h8:(k == .u8)=false) (hy:af.ev y= .exact (.int k b)) (hk:K (af.put d (.exact (.bool (decide (a=b)))))):opA P ⟨d, .binOp .eql t x y e,ty,pos,after,g⟩ af K:=zbf hx hy hk
theorem c_neq {a b:Int} (hx:af.ev x= .exact (.int k a)) (h8:(k == .u8)=false) (hy:af.ev y= .exact (.int k b)) (hk:K (af.put d (.exact (.bool (decide (¬a=b)))))):opA P ⟨d, .binOp .neq t x y e,ty,pos,after,g⟩ af K:=zfr hx hy hk
theorem c_lss {a b:Int} (hx:af.ev x= .exact (.int k a)) (h8:(k == .u8)=false) (hy:af.ev y= .exact (.int k b)) (hk:K (af.put d (.exact (.bool (decide (a<b)))))):opA P ⟨d, .binOp .lss t x y e,ty,pos,after,g⟩ af K:=zbm hx hy hk
theorem c_leq {a b:Int} (hx:af.ev x= .exact (.int k a)) (h8:(k == .u8)=false) (hy:af.ev y= .exact (.int k b)) (hk:K (af.put d (.exact (.bool (decide (a≤b)))))):opA P ⟨d, .binOp .leq t x y e,ty,pos,after,g⟩ af K:=op_leq hx hy hk
theorem c_gtr {a b:Int} (hx:af.ev x= .exact (.int k a)) (h8:(k == .u8)=false) (hy:af.ev y= .exact (.int k b)) (hk:K (af.put d (.exact (.bool (decide (b<a)))))):opA P ⟨d, .binOp .gtr t x y e,ty,pos,after,g⟩ af K:=zfx hx hy hk
theorem c_geq {a b:Int} (hx:af.ev x= .exact (.int k a)) (h8:(k == .u8)=false) (hy:af.ev y= .exact (.int k b)) (hk:K (af.put d (.exact (.bool (decide (b≤a)))))):opA P ⟨d, .binOp .geq t x y e,ty,pos,after,g⟩ af K:=zgm hx hy hk
end
structure Held (q:Prop):Prop where
 ok:q
theorem ra {p q:Prop} (hq:q) (h:Held q->p:=by
 intro hq
 repeat first
  |((first|refine G_q rfl ?_|refine Gy_q rfl rfl rfl ?_|refine P_q no34_0 rfl ?_|refine Py_q no34_0 rfl rfl rfl ?_);first
   |refine zah (av:= .exact _) rfl ?_
   |refine zcj (av:= .exact _) rfl ?_
   |refine zat rfl (av:= .exact _) rfl ?_
   |refine zar rfl (av:= .exact _) rfl ?_
   |refine zak (a:= .exact _) (by decide+kernel) rfl rfl ?_
   |refine c_eql rfl rfl rfl ?_
   |refine ix_row (by kernel_rfl) rfl rfl (by assumption) ?_
   |refine zbo rfl rfl rfl ?_
   |refine zao (by kernel_rfl) rfl ?_
   |refine c_lss rfl rfl rfl ?_
   |refine zah (av:= .row _ _ _) rfl ?_
   |refine zcj (av:= .row _ _ _) rfl ?_
   |refine zbq (av:= .exact _) rfl rfl ?_
   |refine zbq (av:= .row _ _ _) rfl rfl ?_
   |refine zdh rfl ?_
   |refine c_neq rfl rfl rfl ?_
   |refine zes rfl ?_
   |refine op_sub rfl rfl rfl ?_
   |refine c_gtr rfl rfl rfl ?_
   |refine c_geq rfl rfl rfl ?_
   |refine c_leq rfl rfl rfl ?_
   |refine zaj (o:=0) (by decide+kernel) rfl rfl ?_
   |refine zaj (o:=1) (by decide+kernel) rfl rfl ?_
   |refine zaj (o:=2) (by decide+kernel) rfl rfl ?_
   |refine zaj (o:=3) (by decide+kernel) rfl rfl ?_
   |refine zaj (o:=4) (by decide+kernel) rfl rfl ?_
   |refine zaj (o:=5) (by decide+kernel) rfl rfl ?_
   |refine zba (o:=0) (by decide+kernel) rfl ?_
   |refine zba (o:=1) (by decide+kernel) rfl ?_
   |refine zba (o:=2) (by decide+kernel) rfl ?_
   |refine zba (o:=3) (by decide+kernel) rfl ?_
   |refine zba (o:=4) (by decide+kernel) rfl ?_
   |refine zba (o:=5) (by decide+kernel) rfl ?_
   |refine zba (o:=6) (by decide+kernel) rfl ?_
   |refine zba (o:=7) (by decide+kernel) rfl ?_
   |refine zba (o:=8) (by decide+kernel) rfl ?_
   |refine zak (a:= .row _ _ _) (by decide+kernel) rfl rfl ?_
   |refine ix_str (by kernel_rfl) rfl rfl (by assumption) ?_
   |refine op_lenS (by kernel_rfl) rfl ?_
   |refine op_eqlS rfl rfl ?_
   |refine op_neqS rfl rfl ?_
   |refine zah (av:= .ptr _) rfl ?_
   |refine zcj (av:= .ptr _) rfl ?_
   |refine zah (av:= .agg _) rfl ?_
   |refine zcj (av:= .agg _) rfl ?_
   |refine zat rfl (av:= .row _ _ _) rfl ?_
   |refine zar rfl (av:= .row _ _ _) rfl ?_
   |refine op_mul rfl rfl rfl ?_
   |refine op_max rfl rfl ?_
   |refine op_min rfl rfl ?_)
  |((first|refine G_r rfl ?_|refine Gy_r rfl rfl rfl ?_|refine P_r rfl ?_|refine Py_r rfl rfl rfl ?_);first
   |refine zaz (a:= .exact _) (by decide+kernel) rfl rfl ?_
   |refine zaz (a:= .row _ _ _) (by decide+kernel) rfl rfl ?_
   |refine zcl (by kernel_rfl) rfl ?_
   |refine ix_vec (by kernel_rfl) rfl rfl (by assumption) ?_
   |refine opR_f1 (zaz (a:= .exact _) (by decide+kernel) rfl rfl ?_)
   |refine opR_f1 (zaz (a:= .row _ _ _) (by decide+kernel) rfl rfl ?_)
   |refine opR_f2 (zaz (a:= .exact _) (by decide+kernel) rfl rfl ?_)
   |refine opR_f2 (zaz (a:= .row _ _ _) (by decide+kernel) rfl rfl ?_)
   |refine opR_f1 (zcl (by kernel_rfl) rfl ?_)
   |refine opR_f1 (ix_vec (by kernel_rfl) rfl rfl (by assumption) ?_))
  |refine G_n rfl rfl ?_
  |refine G_u rfl rfl ?_
  |refine zbc ?_
  |refine P_n no34_0 rfl rfl rfl ?_
  |refine P_n zdl rfl rfl rfl ?_
  |refine P_u no34_0 rfl rfl rfl ?_
  |refine P_u zdl rfl rfl rfl ?_
  |refine zcn ?_
  |refine zaf ?_
  |refine zau ?_
 exact hq.ok):p:=h ⟨hq⟩
end
noncomputable section
open Go.RowKit
section
variable {af:AF} {σ σ':Items}
theorem SubU.repack (ho:(σ'.flatMap Item.own).Perm (σ.flatMap Item.own)) (hp: ∀M w,(∀it∈σ,it.p M w)-> ∀it∈σ',it.p M w):SubU af σ af σ':=by
 intro E n a w hh
 have hown: ∀k,Items.own σ' k↔Items.own σ k:=λ k=>ho.mem_iff
 have hM: ∀k,k<w.heap.size->both E.F (Items.own σ') k->both E.F (Items.own σ) k:=λ k _ h=>h.imp id (hown k).1
 exact⟨hh.tmps,hh.defers,hh.kept,λ k h hlt=>hh.old k ((hown k).1 h) hlt,⟨hh.good.fr,λ k h=>hh.good.own k ((hown k).1 h),ho.nodup_iff.2 hh.good.nodup,λ x hx=>x.keep (Keeps.refl _ _) hM (hp _ _ hh.good.items x hx)⟩,λ t=>(af t).keep (Keeps.refl _ _) hM (hh.fits t)⟩
theorem Good.repack {F:BSet} {w:World} (h:Good F σ w) (ho:(σ'.flatMap Item.own).Perm (σ.flatMap Item.own)) (hp: ∀M,(∀it∈σ,it.p M w)-> ∀it∈σ',it.p M w):Good F σ' w:=by
 have hown: ∀k,Items.own σ' k↔Items.own σ k:=λ k=>ho.mem_iff
 have hM: ∀k,k<w.heap.size->both F (Items.own σ') k->both F (Items.own σ) k:=λ k _ h=>h.imp id (hown k).1
 exact⟨h.fr,λ k hk=>h.own k ((hown k).1 hk),ho.nodup_iff.2 h.nodup,λ x hx=>x.keep (Keeps.refl _ _) hM (hp _ h.items x hx)⟩
def allI (l:Items):Item where
 own:=l.flatMap Item.own
 p:=λ M w=> ∀it∈l,it.p M w
 keep:=λ {M M' w w'} hk hm h it hi=>it.keep (hk.mono (λ k _ h=>⟨h.1,λ hn=>h.2 (List.mem_flatMap.2 ⟨it,hi,hn⟩)⟩)) hm (h it hi)
theorem SubU.all {l:Items}:SubU af (l++σ) af (allI l::σ):=SubU.repack (by rw[List.flatMap_append,List.flatMap_cons];exact .refl _) (λ M w h it hi=>by
 rcases List.mem_cons.1 hi with rfl|hi
 .exact λ it hi=>h it (List.mem_append_left _ hi)
 .exact h it (List.mem_append_right _ hi))
theorem perm_at {α:Type} {l:List α} {i:Nat} (hi:i<l.length):(l[i]::l.eraseIdx i).Perm l:=by
 rw[List.eraseIdx_eq_take_drop_succ]
 have h:l=l.take i++l[i]::l.drop (i+1):=by rw[List.getElem_cons_drop hi,List.take_append_drop]
 exact(List.perm_middle.symm).trans (by rw[←h])
theorem SubU.take {α:Type} {f:α->Item} {l:List α} {i:Nat} (hi:i<l.length):SubU af (allI (l.map f)::σ) af (f l[i]::allI ((l.eraseIdx i).map f)::σ):=
 SubU.repack (((perm_at hi).map f).flatMap_right Item.own |>.append_right (σ.flatMap Item.own) |>λ h=>by
  simp only[List.map_cons,List.flatMap_cons,List.append_assoc]at h
  simp only[List.flatMap_cons]
  exact h) (λ M w h it hi'=>by
  have hall: ∀it∈l.map f,it.p M w:=h _ List.mem_cons_self
  rcases List.mem_cons.1 hi' with rfl|hi'
  .exact hall _ (List.mem_map_of_mem (List.getElem_mem hi))
  .rcases List.mem_cons.1 hi' with rfl|hi'
   .intro it hit
    obtain⟨x,hx,rfl⟩:=List.mem_map.1 hit
    exact hall _ (List.mem_map_of_mem (List.mem_of_mem_eraseIdx hx))
   .exact h it (List.mem_cons_of_mem _ hi'))
theorem SubU.put {α:Type} {f:α->Item} {l:List α} {i:Nat} {x:α} (hi:i<l.length):SubU af (f x::allI ((l.eraseIdx i).map f)::σ) af (allI ((l.set i x).map f)::σ):=
 SubU.repack (by
  have hi':i<(l.set i x).length:=by rw[List.length_set];exact hi
  have h:=((perm_at hi').map f).flatMap_right Item.own |>.append_right (σ.flatMap Item.own)
  simp only[List.map_cons,List.flatMap_cons,List.append_assoc,List.getElem_set_self,List.eraseIdx_set_eq]at h
  simp only[List.flatMap_cons]
  exact h.symm) (λ M w h it hi'=>by
  rcases List.mem_cons.1 hi' with rfl|hi'
  .intro it hit
   obtain⟨z,hz,rfl⟩:=List.mem_map.1 hit
   have hz':z∈(l.set i x)[i]'(by rw[List.length_set];exact hi)::(l.set i x).eraseIdx i:=(perm_at (l:=l.set i x) (by rw[List.length_set];exact hi)).mem_iff.2 hz
   rw[List.getElem_set_self,List.eraseIdx_set_eq]at hz'
   rcases List.mem_cons.1 hz' with rfl|hz'
   .exact h _ List.mem_cons_self
   .exact h _ (List.mem_cons_of_mem _ List.mem_cons_self) _ (List.mem_map_of_mem hz')
  .exact h it (List.mem_cons_of_mem _ (List.mem_cons_of_mem _ hi')))
theorem SubU.addNil {α:Type} {f:α->Item} {l:List α} {x:α} (h0:(f x).own=[]) (hx: ∀M w,(f x).p M w):SubU af (allI (l.map f)::σ) af (allI ((l++[x]).map f)::σ):=
 SubU.repack (by
  have:(allI ((l++[x]).map f)).own=(allI (l.map f)).own:=by
   show(((l++[x]).map f).flatMap Item.own)=_
   rw[List.map_append,List.flatMap_append]
   show _++((f x).own++[])=_
   rw[h0,List.append_nil,List.append_nil];rfl
  rw[List.flatMap_cons,List.flatMap_cons,this]) (λ M w h it hi'=>by
  rcases List.mem_cons.1 hi' with rfl|hi'
  .intro it hit
   rw[List.map_append]at hit
   rcases List.mem_append.1 hit with hit|hit
   .exact h _ List.mem_cons_self it hit
   .rw[List.mem_singleton.1 (by simpa using hit:it∈[f x])];exact hx M w
  .exact h it (List.mem_cons_of_mem _ hi'))
end
theorem vecO_isSl {α:Type} {P:Program} {t:TypeId} {n:Nat} {enc:α->List AV} {v:Value} {xs:List α} {M:BSet} {w:World} (h:(vecO P t n enc v xs).p M w):IsSl v:=by
 obtain⟨us,⟨_,h1⟩,_⟩:=h
 rcases h1 with⟨rfl,_⟩|⟨g,o,cap,cur,rfl,_⟩
 .exact⟨none,0,0,rfl⟩
 .exact⟨_,_,_,rfl⟩
theorem opB_slOx {α:Type} {P:Program} {o:Oper} {af:AF} {σ:Items} {K:AF->Items->Prop} {t:TypeId} {n:Nat} {enc:α->List AV} {v:Value} {xs:List α} (hm:vecO P t n enc v xs∈σ) (h:IsSl v->opB P o af σ K):opB P o af σ K:=by
 by_cases hs:IsSl v
 .exact h hs
 .exact⟨λ _ _=>False,λ F w ev hg hx=>absurd (vecO_isSl (hg.items _ hm)) hs,λ _ _ h=>h.elim⟩
abbrev ExZ:=List UInt8×List UInt8×(Option Addr×Nat×Nat)×List Int×Bool
abbrev exP (z:ExZ):ExP:=(z.1,z.2.1,z.2.2.2.1,z.2.2.2.2)
abbrev exE (z:ExZ):List AV:=[.exact (.string (bs z.1)), .exact (.string (bs z.2.1)), .exact (.slice z.2.2.1.1 z.2.2.1.2.1 z.2.2.1.2.2), .exact (.bool z.2.2.2.2)]
theorem len_exE (z:ExZ):(exE z).length=4:=rfl
theorem oc_exE (z:ExZ):OneC (exE z):=OneC.str (OneC.str (OneC.nilS (OneC.bool OneC.nil)))
abbrev exV (pv:Value) (Z:List ExZ):Item:=vecT Tryz.prog 63 4 exE pv Z
abbrev exK (z:ExZ):Item:=vecO Tryz.prog 22 1 zav (.slice z.2.2.1.1 z.2.2.1.2.1 z.2.2.1.2.2) z.2.2.2.1
abbrev exKs (Z:List ExZ):Item:=allI (Z.map exK)
abbrev exB (w:Nat) (c:ExC) (n:Int) (pv:Value):Item:=boxI 65 w [.row 6 zbu c.1, .row 4 zbs c.2.1, .row 6 zbh c.2.2.1, .row 1 zab c.2.2.2, .exact pv, .exact (.int .i64 n)]
abbrev exI (w:Nat) (c:ExC) (n:Int) (pv:Value) (Z:List ExZ):Items:=[exB w c n pv,exV pv Z,exKs Z]
theorem Fit_app {M:BSet} {w:World}: ∀{a b:List AV} {us:List Value},Fit M w (a++b) us-> ∃u1 u2,us=u1++u2/\Fit M w a u1/\Fit M w b u2
 |[],b,us,h=>⟨[],us,rfl,trivial,h⟩
 |x::a,b,[],h=>h.elim
 |x::a,b,u::us,⟨h1,h2⟩=>by
  obtain⟨u1,u2,rfl,h3,h4⟩:=Fit_app h2
  exact⟨u::u1,u2,rfl,⟨h1,h3⟩,h4⟩
theorem ex_fit {M M':BSet} {w:World} (hMM: ∀k,k<w.heap.size->M k->M' k): ∀{Z:List ExZ} (_: ∀z∈Z, ∀k,(Value.slice z.2.2.1.1 z.2.2.1.2.1 z.2.2.1.2.2).ownBlock=some k-> ¬M k) (_: ∀z∈Z,(exK z).p M' w) {us:List Value},Fit M w (Z.flatMap exE) us->Fit M w ((Z.map exP).flatMap zas) us
 |[],_,_,_,h=>h
 |z::Z,hM,hk,us,h=>by
  rw[List.flatMap_cons]at h
  obtain⟨u1,u2,rfl,h1,h2⟩:=Fit_app h
  rw[List.map_cons,List.flatMap_cons]
  refine Fit.app ?_ (ex_fit hMM (λ y hy=>hM y (List.mem_cons_of_mem _ hy)) (λ y hy=>hk y (List.mem_cons_of_mem _ hy)) h2)
  match u1,h1 with
  |[a,b,c,d],⟨f0,f1,f2,f3,_⟩=>
   refine⟨f0,f1, ?_,f3,trivial⟩
   rw[show c=_ from f2]
   exact vecO_row (hM z List.mem_cons_self) zdf (hk z List.mem_cons_self) hMM
theorem Good.exDone {F:BSet} {b:Nat} {c:ExC} {n:Int} {pv:Value} {Z:List ExZ} {w:World} (h:Good F (exI b c n pv Z) w):
  Good F [boxI 65 b [.row 6 zbu c.1, .row 4 zbs c.2.1, .row 6 zbh c.2.2.1, .row 1 zab c.2.2.2, .row 4 zas (Z.map exP), .exact (.int .i64 n)]] w:=by
 have hown: ∀k,Items.own [boxI 65 b [.row 6 zbu c.1, .row 4 zbs c.2.1, .row 6 zbh c.2.2.1, .row 1 zab c.2.2.2, .row 4 zas (Z.map exP), .exact (.int .i64 n)]] k->k=b:=λ k hk=>by
  simpa[Items.own,boxI]using hk
 have hb:Items.own (exI b c n pv Z) b:=zch.2 (.inl (by simp[boxI]))
 have hM: ∀k,k<w.heap.size->both F (Items.own [boxI 65 b [.row 6 zbu c.1, .row 4 zbs c.2.1, .row 6 zbh c.2.2.1, .row 1 zab c.2.2.2, .row 4 zas (Z.map exP), .exact (.int .i64 n)]]) k->both F (Items.own (exI b c n pv Z)) k:=λ k _ hk=>hk.imp id (λ h=>by rw[hown k h];exact hb)
 have hnd:=h.nodup
 have hnb: ∀k,k∈(exV pv Z).own∨k∈(exKs Z).own->k≠b:=λ k hk e=>by
  subst e
  rw[List.flatMap_cons,List.nodup_append]at hnd
  refine hnd.2.2 k (by simp[boxI]) k ?_ rfl
  rw[List.flatMap_cons,List.flatMap_cons]
  rcases hk with hk|hk
  .exact List.mem_append_left _ hk
  .exact List.mem_append_right _ (List.mem_append_left _ hk)
 have hnM: ∀k,k∈(exV pv Z).own∨k∈(exKs Z).own-> ¬both F (Items.own [boxI 65 b [.row 6 zbu c.1, .row 4 zbs c.2.1, .row 6 zbh c.2.2.1, .row 1 zab c.2.2.2, .row 4 zas (Z.map exP), .exact (.int .i64 n)]]) k:=λ k hk hm=>by
  rcases hm with hF|hO
  .exact(h.own k (hk.elim (λ hk=>zch.2 (.inr (zch.2 (.inl hk)))) (λ hk=>zch.2 (.inr (zch.2 (.inr (zch.2 (.inl hk)))))))).2 hF
  .exact hnb k hk (hown k hO)
 refine⟨h.fr,λ k hk=>by rw[hown k hk];exact h.own b hb,by simp[boxI],λ it hi=> ?_⟩
 rw[List.mem_singleton]at hi
 subst hi
 obtain⟨vs,h1,hfit⟩:=h.items (exB b c n pv) List.mem_cons_self
 obtain⟨xs,h3,h4⟩:=h.items (exV pv Z) (List.mem_cons_of_mem _ List.mem_cons_self)
 have hks: ∀it∈Z.map exK,it.p _ w:=h.items (exKs Z) (List.mem_cons_of_mem _ (List.mem_cons_of_mem _ List.mem_cons_self))
 have hv:(vecT Tryz.prog 63 4 zas pv (Z.map exP)).p (both F (Items.own [boxI 65 b [.row 6 zbu c.1, .row 4 zbs c.2.1, .row 6 zbh c.2.2.1, .row 1 zab c.2.2.2, .row 4 zas (Z.map exP), .exact (.int .i64 n)]])) w:=
  ⟨xs,by rw[List.length_map];exact h3,ex_fit (λ k hlt hk=>hM k hlt hk) (λ z hz k hk=>hnM k (.inr (List.mem_flatMap.2 ⟨exK z,List.mem_map_of_mem hz,by simp[vecO,hk]⟩))) (λ z hz=>hks _ (List.mem_map_of_mem hz)) (h4.keep (Keeps.refl _ _) hM)⟩
 match vs,hfit with
 |[u0,u1,u2,u3,u4,u5],⟨f0,f1,f2,f3,f4,f5,_⟩=>
  refine⟨_,h1,AV.keep _ (Keeps.refl _ _) hM f0,AV.keep _ (Keeps.refl _ _) hM f1,AV.keep _ (Keeps.refl _ _) hM f2,AV.keep _ (Keeps.refl _ _) hM f3, ?_,f5,trivial⟩
  rw[show u4=pv from f4]
  exact vec_row (λ k hk=>hnM k (.inl (by simp[vecT,vecI,hk]))) len_c_cspcheckref21_place hv (λ k _ hk=>hk)
theorem Good.exNew {F:BSet} {b:Nat} {c:ExC} {n:Int} {pv:Value} {w:World} (h:Good F [exB b c n pv,vecT Tryz.prog 63 4 zas pv []] w):Good F (exI b c n pv []) w:=
 h.repack (.refl _) (λ M hh it hi=>by
  rcases List.mem_cons.1 hi with rfl|hi
  .exact hh _ List.mem_cons_self
  .rcases List.mem_cons.1 hi with rfl|hi
   .exact hh (vecT Tryz.prog 63 4 zas pv []) (List.mem_cons_of_mem _ List.mem_cons_self)
   .rw[List.mem_singleton]at hi
    subst hi
    exact λ it hi=>by cases hi)
end
noncomputable section
open Go.RowKit
def ExOk (b:ExB) (v:List UInt8) (way:List (List UInt8)) (r:Int×ExB):Prop:=
 ∀(w:Nat) (pv:Value) (Z:List ExZ),b.2.1=Z.map exP->Fun Tryz.prog 19 [pA w 0, .exact (.string (bs v)), .row 1 zab way] (exI w b.1 b.2.2 pv Z) (λ a σ=> ∃pv' Z',r.2.1=b.1/\r.2.2.1=Z'.map exP/\a= .exact (.int .i64 r.1)/\σ=exI w b.1 r.2.2.2 pv' Z')
theorem ex_take {way:List (List UInt8)} {v:List UInt8} {i:Nat} (hi:i<way.length):v∈way.take (i+1)↔v∈way.take i∨gi way (i:Int)=v:=by
 rw[List.take_add_one,List.getElem?_eq_getElem hi,gi_nat hi]
 simp only[Option.toList_some,List.mem_append,List.mem_singleton]
 exact or_congr Iff.rfl eq_comm
abbrev exZ0 (v:List UInt8):ExZ:=(v,[],(none,0,0),[],false)
theorem ex_add {af:AF} {w:Nat} {c:ExC} {n:Int} {pv:Value} {Z:List ExZ} {v:List UInt8} {bx pl:Item}:SubU af [bx,pl,exKs Z] af [bx,pl,exKs (Z++[exZ0 v])]:=by
 refine SubU.trans SubU.f2 (SubU.trans (SubU.addNil (f:=exK) (x:=exZ0 v) rfl (λ M w=> ?_)) (SubU.trans SubU.f2 SubU.f2))
 exact⟨[],⟨rfl, .inl ⟨rfl,rfl⟩⟩,trivial⟩
theorem gi_map {α β:Type} [Inhabited α] [Inhabited β] {f:α->β} {l:List α} {i:Int} (h0:0≤i) (h1:i<(l.length:Int)):gi (l.map f) i=f (gi l i):=by
 obtain⟨k,rfl⟩: ∃k:Nat,i=(k:Int):=⟨i.toNat,by omega⟩
 rw[gi_nat (by rw[List.length_map];omega),gi_nat (by omega),List.getElem_map]
theorem drop_gi {α:Type} [Inhabited α] {l:List α} {i:Nat} (h:i<l.length):l.drop i=gi l (i:Int)::l.drop (i+1):=by
 rw[gi_nat h];exact List.drop_eq_getElem_cons h
theorem SubU.takeG {α:Type} [Inhabited α] {af:AF} {σ:Items} {f:α->Item} {l:List α} {i:Int} (h0:0≤i) (h1:i<(l.length:Int)):SubU af (allI (l.map f)::σ) af (f (gi l i)::allI ((l.eraseIdx i.toNat).map f)::σ):=by
 obtain⟨k,rfl⟩: ∃k:Nat,i=(k:Int):=⟨i.toNat,by omega⟩
 rw[gi_nat (by omega),Int.toNat_natCast];exact SubU.take (by omega)
theorem SubU.putG {α:Type} {af:AF} {σ:Items} {f:α->Item} {l:List α} {i:Int} {x:α} (h0:0≤i) (h1:i<(l.length:Int)):SubU af (f x::allI ((l.eraseIdx i.toNat).map f)::σ) af (allI ((l.set i.toNat x).map f)::σ):=SubU.put (by omega)
theorem exKid_map {Z:List ExZ} {a:Nat} {k:Int} {z:ExZ} (ha:a<Z.length) (hz:exP z=((gi Z (a:Int)).1,(gi Z (a:Int)).2.1,(gi Z (a:Int)).2.2.2.1++[k],(gi Z (a:Int)).2.2.2.2)):exKid a k (Z.map exP)=(Z.set ((a:Int)).toNat z).map exP:=by
 unfold exKid;rw[gi_map (by omega) (by omega),List.map_set,Int.toNat_natCast,hz]
theorem exSt_map {Z:List ExZ} {a:Nat} {k:Int} {z:ExZ} (ha:a<Z.length) (hk:0≤k/\k<(Z.length:Int)) (hz:exP z=((gi Z (a:Int)).1,(gi Z (a:Int)).2.1,(gi Z (a:Int)).2.2.2.1,if(gi Z (a:Int)).2.2.2.2=true then true else(gi Z k).2.2.2.2)):exSt a k (Z.map exP)=(Z.set ((a:Int)).toNat z).map exP:=by
 unfold exSt;rw[gi_map (by omega) (by omega),gi_map hk.1 hk.2,List.map_set,Int.toNat_natCast,hz]
theorem exKs_set {Z:List ExZ} {a:Nat} {z:ExZ} (ha:a<Z.length) (h:exK z=exK (gi Z (a:Int))):exKs (Z.set ((a:Int)).toNat z)=exKs Z:=by
 unfold exKs;rw[List.map_set,h,Int.toNat_natCast,gi_nat ha]
 congr 1
 rw[←List.getElem_map (l:=Z) exK (h:=by rw[List.length_map];exact ha)]
 exact List.set_getElem_self _
theorem ex_gi {Z:List ExZ} {z:ExZ}:gi (Z++[z]) (Z.length:Int)=z:=by
 rw[gi_nat (by rw[List.length_append,List.length_singleton];omega),List.getElem_append_right (Nat.le_refl _)]
 simp
theorem ex_set {Z:List ExZ} {y z:ExZ}:(Z++[y]).set ((Z.length:Int)).toNat z=Z++[z]:=by
 rw[Int.toNat_natCast,List.set_append_right _ _ (Nat.le_refl _),Nat.sub_self];rfl
theorem ex_ks {Z:List ExZ} {y z:ExZ} (h:exK y=exK z):exKs (Z++[y])=exKs (Z++[z]):=by
 unfold exKs;rw[List.map_append,List.map_append];simp only[List.map_cons,List.map_nil,h]
attribute [local irreducible] AV.exact AV.top AV.row AV.ptr AV.agg AV.tup AV.eptr AV.fn AV.nilq AV.nilqn AV.eptrO opA opB opM opR Quiet Loud Reads wpG awp den Sub SubU Pure Fun vecI vecT vecO vecA boxI CellsAll CellsOf OneC LEs LEss FU allI
set_option maxRecDepth 100000
section
variable {P:Program} {E:Env} {n:Nat} {af:AF} {σ:Items} {ks:List KFr}
theorem k_cut {c d:Code} (J:AF) (σ':Items) (h2:awp P E n d (den P E n ks) J σ') (h1:awp P E n d (den P E n ks) J σ'->awp P E n (.seq c d) (den P E n ks) af σ):awp P E n (.seq c d) (den P E n ks) af σ:=h1 h2
end
set_option maxHeartbeats 8000000 in
theorem m_exam_F_ok (self:ExB->List UInt8->List (List UInt8)->Option (Int×ExB)) (hself: ∀b v way r,self b v way=some r->ExOk b v way r) (b:ExB) (v:List UInt8) (way:List (List UInt8)) (r:Int×ExB)
  (h:m_exam_F zeo m_ref18_Head zfh zfk zdd self b v way=some r):ExOk b v way r:=by
 intro w pv Z hZ
 unfold m_exam_F at h
 obtain⟨⟨hw,hp⟩,h⟩:=zad h
 obtain⟨o,ho,h⟩:=zae h
 have hZl:b.2.1.length=Z.length:=by rw[hZ,List.length_map]
 refine zam func19 rfl ntmps19 (by simp) rfl (res1 rfl) λ E hE=>zca ?_
 refine zan ?_
 refine k_reg .free hmixP (by kernel_rfl) ?_
 refine ra ?_
 refine zan ?_
 refine k_reg .free hmixP (by kernel_rfl) ?_
 refine ra ?_
 refine zan ?_
 refine k_reg .free hmixP (by kernel_rfl) ?_
 refine ra ?_
 refine G_q rfl (zft (c':=exE (exZ0 v)) (CellsAll.cons rfl CellsOf.str CellsAll.nil) rfl (LEs.cons (AV.le_eq rfl) (LEs.cons (AV.le_eq rfl) (LEs.cons (AV.le_eq rfl) (LEs.cons (AV.le_eq rfl) LEs.nil)))) ?_)
 refine G_q rfl (zcd (n:=4) (enc:=exE) [exZ0 v] (CellsAll.cons rfl CellsOf.agg CellsAll.nil) rfl (by kernel_rfl) (LEss.cons (LEs.cons (AV.le_eq rfl) (LEs.cons (AV.le_eq rfl) (LEs.cons (AV.le_eq rfl) (LEs.cons (AV.le_eq rfl) LEs.nil)))) LEss.nil) ?_)
 refine G_l rfl (opB_f1 (zcu (by kernel_rfl) rfl rfl oc_exE (by rw[←hZl,List.length_singleton];show _≤137438953472;omega) (λ pv1=> ?_)))
 refine ra ?_
 refine G_l rfl (opB_sl (List.Mem.head _) (λ hsl=>opB_f1 (zbz (c':=[.exact pv1]) (c3:=[.row 6 zbu b.1.1, .row 4 zbs b.1.2.1, .row 6 zbh b.1.2.2.1, .row 1 zab b.1.2.2.2, .exact pv1, .exact (.int .i64 b.2.2)]) rfl rfl (CellsOf.sl hsl) (LEs.cons (AV.le_eq rfl) LEs.nil) (OneC.sl hsl OneC.nil) (by kernel_rfl) (Nat.le_of_ble_eq_true rfl) rfl ?_)))
 refine ra ?_
 refine awp_sub (SubU.to (ex_add (v:=v) (w:=w) (c:=b.1) (n:=b.2.2) (pv:=pv))) ?_
 refine zan ?_
 refine k_reg .free hmixP (by kernel_rfl) ?_
 refine ra ?_
 refine zan ?_
 refine zan ?_
 refine k_reg .free hmixP (by kernel_rfl) ?_
 refine ra ?_
 refine zaq ?_
 refine k_loop (α:=Nat) (λ i=>AF.put (AF.put (AF.put (AF.put (AF.put (AF.put AF0 (some 0) (pA w 0)) (some 1) (.exact (.string (bs v)))) (some 2) (.row 1 zab way)) (some 7) (.exact (.int .i64 (Z.length:Int)))) (some 8) (.exact (.bool (decide (v∈way.take i))))) (some 9) (.exact (.int .i64 (i:Int)))) (λ _=>exI w b.1 b.2.2 pv1 (Z++[exZ0 v])) (λ i=>i≤way.length) (λ i=>way.length - i) 0 (Nat.zero_le _) ?_ (λ i hi=> ?_)
 .exact SubU.to (SubU.of_le (AF.le_put (AV.le_eq rfl) (AF.le_put (AV.le_eq (congrArg (λ t=>AV.exact (.bool t)) (show false=decide (v∈way.take 0)by simp))) (AF.le_put (AV.le_eq rfl) (AF.le_put (AV.le_eq rfl) (AF.le_put (AV.le_eq rfl) (AF.le_put (AV.le_eq rfl) (AF.le_top _))))))))
 .replace hi:i≤way.length:=hi
  refine zan ?_
  refine zan ?_
  refine k_reg .free hmixP (by kernel_rfl) ?_
  refine ra ?_
  refine k_cond_d (p:=(i:Int)<(way.length:Int)) rfl (λ hc=> ?_) (λ hc=> ?_)
  .have hix:(0:Int)≤(i:Int)/\(i:Int)<(way.length:Int):=⟨by omega,hc⟩
   have hi1:i64 ((i:Int)+1)=((i+1:Nat):Int):=i64_id (by omega)
   have htk:v∈way.take (i+1)↔v∈way.take i∨gi way (i:Int)=v:=ex_take (by omega)
   refine zap ?_
   refine zaf ?_
   refine zan ?_
   refine zaq ?_
   refine k_reg .free hmixP (by kernel_rfl) ?_
   refine ra ?_
   refine zcc (p:=v∈way.take i) 38 rfl (λ hm=> ?_) (λ hm=> ?_)
   .refine ra ?_
    refine k_reg .free hmixP (by kernel_rfl) ?_
    refine ra ?_
    refine zaa ⟨i+1,by omega,by show _ - (i+1)<_ - i;omega, ?_⟩
    exact SubU.to (SubU.of_le (AF.le_put (AV.le_eq (congrArg (λ t=>AV.exact (.int .i64 t)) hi1)) (AF.le_put (AV.le_eq (congrArg (λ t=>AV.exact (.bool t)) (decide_eq_true (htk.2 (.inl hm))).symm)) (AF.le_put (AV.le_eq rfl) (AF.le_put (AV.le_eq rfl) (AF.le_put (AV.le_eq rfl) (AF.le_put (AV.le_eq rfl) (AF.le_top _))))))))
   .refine ra ?_
    refine k_reg .free hmixP (by kernel_rfl) ?_
    refine ra ?_
    refine zaa ⟨i+1,by omega,by show _ - (i+1)<_ - i;omega, ?_⟩
    exact SubU.to (SubU.of_le (AF.le_put (AV.le_eq (congrArg (λ t=>AV.exact (.int .i64 t)) hi1)) (AF.le_put (AV.le_eq (congrArg (λ t=>AV.exact (.bool t)) (decide_eq_decide.2 (show gi way (i:Int)=v↔v∈way.take (i+1)by rw[htk];exact⟨.inr,λ h=>h.resolve_left hm⟩)))) (AF.le_put (AV.le_eq rfl) (AF.le_put (AV.le_eq rfl) (AF.le_put (AV.le_eq rfl) (AF.le_put (AV.le_eq rfl) (AF.le_top _))))))))
  .have hie:i=way.length:=by omega
   subst hie
   rw[List.take_length]
   refine zbr ?_
   refine zbi ?_
   refine zbk ?_
   refine zbj ?_
   refine zaf ?_
   refine zan ?_
   refine k_cut (AF.put (AF.put (AF.put (AF.put (AF.put AF0 (some 0) (pA w 0)) (some 1) (.exact (.string (bs v)))) (some 2) (.row 1 zab way)) (some 7) (.exact (.int .i64 (Z.length:Int)))) (some 63) (.exact (.bool (decide ((o=5/\v∈way)∨(32:Int)≤(way.length:Int)∨64≤b.2.2))))) (exI w b.1 b.2.2 pv1 (Z++[exZ0 v])) ?_ (λ hk=> ?_)
   .refine k_cond_d (p:=(o=5/\v∈way)∨(32:Int)≤(way.length:Int)∨64≤b.2.2) rfl (λ hc=> ?_) (λ hc=> ?_)
    .rw[if_pos hc]at h
     cases h
     refine zan ?_
     refine k_reg .free hmixP (by kernel_rfl) ?_
     refine ra ?_
     refine zbn ?_
     refine zdb ?_
     refine kP_any (endN (af':=AF.put AF0 (some 6) (.exact (.int .i64 (Z.length:Int)))) (σ':=exI w b.1 b.2.2 pv1 (Z++[exZ0 v])) _ rfl (Sub.of_le (AF.le_put (AV.le_eq rfl) (AF.le_top _))) ?_)
     exact⟨pv1,Z++[exZ0 v],rfl,by rw[List.map_append, ←hZ];rfl,by show AV.exact (.int .i64 (Z.length:Int))=AV.exact (.int .i64 (b.2.1.length:Int));rw[hZl],rfl⟩
    .rw[if_neg hc]at h
     obtain⟨hd,hhd,h⟩:=zae h
     refine zap ?_
     refine zaf ?_
     refine zan ?_
     refine k_reg .free hmixP (by kernel_rfl) ?_
     refine ra ?_
     refine G_l rfl (zbz (c':=[.exact (.int .i64 (i64 (b.2.2+1)))]) (c3:=[.row 6 zbu b.1.1, .row 4 zbs b.1.2.1, .row 6 zbh b.1.2.2.1, .row 1 zab b.1.2.2.2, .exact pv1, .exact (.int .i64 (i64 (b.2.2+1)))]) rfl rfl CellsOf.int (LEs.cons (AV.le_eq rfl) LEs.nil) (OneC.int OneC.nil) (by kernel_rfl) (Nat.le_of_ble_eq_true rfl) rfl ?_)
     refine ra ?_
     refine zan ?_
     refine k_reg .free hmixP (by kernel_rfl) ?_
     refine ra ?_
     refine G_r rfl (zei (c':=[.row 6 zbu b.1.1, .row 4 zbs b.1.2.1, .row 6 zbh b.1.2.2.1, .row 1 zab b.1.2.2.2]) (by kernel_rfl) rfl rfl rfl ?_)
     refine ra ?_
     refine G_q rfl (zal (m_ref18_Head_ok b.1 v hd hhd) func46 (by kernel_rfl) (LEs.cons (AV.le_eq rfl) (LEs.cons (AV.le_eq rfl) LEs.nil)) ?_)
     refine G_q rfl (zah (av:= .tup [.exact (.string (bs hd.1)), .exact (.int .i64 hd.2)]) rfl ?_)
     refine ra ?_
     by_cases he:hd.2=0
     .rw[if_neg (Decidable.not_not.2 he)]at h
      obtain⟨o2,ho2,h⟩:=zae h
      obtain⟨s,hs,h⟩:=zae h
      refine zan ?_
      refine zan ?_
      refine k_reg .free hmixP (by kernel_rfl) ?_
      refine ra ?_
      refine zcc (p:= ¬hd.2=0) 83 rfl (λ h1=>absurd he h1) (λ _=> ?_)
      refine ra ?_
      refine Gy_q rfl rfl rfl (zal (zdm hd.1 o2 ho2) func45 (by kernel_rfl) (LEs.cons (AV.le_eq rfl) LEs.nil) ?_)
      refine Gy_q rfl rfl rfl (zal (m_ref21_Structural_ok o2 s hs) func47 (by kernel_rfl) (LEs.cons (AV.le_eq rfl) LEs.nil) ?_)
      refine ra ?_
      cases s with
      |false=>
       rw[if_pos (by simp)]at h
       cases h
       refine k_cond_t rfl ?_
       refine zan ?_
       refine k_reg .free hmixP (by kernel_rfl) ?_
       refine ra ?_
       refine zbn ?_
       refine zdb ?_
       refine kP_any (endN (af':=AF.put AF0 (some 6) (.exact (.int .i64 (Z.length:Int)))) (σ':=exI w b.1 (i64 (b.2.2+1)) pv1 (Z++[exZ0 v])) _ rfl (Sub.of_le (AF.le_put (AV.le_eq rfl) (AF.le_top _))) ?_)
       exact⟨pv1,Z++[exZ0 v],rfl,by rw[List.map_append, ←hZ];rfl,by show AV.exact (.int .i64 (Z.length:Int))=AV.exact (.int .i64 (b.2.1.length:Int));rw[hZl],rfl⟩
      |true=>
       rw[if_neg (by simp)]at h
       obtain⟨p,hp2,h⟩:=zae h
       obtain⟨os,hos,h⟩:=zae h
       obtain⟨hol,h⟩:=zad h
       obtain⟨b',hb',h⟩:=zae h
       cases h
       refine k_cond_f rfl ?_
       refine zap ?_
       refine zaf ?_
       have hgi:gi (Z++[exZ0 v]) (Z.length:Int)=exZ0 v:=ex_gi
       have hzi:(0:Int)≤(Z.length:Int)/\(Z.length:Int)<((Z++[exZ0 v]).length:Int):=⟨by omega,by rw[List.length_append,List.length_singleton];omega⟩
       refine zan ?_
       refine k_reg .free hmixP (by kernel_rfl) ?_
       refine ra ?_
       refine G_q rfl (zem (o:=1) (by kernel_rfl) rfl ?_)
       refine G_l rfl (opB_f1 (zcm (i:=(Z.length:Int)) (o:=1) (z:=(v,hd.1,(none,0,0),[],false)) (c':=[.exact (.string (bs hd.1))]) (by kernel_rfl) len_exE rfl hzi.1 hzi.2 rfl CellsOf.str (LEs.cons (AV.le_eq rfl) LEs.nil) (OneC.str OneC.nil) (by kernel_rfl) (Nat.le_of_ble_eq_true rfl) (by rw[hgi];rfl) ?_))
       refine ra ?_
       rw[ex_set,show exKs (Z++[exZ0 v])=exKs (Z++[(v,hd.1,(none,0,0),[],p)])from ex_ks rfl]
       have hgi2:gi (Z++[((v,hd.1,(none,0,0),[],false):ExZ)]) (Z.length:Int)=(v,hd.1,(none,0,0),[],false):=ex_gi
       have hzi2:(0:Int)≤(Z.length:Int)/\(Z.length:Int)<((Z++[((v,hd.1,(none,0,0),[],false):ExZ)]).length:Int):=⟨by omega,by rw[List.length_append,List.length_singleton];omega⟩
       refine zan ?_
       refine zck [] [(0,0),(0,1),(0,2),(1,3),(0,4),(0,5),(0,6),(0,7),(1,8),(0,9),(2,10)] hmixP (by kernel_rfl) ?_
       refine ra ?_
       refine P_q no34_0 rfl (zal (zdm hd.1 o2 ho2) func45 (by kernel_rfl) (LEs.cons (AV.le_eq rfl) LEs.nil) ?_)
       refine P_q no34_0 rfl (zal (m_ref21_Parallel_ok o2 p hp2) func48 (by kernel_rfl) (LEs.cons (AV.le_eq rfl) LEs.nil) ?_)
       refine ra ?_
       refine P_q no34_0 rfl (zem (o:=3) (by kernel_rfl) rfl ?_)
       refine P_l rfl (zcm (i:=(Z.length:Int)) (o:=3) (z:=(v,hd.1,(none,0,0),[],p)) (c':=[.exact (.bool p)]) (by kernel_rfl) len_exE rfl hzi2.1 hzi2.2 rfl CellsOf.bool (LEs.cons (AV.le_eq rfl) LEs.nil) (OneC.bool OneC.nil) (by kernel_rfl) (Nat.le_of_ble_eq_true rfl) (by rw[hgi2];rfl) ?_)
       refine ra ?_
       rw[ex_set]
       refine zan ?_
       refine k_reg .free hmixP (by kernel_rfl) ?_
       refine ra ?_
       refine G_q rfl (zal (zfb hd.1 os hos) func49 (by kernel_rfl) (LEs.cons (AV.le_eq rfl) LEs.nil) ?_)
       refine ra ?_
       refine zan ?_
       refine zan ?_
       refine k_reg .free hmixP (by kernel_rfl) ?_
       refine ra ?_
       refine zaq ?_
       refine k_loop (α:=Nat×Value×List ExZ×Int) (λ x=>AF.put (AF.put (AF.put (AF.put (AF.put (AF.put AF0 (some 0) (pA w 0)) (some 1) (.exact (.string (bs v)))) (some 2) (.row 1 zab way)) (some 7) (.exact (.int .i64 (Z.length:Int)))) (some 12) (.row 1 zab os)) (some 13) (.exact (.int .i64 (x.1:Int)))) (λ x=>exI w b.1 x.2.2.2 x.2.1 x.2.2.1) (λ x=>x.1≤os.length/\exKids self v way b.2.1.length (os.drop x.1) (b.1,x.2.2.1.map exP,x.2.2.2)=some b') (λ x=>os.length - x.1) (0,pv1,Z++[(v,hd.1,(none,0,0),[],p)],i64 (b.2.2+1)) ⟨Nat.zero_le _,by show exKids _ _ _ _ os (_,List.map _ _,_)=_;rw[List.map_append, ←hZ];exact hb'⟩ ?_ (λ x hx=> ?_)
       .exact SubU.to (SubU.trans SubU.f1 (SubU.of_le (AF.le_put (AV.le_eq rfl) (AF.le_put (AV.le_eq rfl) (AF.le_put (AV.le_eq rfl) (AF.le_put (AV.le_eq rfl) (AF.le_put (AV.le_eq rfl) (AF.le_put (AV.le_eq rfl) (AF.le_top _)))))))))
       .obtain⟨i,pv2,Z2,n2⟩:=x
        obtain⟨hi2,hk⟩:=hx
        replace hi2:i≤os.length:=hi2
        replace hk:exKids self v way b.2.1.length (os.drop i) (b.1,Z2.map exP,n2)=some b':=hk
        refine zan ?_
        refine zan ?_
        refine k_reg .free hmixP (by kernel_rfl) ?_
        refine ra ?_
        refine k_cond_d (p:=(i:Int)<(os.length:Int)) rfl (λ hc2=> ?_) (λ hc2=> ?_)
        .have hix:(0:Int)≤(i:Int)/\(i:Int)<(os.length:Int):=⟨by omega,hc2⟩
         have hi1:i64 ((i:Int)+1)=((i+1:Nat):Int):=i64_id (by omega)
         rw[drop_gi (by omega)]at hk
         unfold exKids at hk
         obtain⟨r1,hr1,hk⟩:=zae hk
         obtain⟨⟨n1,n2',n3,n4⟩,hk⟩:=zad hk
         refine zap ?_
         refine zaf ?_
         refine zan ?_
         refine zaq ?_
         refine zan ?_
         refine zck [] [(0,0),(0,1),(0,2),(0,3),(0,4),(0,5),(0,7),(0,8),(2,6),(2,9),(2,10),(0,11)] hmixP (by kernel_rfl) ?_
         refine ra ?_
         refine P_q no34_0 rfl (zcd (n:=1) (enc:=zab) [v] (CellsAll.cons rfl CellsOf.str CellsAll.nil) rfl (by kernel_rfl) (LEss.cons (LEs.cons (AV.le_eq rfl) LEs.nil) LEss.nil) ?_)
         refine P_l rfl (op_appN (enc:=zab) (by kernel_rfl) rfl rfl zco (by show _≤137438953472;omega) (λ v1=> ?_))
         refine P_l rfl (opB_frz (d:=125) rfl zbt (zcu (by kernel_rfl) rfl rfl zco (by rw[List.length_singleton];show _≤137438953472;omega) (λ v2=>⟨v2,_,_,rfl,rfl, ?_⟩)))
         refine P_l rfl (op_fun (hself _ _ _ _ hr1 w pv2 Z2 rfl) func19 (by kernel_rfl) (LEs.cons (AV.le_eq rfl) (LEs.cons (AV.le_eq rfl) (LEs.cons (AV.le_eq rfl) LEs.nil))) (λ av σ' hpost=> ?_))
         obtain⟨pv3,Z3,e1,e2,rfl,rfl⟩:=hpost
         refine ra ?_
         rw[e2,List.length_map]at n2' n3
         rw[e2,hZl,gi_map (by omega) (by omega)]at n4
         replace n4:(gi Z3 (Z.length:Int)).2.2.2.1.length<137438953472:=n4
         rw[hZl]at n3
         rw[e1,e2,hZl]at hk
         have hza:(0:Int)≤(Z.length:Int)/\(Z.length:Int)<(Z3.length:Int):=⟨by omega,by omega⟩
         refine awp_sub (SubU.to (SubU.trans SubU.f2 (SubU.trans (SubU.takeG (f:=exK) hza.1 hza.2) (SubU.trans SubU.f3 SubU.f3)))) ?_
         refine zan ?_
         refine zck [exB w b.1 r1.2.2.2 pv3] [(0,0),(0,1),(0,2),(4,3),(0,4),(0,5),(0,6),(0,7),(1,8),(0,9),(1,10),(0,11),(1,12),(0,13),(0,14),(3,15),(1,16),(0,17),(2,18)] hmixP (by kernel_rfl) ?_
         refine ra ?_
         refine P_r4 (Has.cons (List.Mem.head _) Has.mk0) rfl (opI_mk (List.Mem.head _) (λ _=>zaz (a:= .exact pv3) (by kernel_rfl) rfl rfl rfl) ?_)
         refine ra ?_
         refine P_q no34_0 rfl (zem (o:=2) (by kernel_rfl) rfl ?_)
         refine P_r rfl (opR_f1 (zcs (i:=(Z.length:Int)) (o:=2) (a:= .exact (.slice (gi Z3 (Z.length:Int)).2.2.1.1 (gi Z3 (Z.length:Int)).2.2.1.2.1 (gi Z3 (Z.length:Int)).2.2.1.2.2)) (by kernel_rfl) len_exE rfl hza.1 hza.2 rfl ?_))
         refine ra ?_
         refine P_q no34_0 rfl (zcd (n:=1) (enc:=zav) [r1.1] (CellsAll.cons rfl CellsOf.int CellsAll.nil) rfl (by kernel_rfl) (LEss.cons (LEs.cons (AV.le_eq rfl) LEs.nil) LEss.nil) ?_)
         refine P_l3 rfl (opB_f2 (op_appO (by kernel_rfl) rfl rfl oc_c_int (by rw[List.length_singleton];show _≤137438953472;omega) (λ v'=>⟨Has.cons (List.Mem.tail _ (List.Mem.head _)) Has.mk0, ?_⟩)))
         refine P_r rfl (opR_f2 (zbl (by kernel_rfl) rfl rfl hza.1 hza.2 ?_))
         refine P_q no34_0 rfl (zem (o:=2) (by kernel_rfl) rfl ?_)
         refine P_l rfl (opB_slOx (List.Mem.head _) (λ hsl=> ?_))
         obtain⟨A',l',cp,rfl⟩:=hsl
         refine opB_f2 (zcm (i:=(Z.length:Int)) (o:=2) (z:=((gi Z3 (Z.length:Int)).1,(gi Z3 (Z.length:Int)).2.1,(A',l',cp),(gi Z3 (Z.length:Int)).2.2.2.1++[r1.1],(gi Z3 (Z.length:Int)).2.2.2.2)) (c':=[.exact (.slice A' l' cp)]) (by kernel_rfl) len_exE rfl hza.1 hza.2 rfl (CellsOf.sl ⟨_,_,_,rfl⟩) (LEs.cons (AV.le_eq rfl) LEs.nil) (OneC.sl ⟨_,_,_,rfl⟩ OneC.nil) (by kernel_rfl) (Nat.le_of_ble_eq_true rfl) rfl ?_)
         refine ra ?_
         refine awp_sub (SubU.to (SubU.trans SubU.f3 (SubU.trans SubU.f2 (SubU.trans (SubU.putG (f:=exK) (x:=((gi Z3 (Z.length:Int)).1,(gi Z3 (Z.length:Int)).2.1,(A',l',cp),(gi Z3 (Z.length:Int)).2.2.2.1++[r1.1],(gi Z3 (Z.length:Int)).2.2.2.2)) hza.1 hza.2) (SubU.trans SubU.f1 SubU.f2))))) ?_
         rw[exKid_map n3 (z:=((gi Z3 (Z.length:Int)).1,(gi Z3 (Z.length:Int)).2.1,(A',l',cp),(gi Z3 (Z.length:Int)).2.2.2.1++[r1.1],(gi Z3 (Z.length:Int)).2.2.2.2)) rfl]at hk
         have hl4:(Z3.set ((Z.length:Int)).toNat ((gi Z3 (Z.length:Int)).1,(gi Z3 (Z.length:Int)).2.1,(A',l',cp),(gi Z3 (Z.length:Int)).2.2.2.1++[r1.1],(gi Z3 (Z.length:Int)).2.2.2.2)).length=Z3.length:=List.length_set
         generalize Z3.set ((Z.length:Int)).toNat ((gi Z3 (Z.length:Int)).1,(gi Z3 (Z.length:Int)).2.1,(A',l',cp),(gi Z3 (Z.length:Int)).2.2.2.1++[r1.1],(gi Z3 (Z.length:Int)).2.2.2.2)=Z4 at hk hl4⊢
         have hn4:Z.length<Z4.length:=by omega
         have hz4:(0:Int)≤(Z.length:Int)/\(Z.length:Int)<(Z4.length:Int):=⟨by omega,by omega⟩
         have hzk4:(0:Int)≤r1.1/\r1.1<(Z4.length:Int):=⟨n1,by omega⟩
         refine zck [] [(0,0),(0,1),(0,2),(1,3),(0,4),(0,5),(0,6),(0,7),(1,8),(0,9),(1,10),(0,11),(1,12),(0,13),(0,14),(0,15),(0,16),(1,17),(0,18),(1,19),(0,20),(1,21),(0,22),(1,23),(0,24),(2,25)] hmixP (by kernel_rfl) ?_
         refine ra ?_
         refine P_q no34_0 rfl (zem (o:=3) (by kernel_rfl) rfl ?_)
         refine P_r rfl (opR_f1 (zcs (i:=(Z.length:Int)) (o:=3) (a:= .exact (.bool (gi Z4 (Z.length:Int)).2.2.2.2)) (by kernel_rfl) len_exE rfl hz4.1 hz4.2 rfl ?_))
         refine ra ?_
         refine P_splitB (c:=(gi Z4 (Z.length:Int)).2.2.2.2) 158 rfl (λ hb=> ?_) (λ hb=> ?_)
         .refine ra ?_
          refine P_q no34_0 rfl (zem (o:=3) (by kernel_rfl) rfl ?_)
          refine P_l rfl (opB_f1 (zcm (i:=(Z.length:Int)) (o:=3) (z:=((gi Z4 (Z.length:Int)).1,(gi Z4 (Z.length:Int)).2.1,(gi Z4 (Z.length:Int)).2.2.1,(gi Z4 (Z.length:Int)).2.2.2.1,true)) (c':=[.exact (.bool true)]) (by kernel_rfl) len_exE rfl hz4.1 hz4.2 rfl CellsOf.bool (LEs.cons (AV.le_eq rfl) LEs.nil) (OneC.bool OneC.nil) (by kernel_rfl) (Nat.le_of_ble_eq_true rfl) rfl ?_))
          refine ra ?_
          refine k_reg .free hmixP (by kernel_rfl) ?_
          refine ra ?_
          refine zaa ⟨(i+1,pv3,Z4.set (Z.length:Int).toNat ((gi Z4 (Z.length:Int)).1,(gi Z4 (Z.length:Int)).2.1,(gi Z4 (Z.length:Int)).2.2.1,(gi Z4 (Z.length:Int)).2.2.2.1,true),r1.2.2.2),⟨by omega, ?_⟩,by show _ - (i+1)<_ - i;omega, ?_⟩
          .show exKids _ _ _ _ _ (_,List.map _ _,_)=_
           rw[hZl, ←exSt_map (k:=r1.1) hn4 hzk4 (by rw[if_pos hb])]
           exact hk
          .show Sub _ _ _ _ _ [exB _ _ _ _,exV _ _,exKs _]
           rw[exKs_set (z:=((gi Z4 (Z.length:Int)).1,(gi Z4 (Z.length:Int)).2.1,(gi Z4 (Z.length:Int)).2.2.1,(gi Z4 (Z.length:Int)).2.2.2.1,true)) hn4 rfl]
           exact SubU.to (SubU.trans SubU.f1 (SubU.of_le (AF.le_put (AV.le_eq (congrArg (λ t=>AV.exact (.int .i64 t)) hi1)) (AF.le_put (AV.le_eq rfl) (AF.le_put (AV.le_eq rfl) (AF.le_put (AV.le_eq rfl) (AF.le_put (AV.le_eq rfl) (AF.le_put (AV.le_eq rfl) (AF.le_top _)))))))))
         .refine ra ?_
          refine Py_q no34_0 rfl rfl rfl (zem (o:=3) (by kernel_rfl) rfl ?_)
          refine Py_r rfl rfl rfl (opR_f1 (zcs (i:=r1.1) (o:=3) (a:= .exact (.bool (gi Z4 r1.1).2.2.2.2)) (by kernel_rfl) len_exE rfl hzk4.1 hzk4.2 rfl ?_))
          refine ra ?_
          refine P_q no34_0 rfl (zem (o:=3) (by kernel_rfl) rfl ?_)
          refine P_l rfl (opB_f1 (zcm (i:=(Z.length:Int)) (o:=3) (z:=((gi Z4 (Z.length:Int)).1,(gi Z4 (Z.length:Int)).2.1,(gi Z4 (Z.length:Int)).2.2.1,(gi Z4 (Z.length:Int)).2.2.2.1,(gi Z4 r1.1).2.2.2.2)) (c':=[.exact (.bool (gi Z4 r1.1).2.2.2.2)]) (by kernel_rfl) len_exE rfl hz4.1 hz4.2 rfl CellsOf.bool (LEs.cons (AV.le_eq rfl) LEs.nil) (OneC.bool OneC.nil) (by kernel_rfl) (Nat.le_of_ble_eq_true rfl) rfl ?_))
          refine ra ?_
          refine k_reg .free hmixP (by kernel_rfl) ?_
          refine ra ?_
          refine zaa ⟨(i+1,pv3,Z4.set (Z.length:Int).toNat ((gi Z4 (Z.length:Int)).1,(gi Z4 (Z.length:Int)).2.1,(gi Z4 (Z.length:Int)).2.2.1,(gi Z4 (Z.length:Int)).2.2.2.1,(gi Z4 r1.1).2.2.2.2),r1.2.2.2),⟨by omega, ?_⟩,by show _ - (i+1)<_ - i;omega, ?_⟩
          .show exKids _ _ _ _ _ (_,List.map _ _,_)=_
           rw[hZl, ←exSt_map (k:=r1.1) hn4 hzk4 (by rw[if_neg hb])]
           exact hk
          .show Sub _ _ _ _ _ [exB _ _ _ _,exV _ _,exKs _]
           rw[exKs_set (z:=((gi Z4 (Z.length:Int)).1,(gi Z4 (Z.length:Int)).2.1,(gi Z4 (Z.length:Int)).2.2.1,(gi Z4 (Z.length:Int)).2.2.2.1,(gi Z4 r1.1).2.2.2.2)) hn4 rfl]
           exact SubU.to (SubU.trans SubU.f1 (SubU.of_le (AF.le_put (AV.le_eq (congrArg (λ t=>AV.exact (.int .i64 t)) hi1)) (AF.le_put (AV.le_eq rfl) (AF.le_put (AV.le_eq rfl) (AF.le_put (AV.le_eq rfl) (AF.le_put (AV.le_eq rfl) (AF.le_put (AV.le_eq rfl) (AF.le_top _)))))))))
        .have hie:i=os.length:=by omega
         subst hie
         rw[List.drop_length]at hk
         unfold exKids at hk
         cases hk
         refine zbr ?_
         refine zbi ?_
         refine zbk ?_
         refine zbj ?_
         refine zaf ?_
         refine zan ?_
         refine k_reg .free hmixP (by kernel_rfl) ?_
         refine ra ?_
         refine zbn ?_
         refine kP_any (endN (af':=AF.put AF0 (some 6) (.exact (.int .i64 (Z.length:Int)))) (σ':=exI w b.1 n2 pv2 Z2) _ rfl (Sub.of_le (AF.le_put (AV.le_eq rfl) (AF.le_top _))) ?_)
         exact⟨pv2,Z2,rfl,rfl,by show AV.exact (.int .i64 (Z.length:Int))=AV.exact (.int .i64 (b.2.1.length:Int));rw[hZl],rfl⟩
     .rw[if_pos he]at h
      cases h
      refine zan ?_
      refine zan ?_
      refine k_reg .free hmixP (by kernel_rfl) ?_
      refine ra ?_
      refine zcc (p:= ¬hd.2=0) 83 rfl (λ _=> ?_) (λ h1=>absurd he h1)
      refine ra ?_
      refine k_cond_t rfl ?_
      refine zan ?_
      refine k_reg .free hmixP (by kernel_rfl) ?_
      refine ra ?_
      refine zbn ?_
      refine zdb ?_
      refine kP_any (endN (af':=AF.put AF0 (some 6) (.exact (.int .i64 (Z.length:Int)))) (σ':=exI w b.1 (i64 (b.2.2+1)) pv1 (Z++[exZ0 v])) _ rfl (Sub.of_le (AF.le_put (AV.le_eq rfl) (AF.le_top _))) ?_)
      exact⟨pv1,Z++[exZ0 v],rfl,by rw[List.map_append, ←hZ];rfl,by show AV.exact (.int .i64 (Z.length:Int))=AV.exact (.int .i64 (b.2.1.length:Int));rw[hZl],rfl⟩
   .refine zan ?_
    refine k_reg .free hmixP (by kernel_rfl) ?_
    refine ra ?_
    refine G_q rfl (zal (zdm v o ho) func45 (by kernel_rfl) (LEs.cons (AV.le_eq rfl) LEs.nil) ?_)
    refine ra ?_
    refine zcc (p:=o=5) 49 rfl (λ h5=> ?_) (λ h5=> ?_)
    .refine ra ?_
     refine zcc (p:=v∈way) 52 rfl (λ hm=> ?_) (λ hm=> ?_)
     .refine ra ?_
      refine awp_sub ?_ hk
      exact SubU.to (SubU.of_le (AF.le_put (AV.le_eq (congrArg (λ t=>AV.exact (.bool t)) ((decide_eq_true (show(o=5/\v∈way)∨(32:Int)≤(way.length:Int)∨64≤b.2.2 from .inl ⟨h5,hm⟩)).symm))) (AF.le_put (AV.le_eq rfl) (AF.le_put (AV.le_eq rfl) (AF.le_put (AV.le_eq rfl) (AF.le_put (AV.le_eq rfl) (AF.le_top _)))))))
     .refine ra ?_
      refine zcc (p:=(32:Int)≤(way.length:Int)) 57 rfl (λ h3=> ?_) (λ h3=> ?_)
      .refine ra ?_
       refine awp_sub ?_ hk
       exact SubU.to (SubU.of_le (AF.le_put (AV.le_eq (congrArg (λ t=>AV.exact (.bool t)) ((decide_eq_true (show(o=5/\v∈way)∨(32:Int)≤(way.length:Int)∨64≤b.2.2 from .inr (.inl h3))).symm))) (AF.le_put (AV.le_eq rfl) (AF.le_put (AV.le_eq rfl) (AF.le_put (AV.le_eq rfl) (AF.le_put (AV.le_eq rfl) (AF.le_top _)))))))
      .refine ra ?_
       refine awp_sub ?_ hk
       exact SubU.to (SubU.of_le (AF.le_put (AV.le_eq (congrArg (λ t=>AV.exact (.bool t)) (decide_eq_decide.2 (show 64≤b.2.2↔(o=5/\v∈way)∨(32:Int)≤(way.length:Int)∨64≤b.2.2 from⟨λ h=> .inr (.inr h),λ h=>(h.resolve_left (λ h=>hm h.2)).resolve_left h3⟩)))) (AF.le_put (AV.le_eq rfl) (AF.le_put (AV.le_eq rfl) (AF.le_put (AV.le_eq rfl) (AF.le_put (AV.le_eq rfl) (AF.le_top _)))))))
    .refine ra ?_
     refine zcc (p:=(32:Int)≤(way.length:Int)) 57 rfl (λ h3=> ?_) (λ h3=> ?_)
     .refine ra ?_
      refine awp_sub ?_ hk
      exact SubU.to (SubU.of_le (AF.le_put (AV.le_eq (congrArg (λ t=>AV.exact (.bool t)) ((decide_eq_true (show(o=5/\v∈way)∨(32:Int)≤(way.length:Int)∨64≤b.2.2 from .inr (.inl h3))).symm))) (AF.le_put (AV.le_eq rfl) (AF.le_put (AV.le_eq rfl) (AF.le_put (AV.le_eq rfl) (AF.le_put (AV.le_eq rfl) (AF.le_top _)))))))
     .refine ra ?_
      refine awp_sub ?_ hk
      exact SubU.to (SubU.of_le (AF.le_put (AV.le_eq (congrArg (λ t=>AV.exact (.bool t)) (decide_eq_decide.2 (show 64≤b.2.2↔(o=5/\v∈way)∨(32:Int)≤(way.length:Int)∨64≤b.2.2 from⟨λ h=> .inr (.inr h),λ h=>(h.resolve_left (λ h=>h5 h.1)).resolve_left h3⟩)))) (AF.le_put (AV.le_eq rfl) (AF.le_put (AV.le_eq rfl) (AF.le_put (AV.le_eq rfl) (AF.le_put (AV.le_eq rfl) (AF.le_top _)))))))
end
noncomputable section
open Go.RowKit
theorem m_exam_S_ok: ∀(n:Nat) (b:ExB) (v:List UInt8) (way:List (List UInt8)) (r:Int×ExB),m_exam_S zeo m_ref18_Head zfh zfk zdd n b v way=some r->ExOk b v way r
 |0,_,_,_,_,h=>by cases h
 |n+1,b,v,way,r,h=>m_exam_F_ok _ (m_exam_S_ok n) b v way r h
theorem m_examine_ok {w0:Nat} {w0v4:Value} (a0:ExB) (a1:List UInt8) (a2:List (List UInt8)) (r:Int×ExB) (h:m_examine zeo m_ref18_Head zfh zfk zdd a0 a1 a2=some r):
  Fun Tryz.prog 19 [pA w0 0, .exact (.string (bs a1)), .row 1 zab a2] [boxI 65 w0 [.row 6 zbu a0.1.1, .row 4 zbs a0.1.2.1, .row 6 zbh a0.1.2.2.1, .row 1 zab a0.1.2.2.2, .exact w0v4, .exact (.int .i64 a0.2.2)],vecT Tryz.prog 63 4 zas w0v4 a0.2.1]
   (λ a s=>a= .exact (.int .i64 r.1)/\s=[boxI 65 w0 [.row 6 zbu r.2.1.1, .row 4 zbs r.2.1.2.1, .row 6 zbh r.2.1.2.2.1, .row 1 zab r.2.1.2.2.2, .row 4 zas r.2.2.1, .exact (.int .i64 r.2.2.2)]]):=by
 obtain⟨he,h⟩:=zad h
 intro F w vs hg hf
 rw[he]at hg hf
 have hown: ∀k,Items.own (exI w0 a0.1 a0.2.2 w0v4 []) k↔Items.own [exB w0 a0.1 a0.2.2 w0v4,vecT Tryz.prog 63 4 zas w0v4 []] k:=λ k=>Iff.rfl
 refine(m_exam_S_ok FU a0 a1 a2 r h w0 w0v4 [] he F w vs (Good.exNew hg) hf).mono ?_
 rintro e w' ⟨v,hev,av,σ',⟨pv',Z',e1,e2,rfl,rfl⟩,g4,g5,g6,g7⟩
 rw[e1,e2]
 have hg':=Good.exDone g4
 have hb: ∀k,Items.own [boxI 65 w0 [.row 6 zbu a0.1.1, .row 4 zbs a0.1.2.1, .row 6 zbh a0.1.2.2.1, .row 1 zab a0.1.2.2.2, .row 4 zas (Z'.map exP), .exact (.int .i64 r.2.2.2)]] k->Items.own (exI w0 a0.1 r.2.2.2 pv' Z') k:=λ k hk=>by
  rcases zch.1 hk with hk|hk
  .exact zch.2 (.inl hk)
  .simp[Items.own]at hk
 exact⟨v,hev,_,_,⟨rfl,rfl⟩,hg',g5,λ k hk hlt=>g6 k (hb k hk) hlt,AV.keep _ (Keeps.refl _ _) (λ k _ hk=>hk.imp id (hb k)) g7⟩
end
end Go.Proofs.YtohjfjmjnkglgaaGreatDoor
