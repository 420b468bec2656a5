/- Types and their cells, by program. -/
import Derived.Test.YtdfdjgolijckfaaDoorQx3
import Derived.Test.YtdfdjgolijckfaaDoorQx1
import Derived.Test.YtdfdjgolijckfaaDoorQx0
import Derived.Shelf.Strings.OnBuilder
import Derived.Shelf.Strconv.Itoa4
import Derived.Lib.LaidTab
import Derived.LaidSub
namespace Go.Proofs.YtdfdjgolijckfaaDoor
open Go.RowKit
abbrev c_api_TypeNode (x : Int × Int × Int) : List AV := [.exact (.int .i64 x.1), .exact (.int .i64 x.2.1), .exact (.int .i64 x.2.2)]
theorem len_c_api_TypeNode (x : Int × Int × Int) : (c_api_TypeNode x).length = 3 := rfl
theorem oc_c_api_TypeNode (x : Int × Int × Int) : OneC (c_api_TypeNode x) := (OneC.int (OneC.int (OneC.int OneC.nil)))
abbrev c_int (x : Int) : List AV := [.exact (.int .i64 x)]
theorem len_c_int (x : Int) : (c_int x).length = 1 := rfl
theorem oc_c_int (x : Int) : OneC (c_int x) := (OneC.int OneC.nil)
abbrev c_cspcheckgen_Choices (x : (List Int) × Int) : List AV := [.row 1 c_int x.1, .exact (.int .i64 x.2)]
abbrev c_L_api_TypeNode (x : List (Int × Int × Int)) : List AV := [.row 3 c_api_TypeNode x]
theorem len_c_L_api_TypeNode (x : List (Int × Int × Int)) : (c_L_api_TypeNode x).length = 1 := rfl
theorem oc_c_L_api_TypeNode (x : List (Int × Int × Int)) : OneC (c_L_api_TypeNode x) := (OneC.row OneC.nil)
abbrev c_P_terms_Term (bs : List Nat) (x : Int) : List AV := [refA bs x]
theorem len_c_P_terms_Term (bs : List Nat) (x : Int) : (c_P_terms_Term bs x).length = 1 := rfl
theorem oc_c_P_terms_Term (bs : List Nat) (x : Int) : OneC (c_P_terms_Term bs x) := (OneC.ref OneC.nil)
abbrev c_terms_Term (bs : List Nat) (x : Int × Int × (List Int) × Int) : List AV := [.exact (.int .i64 x.1), .exact (.int .i64 x.2.1), .row 1 (c_P_terms_Term bs) x.2.2.1, refA bs x.2.2.2]
abbrev c_A2_P_terms_Term (bs : List Nat) (x : Int × Int) : List AV := [refA bs x.1, refA bs x.2]
abbrev c_terms_Extent (x : Int × Int) : List AV := [.exact (.int .i64 x.1), .exact (.int .i64 x.2)]
theorem oc_c_terms_Extent (x : Int × Int) : OneC (c_terms_Extent x) := (OneC.int (OneC.int OneC.nil))
abbrev c_api_Binding (x : Int × (List (Int × Int × Int))) : List AV := [.exact (.int .i64 x.1), .row 3 c_api_TypeNode x.2]
theorem len_c_api_Binding (x : Int × (List (Int × Int × Int))) : (c_api_Binding x).length = 2 := rfl
theorem oc_c_api_Binding (x : Int × (List (Int × Int × Int))) : OneC (c_api_Binding x) := (OneC.int (OneC.row OneC.nil))
abbrev c_string (x : List UInt8) : List AV := [.exact (.string (bs x))]
theorem len_c_string (x : List UInt8) : (c_string x).length = 1 := rfl
theorem oc_c_string (x : List UInt8) : OneC (c_string x) := (OneC.str OneC.nil)
abbrev c_cspcheckref6_shared (x : (Int × Int × Int) × (List Int) × Int) : List AV := [.exact (.int .i64 x.1.1), .exact (.int .i64 x.1.2.1), .exact (.int .i64 x.1.2.2), .row 1 c_int x.2.1, .exact (.int .i64 x.2.2)]
theorem len_c_cspcheckref6_shared (x : (Int × Int × Int) × (List Int) × Int) : (c_cspcheckref6_shared x).length = 5 := rfl
theorem oc_c_cspcheckref6_shared (x : (Int × Int × Int) × (List Int) × Int) : OneC (c_cspcheckref6_shared x) := (OneC.int (OneC.int (OneC.int (OneC.row (OneC.int OneC.nil)))))
abbrev c_bool (x : Bool) : List AV := [.exact (.bool x)]
theorem len_c_bool (x : Bool) : (c_bool x).length = 1 := rfl
theorem heq_c_api_TypeNode (x0 x1 x2 y0 y1 y2 : Int) (w : World) : (Op.equal 41 (.agg #[.int .i64 x0, .int .i64 x1, .int .i64 x2]) (.agg #[.int .i64 y0, .int .i64 y1, .int .i64 y2])).run Tryd.prog w = .ok (decide (x0 = y0 ∧ x1 = y1 ∧ x2 = y2)) w := by
  have s0 : (sizeOf 3).run Tryd.prog w = .ok 1 w := by kernel_rfl
  have e0 : ∀ a b : Int, (Op.equalIn 9999 3 (.int .i64 a) (.int .i64 b)).run Tryd.prog w = .ok (a == b) w := fun a b => run_equalIn_int w 9998 3 .i64 .i64 a b Tryd.underlying3
  have p0 : ∀ (a b c : Int) (w : World), (part 3 #[.int .i64 a, .int .i64 b, .int .i64 c] 0).run Tryd.prog w = .ok (.int .i64 a) w := fun a b c w => run_part1 (by kernel_rfl) rfl
  have s1 : (sizeOf 3).run Tryd.prog w = .ok 1 w := by kernel_rfl
  have e1 : ∀ a b : Int, (Op.equalIn 9999 3 (.int .i64 a) (.int .i64 b)).run Tryd.prog w = .ok (a == b) w := fun a b => run_equalIn_int w 9998 3 .i64 .i64 a b Tryd.underlying3
  have p1 : ∀ (a b c : Int) (w : World), (part 3 #[.int .i64 a, .int .i64 b, .int .i64 c] 1).run Tryd.prog w = .ok (.int .i64 b) w := fun a b c w => run_part1 (by kernel_rfl) rfl
  have s2 : (sizeOf 3).run Tryd.prog w = .ok 1 w := by kernel_rfl
  have e2 : ∀ a b : Int, (Op.equalIn 9999 3 (.int .i64 a) (.int .i64 b)).run Tryd.prog w = .ok (a == b) w := fun a b => run_equalIn_int w 9998 3 .i64 .i64 a b Tryd.underlying3
  have p2 : ∀ (a b c : Int) (w : World), (part 3 #[.int .i64 a, .int .i64 b, .int .i64 c] 2).run Tryd.prog w = .ok (.int .i64 c) w := fun a b c w => run_part1 (by kernel_rfl) rfl
  rw [Op.equal, Op.maxDepth, show (10000 : Nat) = 9999 + 1 from rfl]
  rw [show Op.equalIn (9999 + 1) 41 (.agg #[.int .i64 x0, .int .i64 x1, .int .i64 x2]) (.agg #[.int .i64 y0, .int .i64 y1, .int .i64 y2]) = _ from by rw [Op.equalIn]]
  simp only [Sem.run_bind, run_underlying Tryd.underlying41, Result.andThen_ok, s0, s1, s2]
  simp [p0, p1, p2, e0, e1, e2]
  by_cases h1 : x0 = y0 <;> by_cases h2 : x1 = y1 <;> by_cases h3 : x2 = y2 <;> simp [h1, h2, h3]
theorem eq_c_api_TypeNode (a b : Int × Int × Int) {M : BSet} {w : World} {vs us : List Value} (h1 : Fit M w (c_api_TypeNode a) vs) (h2 : Fit M w (c_api_TypeNode b) us) : (Op.equal 41 (.agg vs.toArray) (.agg us.toArray)).run Tryd.prog w = .ok (decide (a = b)) w := by
  match vs, h1 with
  | [u0, u1, u2], ⟨g0, g1, g2, _⟩ =>
    match us, h2 with
    | [v0, v1, v2], ⟨k0, k1, k2, _⟩ =>
      obtain rfl : u0 = _ := g0
      obtain rfl : u1 = _ := g1
      obtain rfl : u2 = _ := g2
      obtain rfl : v0 = _ := k0
      obtain rfl : v1 = _ := k1
      obtain rfl : v2 = _ := k2
      show (Op.equal 41 (.agg #[.int .i64 a.1, .int .i64 a.2.1, .int .i64 a.2.2]) (.agg #[.int .i64 b.1, .int .i64 b.2.1, .int .i64 b.2.2])).run Tryd.prog w = _
      rw [heq_c_api_TypeNode]
      congr 1
      simp [Prod.ext_iff]
end Go.Proofs.YtdfdjgolijckfaaDoor
/- The sorts' contracts, laid by program. -/
namespace Go.Proofs.YtdfdjgolijckfaaDoor
open Go.RowKit Go.Sort
set_option maxRecDepth 100000
def lay0_ren : Go.Shelf.Ren := ⟨fun | 6 => 45 | 14 => 76 | 15 => 77 | 20 => 92 | 21 => 93 | 22 => 94 | 23 => 95 | 24 => 96 | 25 => 97 | 26 => 98 | 27 => 99 | 28 => 100 | 29 => 101 | 46 => 118 | 47 => 119 | 48 => 120 | 49 => 121 | 50 => 122 | 57 => 129 | n => n, fun | 0 => 0 | 3 => 3 | 4 => 4 | 5 => 5 | 9 => 9 | 22 => 24 | 24 => 38 | 25 => 74 | 39 => 116 | 45 => 131 | 46 => 132 | 50 => 136 | 53 => 139 | 55 => 141 | 66 => 163 | 70 => 167 | 76 => 173 | 77 => 119 | n => n, fun n => n⟩
theorem lay0 : Go.Proofs.SlLaysF0.n6 Tryd.prog lay0_ren where
  mixed := by kernel_rfl
  f6 := ⟨Tryd.f45.name, by kernel_rfl, Tryd.func45.trans (congrArg some (by kernel_rfl))⟩
  f14 := ⟨Tryd.f76.name, by kernel_rfl, Tryd.func76.trans (congrArg some (by kernel_rfl))⟩
  f15 := Tryd.func77.trans (congrArg some (by kernel_rfl))
  f20 := ⟨Tryd.f92.name, by kernel_rfl, Tryd.func92.trans (congrArg some (by kernel_rfl))⟩
  f21 := ⟨Tryd.f93.name, by kernel_rfl, Tryd.func93.trans (congrArg some (by kernel_rfl))⟩
  f22 := ⟨Tryd.f94.name, by kernel_rfl, Tryd.func94.trans (congrArg some (by kernel_rfl))⟩
  f23 := ⟨Tryd.f95.name, by kernel_rfl, Tryd.func95.trans (congrArg some (by kernel_rfl))⟩
  f24 := ⟨Tryd.f96.name, by kernel_rfl, Tryd.func96.trans (congrArg some (by kernel_rfl))⟩
  f25 := ⟨Tryd.f97.name, by kernel_rfl, Tryd.func97.trans (congrArg some (by kernel_rfl))⟩
  f26 := ⟨Tryd.f98.name, by kernel_rfl, Tryd.func98.trans (congrArg some (by kernel_rfl))⟩
  f27 := ⟨Tryd.f99.name, by kernel_rfl, Tryd.func99.trans (congrArg some (by kernel_rfl))⟩
  f28 := Tryd.func100.trans (congrArg some (by kernel_rfl))
  f29 := Tryd.func101.trans (congrArg some (by kernel_rfl))
  f46 := ⟨Tryd.f118.name, by kernel_rfl, Tryd.func118.trans (congrArg some (by kernel_rfl))⟩
  f47 := Tryd.func119.trans (congrArg some (by kernel_rfl))
  f48 := Tryd.func120.trans (congrArg some (by kernel_rfl))
  f49 := ⟨Tryd.f121.name, by kernel_rfl, Tryd.func121.trans (congrArg some (by kernel_rfl))⟩
  f50 := ⟨Tryd.f122.name, by kernel_rfl, Tryd.func122.trans (congrArg some (by kernel_rfl))⟩
  f57 := ⟨Tryd.f129.name, by kernel_rfl, Tryd.func129.trans (congrArg some (by kernel_rfl))⟩
  t0 := Tryd.underlying0
  a0 := Tryd.isAgg0
  z0 := Tryd.sizeOf0
  v0 := Tryd.zeroValue0
  t3 := Tryd.underlying3
  a3 := Tryd.isAgg3
  z3 := Tryd.sizeOf3
  v3 := Tryd.zeroValue3
  t4 := Tryd.underlying4
  a4 := Tryd.isAgg4
  z4 := Tryd.sizeOf4
  v4 := Tryd.zeroValue4
  t5 := Tryd.underlying5
  a5 := Tryd.isAgg5
  z5 := Tryd.sizeOf5
  v5 := Tryd.zeroValue5
  t9 := Tryd.underlying9
  a9 := Tryd.isAgg9
  z9 := Tryd.sizeOf9
  v9 := Tryd.zeroValue9
  t22 := Tryd.underlying24
  a22 := Tryd.isAgg24
  z22 := Tryd.sizeOf24
  v22 := Tryd.zeroValue24
  t25 := Tryd.underlying74
  a25 := Tryd.isAgg74
  z25 := Tryd.sizeOf74
  v25 := Tryd.zeroValue74
  t39 := Tryd.underlying116
  a39 := Tryd.isAgg116
  z39 := Tryd.sizeOf116
  v39 := Tryd.zeroValue116
  t45 := Tryd.underlying131
  a45 := Tryd.isAgg131
  z45 := Tryd.sizeOf131
  v45 := Tryd.zeroValue131
  t46 := Tryd.underlying132
  a46 := Tryd.isAgg132
  z46 := Tryd.sizeOf132
  v46 := Tryd.zeroValue132
  t50 := Tryd.underlying136
  a50 := Tryd.isAgg136
  z50 := Tryd.sizeOf136
  v50 := Tryd.zeroValue136
  t53 := Tryd.underlying139
  a53 := Tryd.isAgg139
  z53 := Tryd.sizeOf139
  v53 := Tryd.zeroValue139
  t55 := Tryd.underlying141
  a55 := Tryd.isAgg141
  z55 := Tryd.sizeOf141
  v55 := Tryd.zeroValue141
  t66 := Tryd.underlying163
  a66 := Tryd.isAgg163
  z66 := Tryd.sizeOf163
  v66 := Tryd.zeroValue163
  t70 := Tryd.underlying167
  a70 := Tryd.isAgg167
  z70 := Tryd.sizeOf167
  v70 := Tryd.zeroValue167
  t76 := Tryd.underlying173
  a76 := Tryd.isAgg173
  z76 := Tryd.sizeOf173
  v76 := Tryd.zeroValue173
  t77 := Tryd.underlying119
  a77 := Tryd.isAgg119
  z77 := Tryd.sizeOf119
  v77 := Tryd.zeroValue119
abbrev cw_api_Binding (x : Int × (List (Int × Int × Int))) : List AV := [.exact (.int .i64 x.1), slA]
section
attribute [local irreducible] AV.exact AV.top AV.row AV.ptr AV.agg AV.tup AV.eptr AV.fn AV.nilq AV.nilqn opA opB opM opR Quiet Loud Reads wpG awp den Sub SubU Pure Fun vecI vecT boxI CellsAll CellsOf OneC LEs LEss
set_option maxHeartbeats 4000000 in
theorem m_types_Unify_1_okW (a0 : Int × (List (Int × Int × Int))) (a1 : Int × (List (Int × Int × Int))) (r : Int) (h : m_types_Unify_1 a0 a1 = some r) : Pure Tryd.prog 46 [(.agg (cw_api_Binding a0)), (.agg (cw_api_Binding a1))] (.exact (.int .i64 r)) := by
  unfold m_types_Unify_1 at h
  refine Pure.ofFun (fun_of_awp Tryd.func46 rfl Tryd.ntmps46 (by simp) rfl (res1 rfl) fun E hE => k_end ?_)
  refine k_seq ?_
  refine k_reg .free hmixP (by kernel_rfl) ?_
  refine G_q rfl (op_box (c := cw_api_Binding a0) rfl CellsOf.agg ?_)
  refine G_q rfl (op_box (c := cw_api_Binding a1) rfl CellsOf.agg ?_)
  refine G_q rfl (op_assign (av := .exact (.int .i64 0)) rfl ?_)
  refine G_nil ?_
  refine kC_normal ?_
  refine k_seq ?_
  refine k_reg .free hmixP (by kernel_rfl) ?_
  refine G_q rfl (op_fieldAddr_ptr (o := 0) (c' := (List.drop 0 (cw_api_Binding a0))) (by kernel_rfl) rfl rfl ?_)
  refine G_q rfl (op_load1p (a := .exact (.int .i64 a0.1)) (by kernel_rfl) rfl rfl ?_)
  refine G_q rfl (op_fieldAddr_ptr (o := 0) (c' := (List.drop 0 (cw_api_Binding a1))) (by kernel_rfl) rfl rfl ?_)
  refine G_q rfl (op_load1p (a := .exact (.int .i64 a1.1)) (by kernel_rfl) rfl rfl ?_)
  refine G_q rfl (op_sub rfl rfl rfl ?_)
  refine G_q rfl (op_assign (av := .exact (.int .i64 (i64 (a0.1 - a1.1)))) rfl ?_)
  refine G_nil ?_
  refine kC_normal ?_
  refine k_ret ?_
  obtain rfl := Option.some.inj h
  refine kP_any (endN (af' := (AF.put AF0 (some 4) (.exact (.int .i64 (i64 (a0.1 - a1.1)))))) (σ' := []) _ rfl ?_ ⟨rfl, rfl⟩)
  exact Sub.of_le (AF.le_put (AV.le_eq rfl) (AF.le_top _))
end
theorem m_sort_api_Binding_types_Unify_1_ok {w0 : Value} (a0 r : List (Int × (List (Int × Int × Int)))) (h : m_sortOnBy m_types_Unify_1 a0 = some r) : Fun Tryd.prog 45 [.exact w0, .exact (.func (.func 46) #[] #[])] [vecT Tryd.prog 24 2 c_api_Binding w0 a0] (fun a s => a = .tup [] ∧ s = [vecT Tryd.prog 24 2 c_api_Binding w0 r]) :=
  m_sortOnBy_ok (encW := cw_api_Binding) lay0 Tryd.isAgg38 Tryd.sizeOf38 len_c_api_Binding oc_c_api_Binding (fun x M w us h => fun M' w' => by
    match us, h with
    | [u0, u1], ⟨h0, h1, _⟩ => exact ⟨h0, (by obtain ⟨A, c, e, _⟩ := h1; exact ⟨A, _, c, e⟩), trivial⟩) 46 (fun args w => by exact enters_of Tryd.func46 (by kernel_rfl) rfl args w) 24 (fun x y r h => m_types_Unify_1_okW x y r h) a0 r h
section
attribute [local irreducible] AV.exact AV.top AV.row AV.ptr AV.agg AV.tup AV.eptr AV.fn AV.nilq AV.nilqn opA opB opM opR Quiet Loud Reads wpG awp den Sub SubU Pure Fun vecI vecT boxI CellsAll CellsOf OneC LEs LEss
end
section
attribute [local irreducible] AV.exact AV.top AV.row AV.ptr AV.agg AV.tup AV.eptr AV.fn AV.nilq AV.nilqn opA opB opM opR Quiet Loud Reads wpG awp den Sub SubU Pure Fun vecI vecT boxI CellsAll CellsOf OneC LEs LEss
end
end Go.Proofs.YtdfdjgolijckfaaDoor
/- The contract of strings.Join, laid by program. -/
namespace Go.Proofs.YtdfdjgolijckfaaDoor
open Go.RowKit Go.Sort
set_option maxRecDepth 100000
def layj_ren : Go.Shelf.Ren := ⟨fun | 156 => 86 | 165 => 113 | 166 => 114 | 169 => 115 | 240 => 127 | 241 => 128 | 276 => 135 | 277 => 136 | n => n, fun | 0 => 0 | 3 => 3 | 4 => 4 | 5 => 5 | 9 => 9 | 20 => 20 | 31 => 54 | 37 => 152 | 70 => 151 | 72 => 154 | 75 => 157 | 76 => 158 | 80 => 160 | 127 => 172 | 164 => 180 | n => n, fun n => n⟩
theorem layj : Go.Proofs.Lays.n156 Tryd.prog layj_ren where
  mixed := by kernel_rfl
  f156 := Tryd.func86.trans (congrArg some (by kernel_rfl))
  f165 := Tryd.func113.trans (congrArg some (by kernel_rfl))
  f166 := Tryd.func114.trans (congrArg some (by kernel_rfl))
  f169 := Tryd.func115.trans (congrArg some (by kernel_rfl))
  f240 := Tryd.func127.trans (congrArg some (by kernel_rfl))
  f241 := Tryd.func128.trans (congrArg some (by kernel_rfl))
  f276 := Tryd.func135.trans (congrArg some (by kernel_rfl))
  f277 := Tryd.func136.trans (congrArg some (by kernel_rfl))
  t0 := Tryd.underlying0
  a0 := Tryd.isAgg0
  z0 := Tryd.sizeOf0
  v0 := Tryd.zeroValue0
  t3 := Tryd.underlying3
  a3 := Tryd.isAgg3
  z3 := Tryd.sizeOf3
  v3 := Tryd.zeroValue3
  t4 := Tryd.underlying4
  a4 := Tryd.isAgg4
  z4 := Tryd.sizeOf4
  v4 := Tryd.zeroValue4
  t9 := Tryd.underlying9
  a9 := Tryd.isAgg9
  z9 := Tryd.sizeOf9
  v9 := Tryd.zeroValue9
  t20 := Tryd.underlying20
  a20 := Tryd.isAgg20
  z20 := Tryd.sizeOf20
  v20 := Tryd.zeroValue20
  t31 := Tryd.underlying54
  a31 := Tryd.isAgg54
  z31 := Tryd.sizeOf54
  v31 := Tryd.zeroValue54
  t37 := Tryd.underlying152
  a37 := Tryd.isAgg152
  z37 := Tryd.sizeOf152
  v37 := Tryd.zeroValue152
  t70 := Tryd.underlying151
  a70 := Tryd.isAgg151
  z70 := Tryd.sizeOf151
  v70 := Tryd.zeroValue151
  t72 := Tryd.underlying154
  a72 := Tryd.isAgg154
  z72 := Tryd.sizeOf154
  v72 := Tryd.zeroValue154
  t75 := Tryd.underlying157
  a75 := Tryd.isAgg157
  z75 := Tryd.sizeOf157
  v75 := Tryd.zeroValue157
  t76 := Tryd.underlying158
  a76 := Tryd.isAgg158
  z76 := Tryd.sizeOf158
  v76 := Tryd.zeroValue158
  t127 := Tryd.underlying172
  a127 := Tryd.isAgg172
  z127 := Tryd.sizeOf172
  v127 := Tryd.zeroValue172
  t164 := Tryd.underlying180
  a164 := Tryd.isAgg180
  z164 := Tryd.sizeOf180
  v164 := Tryd.zeroValue180
theorem layjX : Go.Proofs.Builder.Extra Tryd.prog layj_ren where
  sizeBuilder := by kernel_rfl
  liesBuilder := by kernel_rfl
  t5 := Tryd.underlying5
  a5 := Tryd.isAgg5
  z5 := Tryd.sizeOf5
  v5 := Tryd.zeroValue5
  infoByte := by kernel_rfl
  cellsByte := by kernel_rfl
  sizeByte := by kernel_rfl
  neB5 := by decide
theorem m_join_ok (a0 : List (List UInt8)) (a1 r : List UInt8) (h : m_join a0 a1 = some r) : Pure Tryd.prog 86 [.row 1 c_string a0, .exact (.string (bs a1))] (.exact (.string (bs r))) := by
  unfold m_join at h
  obtain ⟨hn, h⟩ := need_some h
  cases h
  intro M w vs hM hfit
  match vs, hfit with
  | [v, s], ⟨⟨A, c, e1, h1, h2, h3⟩, e2, _⟩ =>
  have e2 : s = .string (bs a1) := e2
  subst e1 e2
  have conv : ∀ (e : Ending) (w' : World), (e = .returned (.string ⟨(Lib.join ((a0.map bs).map (·.data.toList)) (bs a1).data.toList).toArray⟩) ∧ Below w.heap.size w w') ∧ (e ≠ .outgrown → w.drawn ≤ w'.drawn) → ∃ v, e = .returned v ∧ Keeps noB w w' ∧ (AV.exact (.string (bs (Lib.join a0 a1)))).p M w' v := by
    rintro e w' ⟨⟨rfl, hb⟩, hd⟩
    have hs : ((a0.map bs).map (·.data.toList)) = a0 := by rw [List.map_map]; exact (List.map_congr_left (fun x _ => by rfl)).trans (List.map_id a0)
    refine ⟨_, rfl, ⟨hb.os, hb.tape, hb.output, hd (by simp), hb.size, fun k hk _ => hb.block k hk⟩, ?_⟩
    rw [hs]
    rfl
  by_cases h0 : a0 = []
  · subst h0
    refine (Calls_drawn ((Any.strings_Join_none layj layjX A c (bs a1) w).mono fun e w' ⟨he, hw⟩ => (⟨he, hw ▸ Below.refl _ _⟩ : e = .returned (.string ⟨(Lib.join (([] : List (List UInt8)).map bs |>.map (·.data.toList)) (bs a1).data.toList).toArray⟩) ∧ Below w.heap.size w w'))).mono fun e w' he => conv e w' he
  · obtain ⟨b, off, rfl, hb, _, hx⟩ := h3 h0
    have hc : ∀ (j : Nat) x, (a0.map bs)[j]? = some x → w.cell? ⟨b, off + j, none⟩ = some (.string x) := fun j x hj => by
      rw [List.getElem?_map] at hj
      obtain ⟨y, hy, rfl⟩ := Option.map_eq_some_iff.1 hj
      obtain ⟨u, hu1, hu2⟩ := (hx j y hy).2 0 _ rfl
      have hu2 : u = .string (bs y) := hu2
      subst hu2
      simpa using hu1
    have hj := Any.strings_Join layj layjX b off c (a0.map bs) (bs a1) w hc hb (by simpa using hn.1) (by simpa using h1) (by
      have hs : ((a0.map bs).map (·.data.toList)) = a0 := by rw [List.map_map]; exact (List.map_congr_left (fun x _ => by rfl)).trans (List.map_id a0)
      rw [hs]; exact hn.2)
    rw [List.length_map] at hj
    exact (Calls_drawn hj).mono fun e w' he => conv e w' he
end Go.Proofs.YtdfdjgolijckfaaDoor
/- The walk of Read: it makes the heap of a type. -/
namespace Go.Proofs.YtdfdjgolijckfaaDoor
open Go.RowKit
theorem le_c_Term {a b : List Nat} (h : Ext a b) (x : Int × Int × (List Int) × Int) : LEs (c_terms_Term a x) (c_terms_Term b x) :=
  LEs.cons (AV.le_eq rfl) (LEs.cons (AV.le_eq rfl) (LEs.cons (row_le (fun y => LEs.cons (refA_ext h) LEs.nil) (fun _ => rfl)) (LEs.cons (refA_ext h) LEs.nil)))
attribute [local irreducible] AV.exact AV.top AV.row AV.ptr AV.agg AV.tup AV.eptr AV.fn AV.nilq AV.nilqn opA opB opM opR Quiet Loud Reads wpG awp den Sub SubU Pure Fun vecI vecT boxI CellsAll CellsOf OneC LEs LEss
set_option maxRecDepth 100000
set_option maxHeartbeats 4000000 in
theorem m_terms_Reader_Read_F_ok {w0 : Nat} {bs0 : List Nat} (self_terms_Reader_Read : (List (Int × Int)) → (List (Int × Int × Int)) → (List (Int × Int × (List Int) × Int)) → Option (Int × (List (Int × Int × Int)) × (List (Int × Int)) × (List (Int × Int × (List Int) × Int)))) (hself_terms_Reader_Read : ∀ ⦃w0 : Nat⦄ ⦃bs0 : List Nat⦄ (a0 : List (Int × Int)) (a1 : List (Int × Int × Int)) (a2 : List (Int × Int × (List Int) × Int)) (r : Int × (List (Int × Int × Int)) × (List (Int × Int)) × (List (Int × Int × (List Int) × Int))), self_terms_Reader_Read a0 a1 a2 = some r → Fun Tryd.prog 40 [(.exact (.map (some w0))), (.row 3 c_api_TypeNode a1)] [mapI (fun _ => True) (fun k : Int => .int .i64 k) (fun x : Int => refA bs0 x) w0 a0, hpI 72 (c_terms_Term bs0) bs0 a2] (fun a s => ∃ bs : List Nat, a = .tup [refA bs r.1, .row 3 c_api_TypeNode r.2.1] ∧ s = [mapI (fun _ => True) (fun k : Int => .int .i64 k) (fun x : Int => refA bs x) w0 r.2.2.1, hpI 72 (c_terms_Term bs) bs r.2.2.2, extI bs0 bs])) (a0 : List (Int × Int)) (a1 : List (Int × Int × Int)) (a2 : List (Int × Int × (List Int) × Int)) (r : Int × (List (Int × Int × Int)) × (List (Int × Int)) × (List (Int × Int × (List Int) × Int))) (h : m_terms_Reader_Read_F self_terms_Reader_Read a0 a1 a2 = some r) : Fun Tryd.prog 40 [(.exact (.map (some w0))), (.row 3 c_api_TypeNode a1)] [mapI (fun _ => True) (fun k : Int => .int .i64 k) (fun x : Int => refA bs0 x) w0 a0, hpI 72 (c_terms_Term bs0) bs0 a2] (fun a s => ∃ bs : List Nat, a = .tup [refA bs r.1, .row 3 c_api_TypeNode r.2.1] ∧ s = [mapI (fun _ => True) (fun k : Int => .int .i64 k) (fun x : Int => refA bs x) w0 r.2.2.1, hpI 72 (c_terms_Term bs) bs r.2.2.2, extI bs0 bs]) := by
  unfold m_terms_Reader_Read_F at h
  refine fun_of_awp Tryd.func40 rfl Tryd.ntmps40 (by simp) rfl (res2 rfl) fun E hE => k_end ?_
  refine awp_sub (SubU.to (SubU.newExt (Ext.refl bs0))) ?_
  refine awp_sub (SubU.to SubU.f2) ?_
  refine awp_sub (SubU.to SubU.f2) ?_
  refine k_seq ?_
  refine k_reg .free hmixP (by kernel_rfl) ?_
  refine G_q rfl (op_assign (av := .exact (.pointer none)) rfl ?_)
  refine G_q rfl (op_assign (av := .exact (.slice none 0 0)) rfl ?_)
  refine G_nil ?_
  refine kC_normal ?_
  refine k_seq ?_
  refine k_reg .free hmixP (by kernel_rfl) ?_
  refine G_q rfl (op_move (av := .row 3 c_api_TypeNode a1) rfl ?_)
  obtain ⟨n1, h⟩ := need_some h
  refine G_q rfl (op_index_row (by kernel_rfl) rfl rfl n1.1 n1.2 ?_)
  refine G_q rfl (op_loadNp (m := 3) (c' := c_api_TypeNode (gi a1 0)) (by kernel_rfl) rfl rfl rfl ?_)
  refine G_l rfl (op_alloc (c := [.exact (.int .i64 ((0, 0, 0).1)), .exact (.int .i64 ((0, 0, 0).2.1)), .exact (.int .i64 ((0, 0, 0).2.2))]) rfl (LEs.cons (AV.le_eq rfl) (LEs.cons (AV.le_eq rfl) (LEs.cons (AV.le_eq rfl) LEs.nil))) (fun b2 => ?_))
  refine G_l rfl (op_store_box (c' := [.exact (.int .i64 ((gi a1 0).1)), .exact (.int .i64 ((gi a1 0).2.1)), .exact (.int .i64 ((gi a1 0).2.2))]) (c3 := [.exact (.int .i64 ((gi a1 0).1)), .exact (.int .i64 ((gi a1 0).2.1)), .exact (.int .i64 ((gi a1 0).2.2))]) rfl rfl CellsOf.agg (LEs.cons (AV.le_eq rfl) (LEs.cons (AV.le_eq rfl) (LEs.cons (AV.le_eq rfl) LEs.nil))) (oc_c_api_TypeNode _) (by kernel_rfl) (Nat.le_of_ble_eq_true rfl) rfl ?_)
  refine G_nil ?_
  refine kC_normal ?_
  refine k_seq ?_
  refine k_reg .free hmixP (by kernel_rfl) ?_
  refine G_q rfl (op_move (av := .row 3 c_api_TypeNode a1) rfl ?_)
  obtain ⟨n3, h⟩ := need_some h
  refine G_q rfl (op_slice_rowd (by kernel_rfl) rfl (bnd_some rfl) bnd_none (by decide) n3 (Int.le_refl _) ?_)
  refine G_q rfl (op_assign (av := .row 3 c_api_TypeNode (List.drop (Int.toNat 1) a1)) rfl ?_)
  refine G_nil ?_
  refine kC_normal ?_
  refine k_seq ?_
  refine k_seq ?_
  refine k_reg .free hmixP (by kernel_rfl) ?_
  refine G_q rfl (op_fieldAddr (o := 0) (by kernel_rfl) rfl ?_)
  refine G_r rfl (op_load_box1 (a := .exact (.int .i64 ((gi a1 0).1))) (by kernel_rfl) rfl rfl ?_)
  refine G_q rfl (op_eql rfl rfl ?_)
  refine G_nil ?_
  refine kC_normal ?_
  refine k_cond_d (p := ((gi a1 0).1) = 1) rfl (fun hc => ?_) (fun hc => ?_)
  · replace h := ite_t h hc
    refine k_join2_1 h (fun (x0_j4 : List (Int × Int)) (xH_j4 : List (Int × Int × (List Int) × Int)) (bs : List Nat) => (AF.put (AF.put (AF.put AF0 (some 0) (.exact (.map (some w0)))) (some 1) (.row 3 c_api_TypeNode (List.drop (Int.toNat 1) a1))) (some 6) (pA b2 0))) (fun (x0_j4 : List (Int × Int)) (xH_j4 : List (Int × Int × (List Int) × Int)) (bs : List Nat) => [hpI 72 (c_terms_Term bs) bs xH_j4, mapI (fun _ => True) (fun k : Int => .int .i64 k) (fun x : Int => refA bs x) w0 x0_j4, boxI 41 b2 [.exact (.int .i64 ((gi a1 0).1)), .exact (.int .i64 ((gi a1 0).2.1)), .exact (.int .i64 ((gi a1 0).2.2))], extI bs0 bs]) (fun k4 h => ?_) (fun x0_j4 xH_j4 bs h => ?_)
    · refine k_seq ?_
      refine k_reg .free hmixP (by kernel_rfl) ?_
      refine G_q rfl (op_move (av := .exact (.map (some w0))) rfl ?_)
      refine G_q rfl (op_fieldAddr (o := 1) (by kernel_rfl) rfl ?_)
      refine G_r rfl (op_load_box1 (a := .exact (.int .i64 ((gi a1 0).2.1))) (by kernel_rfl) rfl rfl ?_)
      refine G_r rfl (op_mlook (z := ((-1) : Int)) (List.Mem.tail _ (List.Mem.head _)) (keyOk_int Tryd.underlying3) (fun _ _ _ => trivial) Tryd.underlying62 (fun _ w => ⟨_, Tryd.zeroValue63 w, zp_ref⟩) rfl (keyAV_int rfl) ?_)
      refine G_q rfl (op_eqnil_ref (t := 72) (by kernel_rfl) (by kernel_rfl) rfl rfl ?_)
      refine G_nil ?_
      refine kC_normal ?_
      refine k_cond_d (p := (Option.getD (lookL a0 ((gi a1 0).2.1)) (-1)) = -1) rfl (fun hc => ?_) (fun hc => ?_)
      · replace h := ite_t h hc
        refine k_reg .free hmixP (by kernel_rfl) ?_
        refine G_q rfl (op_move (av := .exact (.map (some w0))) rfl ?_)
        refine G_q rfl (op_fieldAddr (o := 1) (by kernel_rfl) rfl ?_)
        refine G_r rfl (op_load_box1 (a := .exact (.int .i64 ((gi a1 0).2.1))) (by kernel_rfl) rfl rfl ?_)
        refine G_q rfl (op_fieldAddr (o := 0) (by kernel_rfl) rfl ?_)
        refine G_r rfl (op_load_box1 (a := .exact (.int .i64 ((gi a1 0).1))) (by kernel_rfl) rfl rfl ?_)
        refine G_q rfl (op_fieldAddr (o := 1) (by kernel_rfl) rfl ?_)
        refine G_r rfl (op_load_box1 (a := .exact (.int .i64 ((gi a1 0).2.1))) (by kernel_rfl) rfl rfl ?_)
        refine G_q rfl (op_bld (c' := [.exact (.int .i64 ((gi a1 0).1)), .exact (.int .i64 ((gi a1 0).2.1)), .exact (.slice none 0 0), AV.exact (.pointer none)]) (CellsAll.cons rfl CellsOf.int (CellsAll.cons rfl CellsOf.int CellsAll.nil)) rfl (LEs.cons (AV.le_eq rfl) (LEs.cons (AV.le_eq rfl) (LEs.cons (AV.le_eq rfl) (LEs.cons (AV.le_eq rfl) LEs.nil)))) ?_)
        refine G_l rfl (op_boxI (c := [.exact (.int .i64 ((gi a1 0).1)), .exact (.int .i64 ((gi a1 0).2.1)), .exact (.slice none 0 0), AV.exact (.pointer none)]) rfl CellsOf.agg (LEs.cons (AV.le_eq rfl) (LEs.cons (AV.le_eq rfl) (LEs.cons (AV.le_eq rfl) (LEs.cons (AV.le_eq rfl) LEs.nil)))) (fun b6 => ?_))
        refine G_sub rfl (SubU.trans SubU.f3 (SubU.trans SubU.f1 (SubU.trans (SubU.addHeap (s := 30) (x := ((gi a1 0).1, (gi a1 0).2.1, [], -1)) (enc' := c_terms_Term (bs0 ++ [b6])) rfl (LEs.cons (AV.le_eq rfl) (LEs.cons (AV.le_eq rfl) (LEs.cons (row_nil (by decide)) (LEs.cons refA_nil LEs.nil)))) (le_c_Term (Ext.one _ _))) (SubU.trans SubU.f2 (SubU.trans (SubU.mapLe (vv' := fun x : Int => refA (bs0 ++ [b6]) x) (fun x => refA_mono)) (SubU.trans SubU.f3 (SubU.extLe (fun h => h.trans (Ext.one _ b6))))))))) ?_
        refine G_l rfl (opB_f1 (op_mput (z := (List.length a2 : Int)) (keyOk_int Tryd.underlying3) (fun _ _ _ => trivial) Tryd.underlying62 rfl (keyAV_int rfl) (AV.le_eq rfl) ?_))
        refine G_nil ?_
        refine kI_normal ⟨_, _, bs0 ++ [b6], h, ?_⟩
        refine Sub.trans (SubU.to SubU.f1) ?_
        refine Sub.trans (SubU.to SubU.f3) ?_
        refine Sub.trans (SubU.to SubU.f2) ?_
        refine Sub.trans (SubU.to SubU.f3) ?_
        exact Sub.of_le (AF.le_put (AV.le_eq rfl) (AF.le_put (AV.le_eq rfl) (AF.le_put (AV.le_eq rfl) (AF.le_top _))))
      · replace h := ite_f h hc
        refine k_skip ?_
        refine kI_normal ⟨_, _, bs0, h, ?_⟩
        refine Sub.trans (SubU.to SubU.f1) ?_
        refine Sub.trans (SubU.to SubU.f2) ?_
        exact Sub.of_le (AF.le_put (AV.le_eq rfl) (AF.le_put (AV.le_eq rfl) (AF.le_put (AV.le_eq rfl) (AF.le_top _))))
    · refine k_seq ?_
      refine k_reg .free hmixP (by kernel_rfl) ?_
      refine G_q rfl (op_move (av := .exact (.map (some w0))) rfl ?_)
      refine G_q rfl (op_fieldAddr (o := 1) (by kernel_rfl) rfl ?_)
      refine G_r rfl (opR_f2 (op_load_box1 (a := .exact (.int .i64 ((gi a1 0).2.1))) (by kernel_rfl) rfl rfl ?_))
      refine G_r rfl (op_mlook (z := ((-1) : Int)) (List.Mem.tail _ (List.Mem.head _)) (keyOk_int Tryd.underlying3) (fun _ _ _ => trivial) Tryd.underlying62 (fun _ w => ⟨_, Tryd.zeroValue63 w, zp_ref⟩) rfl (keyAV_int rfl) ?_)
      refine G_q rfl (op_move (av := .row 3 c_api_TypeNode (List.drop (Int.toNat 1) a1)) rfl ?_)
      refine G_q rfl (op_assign (av := refA bs (Option.getD (lookL x0_j4 ((gi a1 0).2.1)) (-1))) rfl ?_)
      refine G_q rfl (op_assign (av := .row 3 c_api_TypeNode (List.drop (Int.toNat 1) a1)) rfl ?_)
      refine G_nil ?_
      refine kC_normal ?_
      refine k_ret ?_
      refine kC_ret ?_
      obtain rfl := Option.some.inj h
      refine kP_any (endN (af' := (AF.put (AF.put AF0 (some 4) (refA bs (Option.getD (lookL x0_j4 ((gi a1 0).2.1)) (-1)))) (some 5) (.row 3 c_api_TypeNode (List.drop (Int.toNat 1) a1)))) (σ' := [mapI (fun _ => True) (fun k : Int => .int .i64 k) (fun x : Int => refA bs x) w0 x0_j4, hpI 72 (c_terms_Term bs) bs xH_j4, extI bs0 bs]) _ rfl ?_ ⟨bs, rfl, rfl⟩)
      refine Sub.trans (SubU.to SubU.f2) ?_
      refine Sub.trans (SubU.to SubU.drop) ?_
      refine Sub.trans (SubU.to SubU.f1) ?_
      exact Sub.of_le (AF.le_put (AV.le_eq rfl) (AF.le_put (AV.le_eq rfl) (AF.le_top _)))
  · replace h := ite_f h hc
    refine k_skip ?_
    refine kC_normal ?_
    refine k_seq ?_
    refine k_reg .free hmixP (by kernel_rfl) ?_
    refine G_q rfl (op_fieldAddr (o := 0) (by kernel_rfl) rfl ?_)
    refine G_r rfl (op_load_box1 (a := .exact (.int .i64 ((gi a1 0).1))) (by kernel_rfl) rfl rfl ?_)
    refine G_q rfl (op_fieldAddr (o := 1) (by kernel_rfl) rfl ?_)
    refine G_r rfl (op_load_box1 (a := .exact (.int .i64 ((gi a1 0).2.1))) (by kernel_rfl) rfl rfl ?_)
    refine G_q rfl (op_bld (c' := [.exact (.int .i64 ((gi a1 0).1)), .exact (.int .i64 ((gi a1 0).2.1)), .exact (.slice none 0 0), AV.exact (.pointer none)]) (CellsAll.cons rfl CellsOf.int (CellsAll.cons rfl CellsOf.int CellsAll.nil)) rfl (LEs.cons (AV.le_eq rfl) (LEs.cons (AV.le_eq rfl) (LEs.cons (AV.le_eq rfl) (LEs.cons (AV.le_eq rfl) LEs.nil)))) ?_)
    refine G_l rfl (op_boxI (c := [.exact (.int .i64 ((gi a1 0).1)), .exact (.int .i64 ((gi a1 0).2.1)), .exact (.slice none 0 0), AV.exact (.pointer none)]) rfl CellsOf.agg (LEs.cons (AV.le_eq rfl) (LEs.cons (AV.le_eq rfl) (LEs.cons (AV.le_eq rfl) (LEs.cons (AV.le_eq rfl) LEs.nil)))) (fun b7 => ?_))
    refine G_q rfl (op_assign (av := pA b7 0) rfl ?_)
    refine G_nil ?_
    refine kC_normal ?_
    refine k_join4_2 h (fun (xH_j8 : List (Int × Int × (List Int) × Int)) (x0_j8 : List (Int × Int)) (x1_j8 : List (Int × Int × Int)) (x7_2_j8 : List Int) (v7_2_j8 : Value) (bs : List Nat) => (AF.put (AF.put (AF.put AF0 (some 0) (.exact (.map (some w0)))) (some 1) (.row 3 c_api_TypeNode x1_j8)) (some 7) (pA b7 0))) (fun (xH_j8 : List (Int × Int × (List Int) × Int)) (x0_j8 : List (Int × Int)) (x1_j8 : List (Int × Int × Int)) (x7_2_j8 : List Int) (v7_2_j8 : Value) (bs : List Nat) => [hpI 72 (c_terms_Term bs) bs xH_j8, extI bs0 bs, mapI (fun _ => True) (fun k : Int => .int .i64 k) (fun x : Int => refA bs x) w0 x0_j8, vecT Tryd.prog 70 1 (c_P_terms_Term bs) v7_2_j8 x7_2_j8, boxI 72 b7 [.exact (.int .i64 ((gi a1 0).1)), .exact (.int .i64 ((gi a1 0).2.1)), .exact v7_2_j8, AV.exact (.pointer none)]]) (fun k8 h => ?_) (fun xH_j8 x0_j8 x1_j8 x7_2_j8 v7_2_j8 bs h => ?_)
    · refine k_seq ?_
      refine k_reg .free hmixP (by kernel_rfl) ?_
      refine G_q rfl (op_fieldAddr (o := 2) (by kernel_rfl) rfl ?_)
      refine G_r rfl (opR_f1 (op_load_box1 (a := .exact (.int .i64 ((gi a1 0).2.2))) (by kernel_rfl) rfl rfl ?_))
      refine G_q rfl (op_move (av := .exact (.int .i64 0)) rfl ?_)
      refine G_nil ?_
      refine kC_normal ?_
      refine k_block ?_
      refine k_loop5_2 (m_terms_Reader_Read_L2 self_terms_Reader_Read a1 k8) (m_terms_Reader_Read_B2 self_terms_Reader_Read a1 k8) (fun _ _ _ _ _ => rfl) (fun m _ _ _ _ _ => rfl) h (fun (xH_l2 : List (Int × Int × (List Int) × Int)) (x0_l2 : List (Int × Int)) (x1_l2 : List (Int × Int × Int)) (x7_2_l2 : List Int) (x44_l2 : Int) (v7_2_l2 : Value) (bs : List Nat) => (AF.put (AF.put (AF.put (AF.put (AF.put AF0 (some 0) (.exact (.map (some w0)))) (some 1) (.row 3 c_api_TypeNode x1_l2)) (some 7) (pA b7 0)) (some 43) (.exact (.int .i64 ((gi a1 0).2.2)))) (some 44) (.exact (.int .i64 x44_l2)))) (fun (xH_l2 : List (Int × Int × (List Int) × Int)) (x0_l2 : List (Int × Int)) (x1_l2 : List (Int × Int × Int)) (x7_2_l2 : List Int) (x44_l2 : Int) (v7_2_l2 : Value) (bs : List Nat) => [hpI 72 (c_terms_Term bs) bs xH_l2, extI bs0 bs, mapI (fun _ => True) (fun k : Int => .int .i64 k) (fun x : Int => refA bs x) w0 x0_l2, vecT Tryd.prog 70 1 (c_P_terms_Term bs) v7_2_l2 x7_2_l2, boxI 72 b7 [.exact (.int .i64 ((gi a1 0).1)), .exact (.int .i64 ((gi a1 0).2.1)), .exact v7_2_l2, AV.exact (.pointer none)]]) (.slice none 0 0) bs0 ?_ (fun rec2 xH_l2 x0_l2 x1_l2 x7_2_l2 x44_l2 v7_2_l2 bs h => ?_)
      · refine Sub.trans (SubU.to SubU.f1) ?_
        refine Sub.trans (SubU.to SubU.drop) ?_
        refine Sub.trans (SubU.to (SubU.nilT (P := Tryd.prog) (t := 70) (n := 1) (enc := (c_P_terms_Term bs0)))) ?_
        refine Sub.trans (SubU.to SubU.f1) ?_
        refine Sub.trans (SubU.to SubU.f1) ?_
        refine Sub.trans (SubU.to SubU.f2) ?_
        refine Sub.trans (SubU.to SubU.f4) ?_
        refine Sub.trans (SubU.to SubU.f4) ?_
        exact Sub.of_le (AF.le_put (AV.le_eq rfl) (AF.le_put (AV.le_eq rfl) (AF.le_put (AV.le_eq rfl) (AF.le_put (AV.le_eq rfl) (AF.le_put (AV.le_eq rfl) (AF.le_top _))))))
      · unfold m_terms_Reader_Read_B2 at h
        refine k_seq ?_
        refine k_reg .free hmixP (by kernel_rfl) ?_
        refine G_q rfl (op_lss rfl rfl ?_)
        refine G_nil ?_
        refine kC_normal ?_
        refine k_seq ?_
        refine k_cond_d (p := x44_l2 < ((gi a1 0).2.2)) rfl (fun hc => ?_) (fun hc => ?_)
        · replace h := ite_t h hc
          refine k_skip ?_
          refine kC_normal ?_
          refine k_seq ?_
          refine k_block ?_
          refine k_seq ?_
          refine k_reg .free hmixP (by kernel_rfl) ?_
          refine G_q rfl (op_assign (av := .exact (.pointer none)) rfl ?_)
          refine G_nil ?_
          refine kC_normal ?_
          refine k_seq ?_
          refine k_reg .free hmixP (by kernel_rfl) ?_
          refine G_q rfl (op_move (av := .exact (.map (some w0))) rfl ?_)
          refine G_q rfl (op_move (av := .row 3 c_api_TypeNode x1_l2) rfl ?_)
          obtain ⟨y25, hy25, h⟩ := bnd1_some h
          refine G_l rfl (opB_f2 (op_fun_2_1_3 (hself_terms_Reader_Read _ _ _ _ hy25) Tryd.func40 (by kernel_rfl) (LEs.cons (AV.le_eq rfl) (LEs.cons (AV.le_eq rfl) LEs.nil)) (fun bs2 => ?_)))
          refine G_sub rfl (SubU.useExt (List.Mem.tail _ (List.Mem.tail _ (List.Mem.head _))) (fun hx => SubU.trans SubU.f4 (SubU.trans (SubU.vecLe (enc' := c_P_terms_Term bs2) (fun x => LEs.cons (refA_ext hx) LEs.nil)) (SubU.trans SubU.f3 (SubU.trans SubU.f4 SubU.extTrans))))) ?_
          refine G_q rfl (op_move (av := .tup [refA bs2 y25.1, .row 3 c_api_TypeNode y25.2.1]) rfl ?_)
          refine G_q rfl (op_extract (av := refA bs2 y25.1) rfl rfl ?_)
          refine G_q rfl (op_extract (av := .row 3 c_api_TypeNode y25.2.1) rfl rfl ?_)
          refine G_q rfl (op_assign (av := refA bs2 y25.1) rfl ?_)
          refine G_q rfl (op_assign (av := .row 3 c_api_TypeNode y25.2.1) rfl ?_)
          refine G_nil ?_
          refine kC_normal ?_
          refine k_reg .free hmixP (by kernel_rfl) ?_
          refine G_q rfl (op_move (av := pA b7 0) rfl ?_)
          refine G_q rfl (op_move (av := pA b7 0) rfl ?_)
          refine G_q rfl (op_nilCheck rfl ?_)
          refine G_q rfl (op_fieldAddr (o := 2) (by kernel_rfl) rfl ?_)
          refine G_r rfl (opR_f4 (op_load_box1 (a := .exact v7_2_l2) (by kernel_rfl) rfl rfl ?_))
          refine G_q rfl (op_move (av := refA bs2 y25.1) rfl ?_)
          refine G_q rfl (op_litT (n := 1) (enc := (c_P_terms_Term bs2)) [y25.1] (CellsAll.cons rfl CellsOf.ref CellsAll.nil) rfl (by kernel_rfl) (LEss.cons (LEs.cons (AV.le_eq rfl) LEs.nil) LEss.nil) ?_)
          obtain ⟨n26, h⟩ := need_some h
          refine G_l rfl (opB_f1 (op_appT (by kernel_rfl) rfl rfl (oc_c_P_terms_Term bs2) n26 (fun v27 => ?_)))
          refine G_q rfl (op_nilCheck rfl ?_)
          refine G_q rfl (op_fieldAddr (o := 2) (by kernel_rfl) rfl ?_)
          refine G_l rfl (opB_sl (List.Mem.head _) (fun hsl => (opB_f4 (op_store_box (c' := [.exact v27]) (c3 := [.exact (.int .i64 ((gi a1 0).1)), .exact (.int .i64 ((gi a1 0).2.1)), .exact v27, AV.exact (.pointer none)]) rfl rfl (CellsOf.sl hsl) (LEs.cons (AV.le_eq rfl) LEs.nil) (OneC.sl hsl OneC.nil) (by kernel_rfl) (Nat.le_of_ble_eq_true rfl) rfl ?_))))
          refine G_nil ?_
          refine kB_normal ?_
          refine kC_normal ?_
          refine k_reg .free hmixP (by kernel_rfl) ?_
          refine G_q rfl (op_add rfl rfl rfl ?_)
          refine G_q rfl (op_move (av := .exact (.int .i64 (i64 (x44_l2 + 1)))) rfl ?_)
          refine G_nil ?_
          refine kI_normal ⟨_, _, _, _, _, v27, bs2, h, ?_⟩
          refine Sub.trans (SubU.to SubU.f1) ?_
          refine Sub.trans (SubU.to SubU.f3) ?_
          refine Sub.trans (SubU.to SubU.f3) ?_
          refine Sub.trans (SubU.to SubU.f4) ?_
          exact Sub.of_le (AF.le_put (AV.le_eq rfl) (AF.le_put (AV.le_eq rfl) (AF.le_put (AV.le_eq rfl) (AF.le_put (AV.le_eq rfl) (AF.le_put (AV.le_eq rfl) (AF.le_top _))))))
        · replace h := ite_f h hc
          refine k_exit ?_
          refine kC_exit ?_
          refine kI_exit ?_
          refine kB_exit ?_
          refine kI_normal ⟨_, _, _, _, v7_2_l2, bs, h, ?_⟩
          exact Sub.of_le (AF.le_put (AV.le_eq rfl) (AF.le_put (AV.le_eq rfl) (AF.le_put (AV.le_eq rfl) (AF.le_top _))))
    · refine awp_sub (SubU.to (SubU.trans SubU.f3 (SubU.trans SubU.f4 (SubU.trans SubU.f1 (SubU.trans (SubU.know (len_c_P_terms_Term bs)) (SubU.trans (SubU.knowC (j := 2) (c' := [.exact (.int .i64 ((gi a1 0).1)), .exact (.int .i64 ((gi a1 0).2.1)), .row 1 (c_P_terms_Term bs) x7_2_j8, AV.exact (.pointer none)]) rfl rfl) SubU.drop)))))) ?_
      refine awp_sub (SubU.to (SubU.trans (SubU.addHeap (s := 7) (x := ((gi a1 0).1, (gi a1 0).2.1, x7_2_j8, -1)) (enc' := c_terms_Term (bs ++ [b7])) rfl (LEs.cons (AV.le_eq rfl) (LEs.cons (AV.le_eq rfl) (LEs.cons (row_le (fun x => LEs.cons refA_mono LEs.nil) (fun _ => rfl)) (LEs.cons refA_nil LEs.nil)))) (le_c_Term (Ext.one _ _))) (SubU.trans SubU.f2 (SubU.trans (SubU.mapLe (vv' := fun x : Int => refA (bs ++ [b7]) x) (fun x => refA_mono)) (SubU.trans SubU.f2 (SubU.extLe (fun h => h.trans (Ext.one _ b7)))))))) ?_
      refine k_seq ?_
      refine k_reg .free hmixP (by kernel_rfl) ?_
      refine G_q rfl (op_move (av := refA (bs ++ [b7]) (List.length xH_j8 : Int)) rfl ?_)
      refine G_q rfl (op_move (av := .row 3 c_api_TypeNode x1_j8) rfl ?_)
      refine G_q rfl (op_assign (av := refA (bs ++ [b7]) (List.length xH_j8 : Int)) rfl ?_)
      refine G_q rfl (op_assign (av := .row 3 c_api_TypeNode x1_j8) rfl ?_)
      refine G_nil ?_
      refine kC_normal ?_
      refine k_ret ?_
      obtain rfl := Option.some.inj h
      refine kP_any (endN (af' := (AF.put (AF.put AF0 (some 4) (refA (bs ++ [b7]) (List.length xH_j8 : Int))) (some 5) (.row 3 c_api_TypeNode x1_j8))) (σ' := [mapI (fun _ => True) (fun k : Int => .int .i64 k) (fun x : Int => refA (bs ++ [b7]) x) w0 x0_j8, hpI 72 (c_terms_Term (bs ++ [b7])) (bs ++ [b7]) (xH_j8 ++ [((gi a1 0).1, (gi a1 0).2.1, x7_2_j8, -1)]), extI bs0 (bs ++ [b7])]) _ rfl ?_ ⟨bs ++ [b7], rfl, rfl⟩)
      refine Sub.trans (SubU.to SubU.f2) ?_
      refine Sub.trans (SubU.to SubU.f2) ?_
      exact Sub.of_le (AF.le_put (AV.le_eq rfl) (AF.le_put (AV.le_eq rfl) (AF.le_top _)))

theorem m_terms_Reader_Read_S_ok : ∀ n : Nat, (∀ ⦃w0 : Nat⦄ ⦃bs0 : List Nat⦄ (a0 : List (Int × Int)) (a1 : List (Int × Int × Int)) (a2 : List (Int × Int × (List Int) × Int)) (r : Int × (List (Int × Int × Int)) × (List (Int × Int)) × (List (Int × Int × (List Int) × Int))), m_terms_Reader_Read_S n a0 a1 a2 = some r → Fun Tryd.prog 40 [(.exact (.map (some w0))), (.row 3 c_api_TypeNode a1)] [mapI (fun _ => True) (fun k : Int => .int .i64 k) (fun x : Int => refA bs0 x) w0 a0, hpI 72 (c_terms_Term bs0) bs0 a2] (fun a s => ∃ bs : List Nat, a = .tup [refA bs r.1, .row 3 c_api_TypeNode r.2.1] ∧ s = [mapI (fun _ => True) (fun k : Int => .int .i64 k) (fun x : Int => refA bs x) w0 r.2.2.1, hpI 72 (c_terms_Term bs) bs r.2.2.2, extI bs0 bs]))
  | 0 => (fun _ _ _ _ _ _ h => by have h' : (none : Option _) = some _ := h; cases h')
  | n + 1 => by
    have ih := m_terms_Reader_Read_S_ok n
    exact fun w0 bs0 a0 a1 a2 r h => m_terms_Reader_Read_F_ok (m_terms_Reader_Read_S n) ih a0 a1 a2 r h
theorem m_terms_Reader_Read_ok {w0 : Nat} {bs0 : List Nat} (a0 : List (Int × Int)) (a1 : List (Int × Int × Int)) (a2 : List (Int × Int × (List Int) × Int)) (r : Int × (List (Int × Int × Int)) × (List (Int × Int)) × (List (Int × Int × (List Int) × Int))) (h : m_terms_Reader_Read a0 a1 a2 = some r) : Fun Tryd.prog 40 [(.exact (.map (some w0))), (.row 3 c_api_TypeNode a1)] [mapI (fun _ => True) (fun k : Int => .int .i64 k) (fun x : Int => refA bs0 x) w0 a0, hpI 72 (c_terms_Term bs0) bs0 a2] (fun a s => ∃ bs : List Nat, a = .tup [refA bs r.1, .row 3 c_api_TypeNode r.2.1] ∧ s = [mapI (fun _ => True) (fun k : Int => .int .i64 k) (fun x : Int => refA bs x) w0 r.2.2.1, hpI 72 (c_terms_Term bs) bs r.2.2.2, extI bs0 bs]) := (m_terms_Reader_Read_S_ok FU) a0 a1 a2 r h
end Go.Proofs.YtdfdjgolijckfaaDoor
/- A table of the library's as a thing in use; the contract of strconv.FormatInt, laid by program. -/
namespace Go.Proofs.YtdfdjgolijckfaaDoor
open Go.RowKit Go.Sort
set_option maxRecDepth 100000
def layf_ren : Go.Shelf.Ren := ⟨fun | 129 => 101 | 246 => 126 | 283 => 131 | 284 => 132 | 285 => 133 | 286 => 134 | 317 => 137 | 318 => 138 | 319 => 139 | 320 => 140 | 337 => 141 | 338 => 142 | n => n, fun | 0 => 0 | 2 => 2 | 3 => 3 | 4 => 4 | 5 => 5 | 9 => 9 | 20 => 20 | 37 => 152 | 46 => 116 | 51 => 139 | 53 => 141 | 171 => 176 | 173 => 178 | 212 => 184 | 213 => 185 | 232 => 187 | 233 => 188 | n => n, fun | 17 => 0 | 18 => 2 | 19 => 3 | n => n⟩
theorem layf : Go.Proofs.LaysM.n246 Tryd.prog layf_ren where
  mixed := by kernel_rfl
  f129 := Tryd.func101.trans (congrArg some (by kernel_rfl))
  f246 := Tryd.func126.trans (congrArg some (by kernel_rfl))
  f283 := Tryd.func131.trans (congrArg some (by kernel_rfl))
  f284 := Tryd.func132.trans (congrArg some (by kernel_rfl))
  f285 := Tryd.func133.trans (congrArg some (by kernel_rfl))
  f286 := Tryd.func134.trans (congrArg some (by kernel_rfl))
  f317 := Tryd.func137.trans (congrArg some (by kernel_rfl))
  f318 := Tryd.func138.trans (congrArg some (by kernel_rfl))
  f319 := Tryd.func139.trans (congrArg some (by kernel_rfl))
  f320 := Tryd.func140.trans (congrArg some (by kernel_rfl))
  f337 := Tryd.func141.trans (congrArg some (by kernel_rfl))
  f338 := Tryd.func142.trans (congrArg some (by kernel_rfl))
  t0 := Tryd.underlying0
  a0 := Tryd.isAgg0
  z0 := Tryd.sizeOf0
  v0 := Tryd.zeroValue0
  t2 := Tryd.underlying2
  a2 := Tryd.isAgg2
  z2 := Tryd.sizeOf2
  v2 := Tryd.zeroValue2
  t3 := Tryd.underlying3
  a3 := Tryd.isAgg3
  z3 := Tryd.sizeOf3
  v3 := Tryd.zeroValue3
  t4 := Tryd.underlying4
  a4 := Tryd.isAgg4
  z4 := Tryd.sizeOf4
  v4 := Tryd.zeroValue4
  t5 := Tryd.underlying5
  a5 := Tryd.isAgg5
  z5 := Tryd.sizeOf5
  v5 := Tryd.zeroValue5
  t9 := Tryd.underlying9
  a9 := Tryd.isAgg9
  z9 := Tryd.sizeOf9
  v9 := Tryd.zeroValue9
  t20 := Tryd.underlying20
  a20 := Tryd.isAgg20
  z20 := Tryd.sizeOf20
  v20 := Tryd.zeroValue20
  t37 := Tryd.underlying152
  a37 := Tryd.isAgg152
  z37 := Tryd.sizeOf152
  v37 := Tryd.zeroValue152
  t46 := Tryd.underlying116
  a46 := Tryd.isAgg116
  z46 := Tryd.sizeOf116
  v46 := Tryd.zeroValue116
  t51 := Tryd.underlying139
  a51 := Tryd.isAgg139
  z51 := Tryd.sizeOf139
  v51 := Tryd.zeroValue139
  t53 := Tryd.underlying141
  a53 := Tryd.isAgg141
  z53 := Tryd.sizeOf141
  v53 := Tryd.zeroValue141
  t171 := Tryd.underlying176
  a171 := Tryd.isAgg176
  z171 := Tryd.sizeOf176
  v171 := Tryd.zeroValue176
  t173 := Tryd.underlying178
  a173 := Tryd.isAgg178
  z173 := Tryd.sizeOf178
  v173 := Tryd.zeroValue178
  t212 := Tryd.underlying184
  a212 := Tryd.isAgg184
  z212 := Tryd.sizeOf184
  v212 := Tryd.zeroValue184
  t213 := Tryd.underlying185
  a213 := Tryd.isAgg185
  z213 := Tryd.sizeOf185
  t232 := Tryd.underlying187
  a232 := Tryd.isAgg187
  z232 := Tryd.sizeOf187
  v232 := Tryd.zeroValue187
  t233 := Tryd.underlying188
  a233 := Tryd.isAgg188
  z233 := Tryd.sizeOf188
  v233 := Tryd.zeroValue188
  g17 := by kernel_rfl
  g18 := by kernel_rfl
  g19 := by kernel_rfl
  i0 := by kernel_rfl
  i2 := by kernel_rfl
  i3 := by kernel_rfl
  i4 := by kernel_rfl
  i5 := by kernel_rfl
  i9 := by kernel_rfl
  i20 := by kernel_rfl
  i37 := by kernel_rfl
  i46 := by kernel_rfl
  i51 := by kernel_rfl
  i53 := by kernel_rfl
  i171 := by kernel_rfl
  i173 := by kernel_rfl
  i212 := by kernel_rfl
  i232 := by kernel_rfl
  i233 := by kernel_rfl
  m17 := by kernel_rfl
  m18 := by kernel_rfl
  m19 := by kernel_rfl
theorem keeps_of_grow {w : World} (k : Nat) (os : Array Obj) : Keeps noB w (grow (w.drewN k) os) :=
  ⟨rfl, rfl, rfl, by simp [grow, World.drewN], by simp [grow, World.drewN], fun i h _ => by simp [grow, World.drewN, Array.getElem?_append_left h]⟩
/-- A table stands in its variable. -/
def tabIP (P : Program) (g : Nat) (nm : String) (k : IntKind) (zs : List Int) (hg : P.globalNamed nm = some g) : Item where
  own := []
  p := fun M w => g < w.heap.size ∧ ¬ M g ∧ Lib.TabIs P w nm k zs
  keep := fun {M M' w w'} hk hm ⟨h1, h2, h3⟩ => ⟨Nat.lt_of_lt_of_le h1 hk.size, fun h => h2 (hm g h1 h), by
    unfold Lib.TabIs World.var? at h3 ⊢
    rw [hg] at h3 ⊢
    simp only [Option.bind_some] at h3 ⊢
    rw [hk.block g h1 (fun h => h2 h.1)]
    exact h3⟩
theorem tab_named : Tryd.prog.globalNamed "internal/strconv.uint64pow10" = some 0 := by kernel_rfl
def tabI : Item := tabIP Tryd.prog 0 "internal/strconv.uint64pow10" .u64 Lib.pow10Tab tab_named
theorem tabI_own : tabI.own = [] := rfl
theorem m_itoa_ok (a0 a1 : Int) (r : List UInt8) (h : m_itoa a0 a1 = some r) : Fun Tryd.prog 126 [.exact (.int .i64 a0), .exact (.int .i64 a1)] [tabI] (fun a s => a = .exact (.string (bs r)) ∧ s = [tabI]) := by
  unfold m_itoa at h
  obtain ⟨⟨h1, h2, h3⟩, h⟩ := need_some h
  cases h
  subst h1
  intro F w vs hg hfit
  match vs, hfit with
  | [v, s], ⟨e1, e2, _⟩ =>
  have e1 : v = .int .i64 a0 := e1
  have e2 : s = .int .i64 10 := e2
  subst e1 e2
  obtain ⟨t1, t2, t3⟩ := hg.items tabI List.mem_cons_self
  refine (Any.internal_strconv_FormatInt_10 layf a0 h2 h3 w t3).mono fun e w' ⟨he, k, os, hw⟩ => ?_
  have hk : Keeps noB w w' := by
    subst hw
    exact keeps_of_grow k os
  exact ⟨_, he, .exact (.string (bs (Lib.itoa a0))), [tabI], ⟨rfl, rfl⟩, hg.keep hk, hk.mono (fun _ _ h => h.elim), fun _ h _ => h, rfl⟩
/-- The table, from the row's condition. -/
theorem tab_laid {l : List (String × DataW Unit)} {W : World} (h : laidMetH Tryd.prog l W) (hl : (l.filter (fun x => x.1 == "internal/strconv.uint64pow10")) = [("internal/strconv.uint64pow10", Lib.tabData .u64 Lib.pow10Tab)]) : Lib.TabIs Tryd.prog W "internal/strconv.uint64pow10" .u64 Lib.pow10Tab ∧ 0 < W.heap.size := by
  have h1 := h.filter (fun x => x.1 == "internal/strconv.uint64pow10")
  rw [hl] at h1
  have h2 : laidMet Tryd.prog [("internal/strconv.uint64pow10", Lib.tabData .u64 Lib.pow10Tab)] W := (laidMetH_iff.1 h1).1
  have h3 := Lib.tabIs_of_head (g := 0) tab_named (t := 184) (by kernel_rfl) Tryd.underlying184 Tryd.underlying116 (by kernel_rfl) (by kernel_rfl) h2
  refine ⟨h3, ?_⟩
  unfold Lib.TabIs World.var? at h3
  rw [tab_named] at h3
  simp only [Option.bind_some] at h3
  rcases Nat.lt_or_ge 0 W.heap.size with h4 | h4
  · exact h4
  · rw [Array.getElem?_eq_none h4] at h3; cases h3
/-- The call of a function that reads the table. -/
theorem Fun.callT {f : FuncId} {args : List AV} {r : Value} (h : Fun Tryd.prog f args [tabI] (fun a s => a = .exact r ∧ s = [tabI])) {W : World} {vs : List Value} (hv : Fit noB W args vs) (hW : 0 < W.heap.size) (ht : Lib.TabIs Tryd.prog W "internal/strconv.uint64pow10" .u64 Lib.pow10Tab) : Calls Tryd.prog f vs.toArray W (fun e w' => e = .returned r ∧ Below W.heap.size W w') := by
  have hno : ∀ k, ¬ Items.own [tabI] k := fun k hk => by simp [Items.own, tabI_own] at hk
  have hb : ∀ k, ¬ both noB (Items.own [tabI]) k := fun k hk => hk.elim (fun h => h) (hno k)
  refine (h noB W vs ⟨fun _ hk => hk.elim, fun k hk => absurd hk (hno k), by simp [tabI_own], fun it hi => ?_⟩ (hv.keep (M' := both noB (Items.own [tabI])) (Keeps.refl _ _) (fun k _ hk => absurd hk (hb k)))).mono fun e w' hh => ?_
  · rw [List.mem_singleton.1 hi]
    exact ⟨hW, hb _, ht⟩
  · obtain ⟨v, e1, av, σ', ⟨h1, h2⟩, _, hk, _, hv⟩ := hh
    subst h1 h2
    exact ⟨by rw [e1]; exact congrArg _ hv, (hk.mono (fun k _ h => absurd h (hno k)) : Keeps noB W w').below⟩
end Go.Proofs.YtdfdjgolijckfaaDoor
/- Regions in whatever order in which two changes do not wait for each other: both orders are walked. -/
namespace Go.Proofs.YtdfdjgolijckfaaDoor
open Go.RowKit
section
variable {P : Program} {ops : Array Oper} {E : Env} {n : Nat} {af : AF} {σ : Items} {kp : Items}
def lexP (ops : Array Oper) (plan : List (Nat × Nat)) (lst : Array Bool) : List (Nat × Nat) → Array Bool → Bool
  | [], listed => decide (listed = lst)
  | (kd, k) :: rest, listed => Nat.beq (kindOf plan k) kd && (Nat.beq kd 0 || Nat.beq kd 1 || Nat.beq kd 4) && ((Region.ready .any ops listed).contains k && freeK ops plan listed k) && lexP ops plan lst rest (listed.setIfInBounds k true)
theorem anyK_pre {plan : List (Nat × Nat)} {K W : AF → Items → Prop} (m : Nat) (lst : Array Bool) (hbase : ∀ af σ, Down ops lst → W af σ → anyK P ops kp (kindOf plan) K m lst af σ) : ∀ (l : List (Nat × Nat)) (listed : Array Bool) (af : AF) (σ : Items), Down ops listed →
    lexP ops plan lst l listed = true → wpP P ops kp W l af σ → anyK P ops kp (kindOf plan) K (l.length + m) listed af σ
  | [], listed, af, σ, hD, hB, h => by
    have e : listed = lst := of_decide_eq_true hB
    subst e
    rw [List.length_nil, Nat.zero_add]
    exact hbase af σ hD h
  | (kd, k) :: l, listed, af, σ, hD, hB, h => by
    obtain ⟨o, h0, h⟩ := h
    simp only [lexP, Bool.and_eq_true, Bool.or_eq_true] at hB
    obtain ⟨⟨⟨hB0, hq0⟩, hr, hf⟩, hB2⟩ := hB
    have hkd : kindOf plan k = kd := Nat.eq_of_beq_eq_true hB0
    have hq : kd = 0 ∨ kd = 1 ∨ kd = 4 := by
      rcases hq0 with (h | h) | h
      · exact .inl (Nat.eq_of_beq_eq_true h)
      · exact .inr (.inl (Nat.eq_of_beq_eq_true h))
      · exact .inr (.inr (Nat.eq_of_beq_eq_true h))
    have hr' : k ∈ Region.ready .any ops listed := by simpa using hr
    have hy : ∃ av, YieldsK P ops kp (kindOf plan k) σ o av af ∧ wpP P ops kp W l (af.put o.dst av) σ := by
      rw [hkd]
      rcases h with ⟨h1, hkp, h2⟩ | ⟨h1, h2⟩
      · refine ⟨undefA, ?_, h2⟩
        unfold YieldsK
        split
        · exact .inl ⟨h1, rfl⟩
        · exact ⟨.inl ⟨h1, rfl⟩, hkp (.inr rfl)⟩
        · exact .inl ⟨h1, rfl⟩
      · rcases hq with rfl | rfl | rfl
        · obtain ⟨av, g1, g2⟩ := h2
          exact ⟨av, .inr ⟨h1, g1⟩, g2⟩
        · obtain ⟨av, g1, g2⟩ := h2
          exact ⟨av, .inr ⟨h1, g1⟩, g2⟩
        · obtain ⟨hkp, av, g1, g2⟩ := h2
          exact ⟨av, ⟨.inr ⟨h1, g1⟩, hkp⟩, g2⟩
    obtain ⟨av, hy, hK⟩ := hy
    rw [List.length_cons, Nat.succ_add]
    exact anyK_first (kinds := kindOf plan) h0 (by rw [hkd]; exact hq) (l.length + m) listed af σ hD (freeK_spec h0 hf) hr' hy (anyK_pre m lst hbase l _ _ σ (hD.step hr') hB2 hK)
theorem stepK_of_3 {i : Nat} {l : List (Nat × Nat)} {Kc K' : AF → Items → Prop} (hK : ∀ af σ, wpP P ops kp Kc l af σ → K' af σ) (h : wpP P ops kp Kc ((3, i) :: l) af σ) : stepK P ops kp 3 i K' af σ := by
  obtain ⟨o, h0, h⟩ := h
  refine stepK_3 ?_
  unfold stepA; simp only [h0]
  rcases h with ⟨h1, hkp, h2⟩ | ⟨h1, h2⟩
  · exact .inl ⟨h1, hkp (.inl rfl), hK _ _ h2⟩
  · obtain ⟨post, p1, p2⟩ := h2
    exact .inr ⟨h1, post, p1, fun av σ' hp => ⟨(p2 av σ' hp).1, hK _ _ (p2 av σ' hp).2⟩⟩
def lstOf (l0 : List (Nat × Nat)) (k : Nat) : Array Bool := l0.foldl (fun a p => a.setIfInBounds p.2 true) (Array.replicate k false)
def plan2B (l0 : List (Nat × Nat)) (x y : Nat) (rest : List (Nat × Nat)) (l : List Oper) (n : Nat) : Bool :=
  let plan := l0 ++ (3, x) :: (3, y) :: rest
  let lst := lstOf l0 l.length
  dstB l.toArray n && Nat.beq plan.length l.length && lexP l.toArray plan lst l0 (Array.replicate l.length false) && (Region.ready .any l.toArray lst == [x, y]) && Nat.beq (kindOf plan x) 3 && Nat.beq (kindOf plan y) 3 &&
    lexK l.toArray plan ((3, y) :: rest) (lst.setIfInBounds x true) && lexK l.toArray plan ((3, x) :: rest) (lst.setIfInBounds y true)
variable {ks : List KFr}
theorem k_plan2 (kp : Items) (l0 : List (Nat × Nat)) (x y : Nat) (rest : List (Nat × Nat)) {id : Nat} {l : List Oper} (hm : P.follows .mixedOrders = true) (hB : plan2B l0 x y rest l n = true)
    (h : wpP P l.toArray kp (fun af σ => wpP P l.toArray kp (den P E n ks .normal) ((3, x) :: (3, y) :: rest) af σ ∧ wpP P l.toArray kp (den P E n ks .normal) ((3, y) :: (3, x) :: rest) af σ) l0 af σ) : awp P E n (.region id l.toArray true) (den P E n ks) af σ := by
  simp only [plan2B, Bool.and_eq_true, beq_iff_eq] at hB
  obtain ⟨⟨⟨⟨⟨⟨⟨hd, hlen⟩, hP⟩, hR⟩, hx⟩, hy⟩, hX⟩, hY⟩ := hB
  intro a w hh
  refine wp_region_any hm ?_
  have hD : Down l.toArray (Array.replicate l.length false) := fun j o _ hj => by
    rw [Array.getD_eq_getD_getElem?, Array.getElem?_replicate] at hj
    split at hj <;> cases hj
  have hx : kindOf (l0 ++ (3, x) :: (3, y) :: rest) x = 3 := Nat.eq_of_beq_eq_true hx
  have hy : kindOf (l0 ++ (3, x) :: (3, y) :: rest) y = 3 := Nat.eq_of_beq_eq_true hy
  have h1 := anyA_of_anyK (kp := kp) _ _ _ _ (anyK_pre (plan := l0 ++ (3, x) :: (3, y) :: rest) (K := den P E n ks .normal) (rest.length + 1 + 1) (lstOf l0 l.length) (fun af σ hDl ⟨w1, w2⟩ => by
    refine ⟨fun h0 => (by rw [h0] at hR; cases hR), fun j hj => ?_⟩
    have hj' := hj
    rw [hR] at hj
    rcases List.mem_cons.1 hj with rfl | hj
    · rw [hx]
      exact ⟨stepK_of_3 (fun af σ h => anyK_of_lex ((3, y) :: rest) _ _ σ (hDl.step hj') hX h) w1, fun h4 => by cases h4⟩
    · obtain rfl := List.mem_singleton.1 hj
      rw [hy]
      exact ⟨stepK_of_3 (fun af σ h => anyK_of_lex ((3, x) :: rest) _ _ σ (hDl.step hj') hY h) w2, fun h4 => by cases h4⟩) l0 (Array.replicate l.length false) af σ hD hP h)
  have hl : l0.length + (rest.length + 1 + 1) = l.length := by
    have := Nat.eq_of_beq_eq_true hlen
    simpa using this
  rw [hl] at h1
  simpa using wpAny_of_anyA hd _ _ af σ a _ h1 hh.drew
end
section
variable {P : Program} {af : AF} {d : Option Tmp} {ty : TypeId} {pos : String} {after : Array Edge} {g : Option (Nat × Bool)} {ρ : Items}
theorem op_fun_5_2_5 {f : FuncId} {fn : Func} {args : List AV} {x0 x1 x2 x3 x4 : Item} {X0 X1 : Type} {A : X0 → X1 → AV} {s0 s1 s2 s3 s4 : X0 → X1 → Item} {xs : List Operand} {ats : Array TypeId} {K : AF → Items → Prop} (hp : Fun P f args [x0, x1, x2, x3, x4] (fun a s => ∃ v0 v1, a = A v0 v1 ∧ s = [s0 v0 v1, s1 v0 v1, s2 v0 v1, s3 v0 v1, s4 v0 v1])) (hf : P.funcs[f]? = some fn) (hb : (fn.body.isNone || fn.name == "runtime.NumGoroutine") = false)
    (hx : LEs (xs.map af.ev) args) (hk : ∀ v0 v1, K (af.put d (A v0 v1)) (s0 v0 v1 :: s1 v0 v1 :: s2 v0 v1 :: s3 v0 v1 :: s4 v0 v1 :: ρ)) : opB P ⟨d, .call { callee := .value (.func f), args := xs.toArray, argTypes := ats }, ty, pos, after, g⟩ af (x0 :: x1 :: x2 :: x3 :: x4 :: ρ) K :=
  op_funX (σ0 := [x0, x1, x2, x3, x4]) hp hf hb hx (fun av s' h => by
    obtain ⟨v0, v1, rfl, rfl⟩ := h
    exact hk v0 v1)
end
end Go.Proofs.YtdfdjgolijckfaaDoor
/- The functions compute their models, by program. -/
namespace Go.Proofs.YtdfdjgolijckfaaDoor
open Go.RowKit
attribute [local irreducible] AV.exact AV.top AV.row AV.ptr AV.agg AV.tup AV.eptr AV.fn AV.nilq AV.nilqn opA opB opM opR Quiet Loud Reads wpG awp den Sub SubU Pure Fun vecI vecT boxI CellsAll CellsOf OneC LEs LEss
set_option maxRecDepth 100000

set_option maxHeartbeats 4000000 in
theorem m_gen_New_ok (a0 : List Int) (r : ((List Int) × Int)) (h : m_gen_New a0 = some r) : Fun Tryd.prog 15 [(.row 1 c_int a0)] [] (fun a s => ∃ z0, a = pA z0 0 ∧ s = [boxI 84 z0 [.row 1 c_int r.1, .exact (.int .i64 r.2)]]) := by
  unfold m_gen_New at h
  refine fun_of_awp Tryd.func15 rfl Tryd.ntmps15 (by simp) rfl (res1 rfl) fun E hE => k_end ?_
  refine k_seq ?_
  refine k_reg .free hmixP (by kernel_rfl) ?_
  refine G_q rfl (op_assign (av := .exact (.pointer none)) rfl ?_)
  refine G_nil ?_
  refine kC_normal ?_
  refine k_seq ?_
  refine k_reg .free hmixP (by kernel_rfl) ?_
  refine G_q rfl (op_move (av := .row 1 c_int a0) rfl ?_)
  refine G_q rfl (op_bld (c' := c_cspcheckgen_Choices (a0, 0)) (CellsAll.cons rfl CellsOf.row CellsAll.nil) rfl (LEs.cons (AV.le_eq rfl) (LEs.cons (AV.le_eq rfl) LEs.nil)) ?_)
  refine G_l rfl (op_boxI (c := [.row 1 c_int ((a0, 0).1), .exact (.int .i64 ((a0, 0).2))]) rfl CellsOf.agg (LEs.cons (AV.le_eq rfl) (LEs.cons (AV.le_eq rfl) LEs.nil)) (fun b1 => ?_))
  refine G_q rfl (op_assign (av := pA b1 0) rfl ?_)
  refine G_nil ?_
  refine kC_normal ?_
  refine k_ret ?_
  obtain rfl := Option.some.inj h
  refine kP_any (endN (af' := (AF.put AF0 (some 2) (pA b1 0))) (σ' := [boxI 84 b1 [.row 1 c_int ((a0, 0).1), .exact (.int .i64 ((a0, 0).2))]]) _ rfl ?_ ⟨b1, rfl, rfl⟩)
  exact Sub.of_le (AF.le_put (AV.le_eq rfl) (AF.le_top _))
set_option maxHeartbeats 4000000 in
theorem m_help_Mod_ok (a0 : Int) (a1 : Int) (r : Int) (h : m_help_Mod a0 a1 = some r) : Pure Tryd.prog 56 [(.exact (.int .i64 a0)), (.exact (.int .i64 a1))] (.exact (.int .i64 r)) := by
  unfold m_help_Mod at h
  refine Pure.ofFun (fun_of_awp Tryd.func56 rfl Tryd.ntmps56 (by simp) rfl (res1 rfl) fun E hE => k_end ?_)
  refine k_seq ?_
  refine k_reg .free hmixP (by kernel_rfl) ?_
  refine G_q rfl (op_assign (av := .exact (.int .i64 0)) rfl ?_)
  refine G_nil ?_
  refine kC_normal ?_
  refine k_seq ?_
  refine k_reg .free hmixP (by kernel_rfl) ?_
  refine G_q rfl (op_move (av := .exact (.int .i64 a0)) rfl ?_)
  refine G_q rfl (op_convInt (k := .u64) (by kernel_rfl) rfl rfl ?_)
  refine G_q rfl (op_move (av := .exact (.int .i64 a1)) rfl ?_)
  refine G_q rfl (op_convInt (k := .u64) (by kernel_rfl) rfl rfl ?_)
  obtain ⟨n1, h⟩ := need_some h
  refine G_q rfl (op_rem rfl rfl n1 rfl ?_)
  refine G_q rfl (op_convInt (k := .i64) (by kernel_rfl) rfl rfl ?_)
  refine G_q rfl (op_assign (av := .exact (.int .i64 (i64 (Int.tmod (IntKind.u64.wrap (a0)) (IntKind.u64.wrap (a1)))))) rfl ?_)
  refine G_nil ?_
  refine kC_normal ?_
  refine k_ret ?_
  obtain rfl := Option.some.inj h
  refine kP_any (endN (af' := (AF.put AF0 (some 4) (.exact (.int .i64 (i64 (Int.tmod (IntKind.u64.wrap (a0)) (IntKind.u64.wrap (a1)))))))) (σ' := []) _ rfl ?_ ⟨rfl, rfl⟩)
  exact Sub.of_le (AF.le_put (AV.le_eq rfl) (AF.le_top _))
set_option maxHeartbeats 4000000 in
theorem m_gen_Choices_Next_ok {w0 : Nat} (a0 : (List Int) × Int) (a1 : Int) (r : Int × ((List Int) × Int)) (h : m_gen_Choices_Next a0 a1 = some r) : Fun Tryd.prog 24 [(pA w0 0), (.exact (.int .i64 a1))] [boxI 84 w0 [.row 1 c_int a0.1, .exact (.int .i64 a0.2)]] (fun a s => a = .exact (.int .i64 r.1) ∧ s = [boxI 84 w0 [.row 1 c_int r.2.1, .exact (.int .i64 r.2.2)]]) := by
  unfold m_gen_Choices_Next at h
  refine fun_of_awp Tryd.func24 rfl Tryd.ntmps24 (by simp) rfl (res1 rfl) fun E hE => k_end ?_
  refine k_seq ?_
  refine k_reg .free hmixP (by kernel_rfl) ?_
  refine G_q rfl (op_assign (av := .exact (.int .i64 0)) rfl ?_)
  refine G_nil ?_
  refine kC_normal ?_
  refine k_seq ?_
  refine k_seq ?_
  refine k_plan [] [(0, 0), (0, 1), (0, 2), (0, 4), (0, 5), (0, 6), (1, 3), (1, 7), (0, 8), (0, 9)] hmixP (by kernel_rfl) ?_
  refine P_q no34_0 rfl (op_move (av := pA w0 0) rfl ?_)
  refine P_q no34_0 rfl (op_nilCheck rfl ?_)
  refine P_q no34_0 rfl (op_fieldAddr (o := 1) (by kernel_rfl) rfl ?_)
  refine P_q no34_0 rfl (op_move (av := pA w0 0) rfl ?_)
  refine P_q no34_0 rfl (op_nilCheck rfl ?_)
  refine P_q no34_0 rfl (op_fieldAddr (o := 0) (by kernel_rfl) rfl ?_)
  refine P_r rfl (op_load_box1 (a := .exact (.int .i64 a0.2)) (by kernel_rfl) rfl rfl ?_)
  refine P_r rfl (op_load_box1 (a := .row 1 c_int a0.1) (by kernel_rfl) rfl rfl ?_)
  refine P_q no34_0 rfl (op_len_row (by kernel_rfl) rfl ?_)
  refine P_q no34_0 rfl (op_geq rfl rfl ?_)
  refine P_nil ?_
  refine kC_normal ?_
  refine k_cond_d (p := (List.length a0.1 : Int) ≤ a0.2) rfl (fun hc => ?_) (fun hc => ?_)
  · replace h := ite_t h hc
    refine k_seq ?_
    refine k_reg .free hmixP (by kernel_rfl) ?_
    refine G_q rfl (op_assign (av := .exact (.int .i64 0)) rfl ?_)
    refine G_nil ?_
    refine kC_normal ?_
    refine k_ret ?_
    refine kC_ret ?_
    obtain rfl := Option.some.inj h
    refine kP_any (endN (af' := (AF.put AF0 (some 4) (.exact (.int .i64 0)))) (σ' := [boxI 84 w0 [.row 1 c_int a0.1, .exact (.int .i64 a0.2)]]) _ rfl ?_ ⟨rfl, rfl⟩)
    exact Sub.of_le (AF.le_put (AV.le_eq rfl) (AF.le_top _))
  · replace h := ite_f h hc
    refine k_skip ?_
    refine kC_normal ?_
    refine k_seq ?_
    refine k_reg .free hmixP (by kernel_rfl) ?_
    refine G_q rfl (op_move (av := pA w0 0) rfl ?_)
    refine G_q rfl (op_nilCheck rfl ?_)
    refine G_q rfl (op_fieldAddr (o := 1) (by kernel_rfl) rfl ?_)
    refine G_r rfl (op_load_box1 (a := .exact (.int .i64 a0.2)) (by kernel_rfl) rfl rfl ?_)
    refine G_q rfl (op_add rfl rfl rfl ?_)
    refine G_q rfl (op_nilCheck rfl ?_)
    refine G_q rfl (op_fieldAddr (o := 1) (by kernel_rfl) rfl ?_)
    refine G_l rfl (op_store_box (c' := [.exact (.int .i64 (i64 (a0.2 + 1)))]) (c3 := [.row 1 c_int a0.1, .exact (.int .i64 (i64 (a0.2 + 1)))]) rfl rfl CellsOf.int (LEs.cons (AV.le_eq rfl) LEs.nil) (OneC.int OneC.nil) (by kernel_rfl) (Nat.le_of_ble_eq_true rfl) rfl ?_)
    refine G_nil ?_
    refine kC_normal ?_
    refine k_seq ?_
    refine k_plan [] [(0, 0), (0, 1), (0, 2), (0, 4), (0, 5), (0, 6), (0, 11), (1, 3), (1, 7), (0, 8), (0, 9), (0, 10), (0, 12), (0, 13)] hmixP (by kernel_rfl) ?_
    refine P_q no34_0 rfl (op_move (av := pA w0 0) rfl ?_)
    refine P_q no34_0 rfl (op_nilCheck rfl ?_)
    refine P_q no34_0 rfl (op_fieldAddr (o := 0) (by kernel_rfl) rfl ?_)
    refine P_q no34_0 rfl (op_move (av := pA w0 0) rfl ?_)
    refine P_q no34_0 rfl (op_nilCheck rfl ?_)
    refine P_q no34_0 rfl (op_fieldAddr (o := 1) (by kernel_rfl) rfl ?_)
    refine P_q no34_0 rfl (op_move (av := .exact (.int .i64 a1)) rfl ?_)
    refine P_r rfl (op_load_box1 (a := .row 1 c_int a0.1) (by kernel_rfl) rfl rfl ?_)
    refine P_r rfl (op_load_box1 (a := .exact (.int .i64 (i64 (a0.2 + 1)))) (by kernel_rfl) rfl rfl ?_)
    refine P_q no34_0 rfl (op_sub rfl rfl rfl ?_)
    obtain ⟨n1, h⟩ := need_some h
    refine P_q no34_0 rfl (op_index_row (by kernel_rfl) rfl rfl n1.1 n1.2 ?_)
    refine P_q no34_0 rfl (op_load1p (a := .exact (.int .i64 (gi a0.1 (i64 ((i64 (a0.2 + 1)) - 1))))) (by kernel_rfl) rfl rfl ?_)
    obtain ⟨y2, hy2, h⟩ := bnd1_some h
    refine P_q no34_0 rfl (op_pure (m_help_Mod_ok _ _ _ hy2) Tryd.func56 (by kernel_rfl) (LEs.cons (AV.le_eq rfl) (LEs.cons (AV.le_eq rfl) LEs.nil)) ?_)
    refine P_q no34_0 rfl (op_assign (av := .exact (.int .i64 y2)) rfl ?_)
    refine P_nil ?_
    refine kC_normal ?_
    refine k_ret ?_
    obtain rfl := Option.some.inj h
    refine kP_any (endN (af' := (AF.put AF0 (some 4) (.exact (.int .i64 y2)))) (σ' := [boxI 84 w0 [.row 1 c_int a0.1, .exact (.int .i64 (i64 (a0.2 + 1)))]]) _ rfl ?_ ⟨rfl, rfl⟩)
    exact Sub.of_le (AF.le_put (AV.le_eq rfl) (AF.le_top _))
set_option maxHeartbeats 4000000 in
theorem m_ref6_Make_ok (a0 : Int) (a1 : Int) (a2 : List (List (Int × Int × Int))) (r : (List (Int × Int × Int))) (h : m_ref6_Make a0 a1 a2 = some r) : Fun Tryd.prog 25 [(.exact (.int .i64 a0)), (.exact (.int .i64 a1)), (.row 1 c_L_api_TypeNode a2)] [] (fun a s => ∃ z0, a = .exact z0 ∧ s = [vecT Tryd.prog 22 3 c_api_TypeNode z0 r]) := by
  unfold m_ref6_Make at h
  refine fun_of_awp Tryd.func25 rfl Tryd.ntmps25 (by simp) rfl (res1 rfl) fun E hE => k_end ?_
  refine k_seq ?_
  refine k_reg .free hmixP (by kernel_rfl) ?_
  refine G_q rfl (op_assign (av := .exact (.slice none 0 0)) rfl ?_)
  refine G_nil ?_
  refine kC_normal ?_
  refine k_seq ?_
  refine k_reg .free hmixP (by kernel_rfl) ?_
  refine G_q rfl (op_move (av := .exact (.int .i64 a0)) rfl ?_)
  refine G_q rfl (op_move (av := .exact (.int .i64 a1)) rfl ?_)
  refine G_q rfl (op_move (av := .row 1 c_L_api_TypeNode a2) rfl ?_)
  refine G_q rfl (op_len_row (by kernel_rfl) rfl ?_)
  refine G_q rfl (op_bld (c' := c_api_TypeNode (a0, a1, (List.length a2 : Int))) (CellsAll.cons rfl CellsOf.int (CellsAll.cons rfl CellsOf.int (CellsAll.cons rfl CellsOf.int CellsAll.nil))) rfl (LEs.cons (AV.le_eq rfl) (LEs.cons (AV.le_eq rfl) (LEs.cons (AV.le_eq rfl) LEs.nil))) ?_)
  refine G_l rfl (op_litI (n := 3) (enc := c_api_TypeNode) [(a0, a1, (List.length a2 : Int))] (by kernel_rfl) (CellsAll.cons rfl CellsOf.agg CellsAll.nil) rfl (by kernel_rfl) (LEss.cons (LEs.cons (AV.le_eq rfl) (LEs.cons (AV.le_eq rfl) (LEs.cons (AV.le_eq rfl) LEs.nil))) LEss.nil) (fun v1 => ?_))
  refine G_q rfl (op_assign (av := .exact v1) rfl ?_)
  refine G_nil ?_
  refine kC_normal ?_
  refine k_join1_1 h (fun (x7_j2 : List (Int × Int × Int)) (v7_j2 : Value) => (AF.put AF0 (some 7) (.exact v7_j2))) (fun (x7_j2 : List (Int × Int × Int)) (v7_j2 : Value) => [vecT Tryd.prog 22 3 c_api_TypeNode v7_j2 x7_j2]) (fun k2 h => ?_) (fun x7_j2 v7_j2 h => ?_)
  · refine k_seq ?_
    refine k_reg .free hmixP (by kernel_rfl) ?_
    refine G_q rfl (op_assign (av := .exact (.int .i64 0)) rfl ?_)
    refine G_nil ?_
    refine kC_normal ?_
    refine k_block ?_
    refine k_loop2_1 (m_ref6_Make_L2 a2 k2) (m_ref6_Make_B2 a2 k2) (fun _ _ => rfl) (fun m _ _ => rfl) h (fun (x7_l2 : List (Int × Int × Int)) (x8_l2 : Int) (v7_l2 : Value) => (AF.put (AF.put (AF.put AF0 (some 2) (.row 1 c_L_api_TypeNode a2)) (some 7) (.exact v7_l2)) (some 8) (.exact (.int .i64 x8_l2)))) (fun (x7_l2 : List (Int × Int × Int)) (x8_l2 : Int) (v7_l2 : Value) => [vecT Tryd.prog 22 3 c_api_TypeNode v7_l2 x7_l2]) v1 ?_ (fun rec2 x7_l2 x8_l2 v7_l2 h => ?_)
    · exact Sub.of_le (AF.le_put (AV.le_eq rfl) (AF.le_put (AV.le_eq rfl) (AF.le_put (AV.le_eq rfl) (AF.le_top _))))
    · unfold m_ref6_Make_B2 at h
      refine k_seq ?_
      refine k_seq ?_
      refine k_reg .free hmixP (by kernel_rfl) ?_
      refine G_q rfl (op_move (av := .exact (.int .i64 x8_l2)) rfl ?_)
      refine G_q rfl (op_move (av := .row 1 c_L_api_TypeNode a2) rfl ?_)
      refine G_q rfl (op_len_row (by kernel_rfl) rfl ?_)
      refine G_q rfl (op_lss rfl rfl ?_)
      refine G_nil ?_
      refine kC_normal ?_
      refine k_cond_d (p := x8_l2 < (List.length a2 : Int)) rfl (fun hc => ?_) (fun hc => ?_)
      · replace h := ite_t h hc
        refine k_skip ?_
        refine kC_normal ?_
        refine k_seq ?_
        refine k_block ?_
        refine k_reg .free hmixP (by kernel_rfl) ?_
        refine G_q rfl (op_move (av := .exact v7_l2) rfl ?_)
        refine G_q rfl (op_move (av := .row 1 c_L_api_TypeNode a2) rfl ?_)
        refine G_q rfl (op_move (av := .exact (.int .i64 x8_l2)) rfl ?_)
        obtain ⟨n19, h⟩ := need_some h
        refine G_q rfl (op_index_row (by kernel_rfl) rfl rfl n19.1 n19.2 ?_)
        refine G_q rfl (op_load1p (a := .row 3 c_api_TypeNode (gi a2 x8_l2)) (by kernel_rfl) rfl rfl ?_)
        obtain ⟨n20, h⟩ := need_some h
        refine G_l rfl (op_appT (by kernel_rfl) rfl rfl oc_c_api_TypeNode n20 (fun v21 => ?_))
        refine G_q rfl (op_assign (av := .exact v21) rfl ?_)
        refine G_nil ?_
        refine kB_normal ?_
        refine kC_normal ?_
        refine k_reg .free hmixP (by kernel_rfl) ?_
        refine G_q rfl (op_move (av := .exact (.int .i64 x8_l2)) rfl ?_)
        refine G_q rfl (op_add rfl rfl rfl ?_)
        refine G_q rfl (op_assign (av := .exact (.int .i64 (i64 (x8_l2 + 1)))) rfl ?_)
        refine G_nil ?_
        refine kI_normal ⟨_, _, v21, h, ?_⟩
        exact Sub.of_le (AF.le_put (AV.le_eq rfl) (AF.le_put (AV.le_eq rfl) (AF.le_put (AV.le_eq rfl) (AF.le_top _))))
      · replace h := ite_f h hc
        refine k_exit ?_
        refine kC_exit ?_
        refine kI_exit ?_
        refine kB_exit ?_
        refine kI_normal ⟨_, v7_l2, h, ?_⟩
        exact Sub.of_le (AF.le_put (AV.le_eq rfl) (AF.le_top _))
  · refine k_seq ?_
    refine k_reg .free hmixP (by kernel_rfl) ?_
    refine G_q rfl (op_move (av := .exact v7_j2) rfl ?_)
    refine G_q rfl (op_assign (av := .exact v7_j2) rfl ?_)
    refine G_nil ?_
    refine kC_normal ?_
    refine k_ret ?_
    obtain rfl := Option.some.inj h
    refine kP_any (endN (af' := (AF.put AF0 (some 6) (.exact v7_j2))) (σ' := [vecT Tryd.prog 22 3 c_api_TypeNode v7_j2 x7_j2]) _ rfl ?_ ⟨v7_j2, rfl, rfl⟩)
    exact Sub.of_le (AF.le_put (AV.le_eq rfl) (AF.le_top _))
theorem m_ref6_Make_fz (a0 : Int) (a1 : Int) (a2 : List (List (Int × Int × Int))) (r : (List (Int × Int × Int))) (h : m_ref6_Make a0 a1 a2 = some r) : Pure Tryd.prog 25 [(.exact (.int .i64 a0)), (.exact (.int .i64 a1)), (.row 1 c_L_api_TypeNode a2)] (.row 3 c_api_TypeNode r) := Pure.ofOwn len_c_api_TypeNode (m_ref6_Make_ok a0 a1 a2 r h)
set_option maxHeartbeats 4000000 in
theorem m_law7_typ_F_ok {w0 : Nat} (self_law7_typ : ((List Int) × Int) → Int → Int → Option ((List (Int × Int × Int)) × ((List Int) × Int))) (hself_law7_typ : ∀ ⦃w0 : Nat⦄ (a0 : (List Int) × Int) (a1 : Int) (a2 : Int) (r : (List (Int × Int × Int)) × ((List Int) × Int)), self_law7_typ a0 a1 a2 = some r → Fun Tryd.prog 14 [(pA w0 0), (.exact (.int .i64 a1)), (.exact (.int .i64 a2))] [boxI 84 w0 [.row 1 c_int a0.1, .exact (.int .i64 a0.2)]] (fun a s => ∃ z0, a = .exact z0 ∧ s = [vecT Tryd.prog 22 3 c_api_TypeNode z0 r.1, boxI 84 w0 [.row 1 c_int r.2.1, .exact (.int .i64 r.2.2)]])) (a0 : (List Int) × Int) (a1 : Int) (a2 : Int) (r : (List (Int × Int × Int)) × ((List Int) × Int)) (h : m_law7_typ_F self_law7_typ a0 a1 a2 = some r) : Fun Tryd.prog 14 [(pA w0 0), (.exact (.int .i64 a1)), (.exact (.int .i64 a2))] [boxI 84 w0 [.row 1 c_int a0.1, .exact (.int .i64 a0.2)]] (fun a s => ∃ z0, a = .exact z0 ∧ s = [vecT Tryd.prog 22 3 c_api_TypeNode z0 r.1, boxI 84 w0 [.row 1 c_int r.2.1, .exact (.int .i64 r.2.2)]]) := by
  unfold m_law7_typ_F at h
  refine fun_of_awp Tryd.func14 rfl Tryd.ntmps14 (by simp) rfl (res1 rfl) fun E hE => k_end ?_
  refine k_seq ?_
  refine k_reg .free hmixP (by kernel_rfl) ?_
  refine G_q rfl (op_assign (av := .exact (.slice none 0 0)) rfl ?_)
  refine G_nil ?_
  refine kC_normal ?_
  refine k_seq ?_
  refine k_reg .free hmixP (by kernel_rfl) ?_
  refine G_q rfl (op_move (av := pA w0 0) rfl ?_)
  obtain ⟨y1, hy1, h⟩ := bnd1_some h
  refine G_l rfl (op_fun_1_0_1 (m_gen_Choices_Next_ok _ _ _ hy1) Tryd.func24 (by kernel_rfl) (LEs.cons (AV.le_eq rfl) (LEs.cons (AV.le_eq rfl) LEs.nil)) ?_)
  refine G_q rfl (op_assign (av := .exact (.int .i64 y1.1)) rfl ?_)
  refine G_nil ?_
  refine kC_normal ?_
  refine k_join1_0 h (fun (x7_j2 : Int) => (AF.put (AF.put (AF.put (AF.put AF0 (some 0) (pA w0 0)) (some 1) (.exact (.int .i64 a1))) (some 2) (.exact (.int .i64 a2))) (some 7) (.exact (.int .i64 x7_j2)))) (fun (x7_j2 : Int) => [boxI 84 w0 [.row 1 c_int y1.2.1, .exact (.int .i64 y1.2.2)]]) (fun k2 h => ?_) (fun x7_j2 h => ?_)
  · refine k_seq ?_
    refine k_reg .free hmixP (by kernel_rfl) ?_
    refine G_q rfl (op_move (av := .exact (.int .i64 a1)) rfl ?_)
    refine G_q rfl (op_leq rfl rfl ?_)
    refine G_nil ?_
    refine kC_normal ?_
    refine k_cond_d (p := a1 ≤ 1) rfl (fun hc => ?_) (fun hc => ?_)
    · replace h := ite_t h hc
      refine k_reg .free hmixP (by kernel_rfl) ?_
      refine G_q rfl (op_move (av := .exact (.int .i64 y1.1)) rfl ?_)
      refine G_q rfl (op_rem rfl rfl (by decide) rfl ?_)
      refine G_q rfl (op_assign (av := .exact (.int .i64 (Int.tmod y1.1 6))) rfl ?_)
      refine G_nil ?_
      refine kI_normal ⟨_, h, ?_⟩
      exact Sub.of_le (AF.le_put (AV.le_eq rfl) (AF.le_put (AV.le_eq rfl) (AF.le_put (AV.le_eq rfl) (AF.le_put (AV.le_eq rfl) (AF.le_top _)))))
    · replace h := ite_f h hc
      refine k_skip ?_
      refine kI_normal ⟨_, h, ?_⟩
      exact Sub.of_le (AF.le_put (AV.le_eq rfl) (AF.le_put (AV.le_eq rfl) (AF.le_put (AV.le_eq rfl) (AF.le_put (AV.le_eq rfl) (AF.le_top _)))))
  · refine k_seq ?_
    refine k_reg .free hmixP (by kernel_rfl) ?_
    refine G_q rfl (op_move (av := .exact (.int .i64 a1)) rfl ?_)
    refine G_q rfl (op_sub rfl rfl rfl ?_)
    refine G_q rfl (op_assign (av := .exact (.int .i64 (i64 (a1 - 1)))) rfl ?_)
    refine G_nil ?_
    refine kC_normal ?_
    refine k_seq ?_
    refine k_seq ?_
    refine k_reg .free hmixP (by kernel_rfl) ?_
    refine G_q rfl (op_move (av := .exact (.int .i64 x7_j2)) rfl ?_)
    refine G_nil ?_
    refine kC_normal ?_
    refine k_block ?_
    refine k_join1_0 h (fun (x18_j52 : Bool) => (AF.put (AF.put (AF.put (AF.put (AF.put AF0 (some 0) (pA w0 0)) (some 2) (.exact (.int .i64 a2))) (some 8) (.exact (.int .i64 (i64 (a1 - 1))))) (some 17) (.exact (.int .i64 x7_j2))) (some 18) (.exact (.bool x18_j52)))) (fun (x18_j52 : Bool) => [boxI 84 w0 [.row 1 c_int y1.2.1, .exact (.int .i64 y1.2.2)]]) (fun k52 h => ?_) (fun x18_j52 h => ?_)
    · refine k_seq ?_
      refine k_reg .free hmixP (by kernel_rfl) ?_
      refine G_q rfl (op_eql rfl rfl ?_)
      refine G_q rfl (op_assign (av := .exact (.bool (decide (x7_j2 = 0)))) rfl ?_)
      refine G_nil ?_
      refine kC_normal ?_
      refine k_cond_d (p := x7_j2 = 0) rfl (fun hc => ?_) (fun hc => ?_)
      · replace h := ite_t h hc
        refine k_skip ?_
        refine kI_normal ⟨_, h, ?_⟩
        exact Sub.of_le (AF.le_put (AV.le_eq rfl) (AF.le_put (AV.le_eq rfl) (AF.le_put (AV.le_eq rfl) (AF.le_put (AV.le_eq rfl) (AF.le_put (AV.le_eq rfl) (AF.le_top _))))))
      · replace h := ite_f h hc
        refine k_reg .free hmixP (by kernel_rfl) ?_
        refine G_q rfl (op_eql rfl rfl ?_)
        refine G_q rfl (op_assign (av := .exact (.bool (decide (x7_j2 = 1)))) rfl ?_)
        refine G_nil ?_
        refine kI_normal ⟨_, h, ?_⟩
        exact Sub.of_le (AF.le_put (AV.le_eq rfl) (AF.le_put (AV.le_eq rfl) (AF.le_put (AV.le_eq rfl) (AF.le_put (AV.le_eq rfl) (AF.le_put (AV.le_eq rfl) (AF.le_top _))))))
    · refine k_cond_b (c := x18_j52) rfl (fun hc => ?_) (fun hc => ?_)
      · replace h := ite_t h hc
        refine k_seq ?_
        refine k_seq ?_
        refine k_reg .free hmixP (by kernel_rfl) ?_
        refine G_q rfl (op_move (av := .exact (.int .i64 a2)) rfl ?_)
        refine G_q rfl (op_gtr rfl rfl ?_)
        refine G_nil ?_
        refine kC_normal ?_
        refine k_cond_d (p := 0 < a2) rfl (fun hc => ?_) (fun hc => ?_)
        · replace h := ite_t h hc
          refine k_seq ?_
          refine k_reg .free hmixP (by kernel_rfl) ?_
          refine G_q rfl (op_move (av := pA w0 0) rfl ?_)
          refine G_q rfl (op_move (av := .exact (.int .i64 a2)) rfl ?_)
          obtain ⟨y53, hy53, h⟩ := bnd1_some h
          refine G_l rfl (op_fun_1_0_1 (m_gen_Choices_Next_ok _ _ _ hy53) Tryd.func24 (by kernel_rfl) (LEs.cons (AV.le_eq rfl) (LEs.cons (AV.le_eq rfl) LEs.nil)) ?_)
          obtain ⟨y54, hy54, h⟩ := bnd1_some h
          refine G_l rfl (op_fun_0_1_1 (m_ref6_Make_ok _ _ _ _ hy54) Tryd.func25 (by kernel_rfl) (LEs.cons (AV.le_eq rfl) (LEs.cons (AV.le_eq rfl) (LEs.cons (row_nil (by decide)) LEs.nil))) (fun v55 => ?_))
          refine G_q rfl (op_assign (av := .exact v55) rfl ?_)
          refine G_nil ?_
          refine kC_normal ?_
          refine k_ret ?_
          refine kC_ret ?_
          refine kB_ret ?_
          refine kC_ret ?_
          obtain rfl := Option.some.inj h
          refine kP_any (endN (af' := (AF.put AF0 (some 6) (.exact v55))) (σ' := [vecT Tryd.prog 22 3 c_api_TypeNode v55 y54, boxI 84 w0 [.row 1 c_int y53.2.1, .exact (.int .i64 y53.2.2)]]) _ rfl ?_ ⟨v55, rfl, rfl⟩)
          exact Sub.of_le (AF.le_put (AV.le_eq rfl) (AF.le_top _))
        · replace h := ite_f h hc
          refine k_skip ?_
          refine kC_normal ?_
          refine k_seq ?_
          refine k_reg .free hmixP (by kernel_rfl) ?_
          obtain ⟨y56, hy56, h⟩ := bnd1_some h
          refine G_l rfl (op_fun_0_1_1 (m_ref6_Make_ok _ _ _ _ hy56) Tryd.func25 (by kernel_rfl) (LEs.cons (AV.le_eq rfl) (LEs.cons (AV.le_eq rfl) (LEs.cons (row_nil (by decide)) LEs.nil))) (fun v57 => ?_))
          refine G_q rfl (op_assign (av := .exact v57) rfl ?_)
          refine G_nil ?_
          refine kC_normal ?_
          refine k_ret ?_
          refine kB_ret ?_
          refine kC_ret ?_
          obtain rfl := Option.some.inj h
          refine kP_any (endN (af' := (AF.put AF0 (some 6) (.exact v57))) (σ' := [vecT Tryd.prog 22 3 c_api_TypeNode v57 y56, boxI 84 w0 [.row 1 c_int y1.2.1, .exact (.int .i64 y1.2.2)]]) _ rfl ?_ ⟨v57, rfl, rfl⟩)
          exact Sub.of_le (AF.le_put (AV.le_eq rfl) (AF.le_top _))
      · replace h := ite_f h hc
        refine k_seq ?_
        refine k_reg .free hmixP (by kernel_rfl) ?_
        refine G_q rfl (op_eql rfl rfl ?_)
        refine G_q rfl (op_assign (av := .exact (.bool (decide (x7_j2 = 2)))) rfl ?_)
        refine G_nil ?_
        refine kC_normal ?_
        refine k_cond_d (p := x7_j2 = 2) rfl (fun hc => ?_) (fun hc => ?_)
        · replace h := ite_t h hc
          refine k_seq ?_
          refine k_reg .free hmixP (by kernel_rfl) ?_
          obtain ⟨y58, hy58, h⟩ := bnd1_some h
          refine G_l rfl (op_fun_0_1_1 (m_ref6_Make_ok _ _ _ _ hy58) Tryd.func25 (by kernel_rfl) (LEs.cons (AV.le_eq rfl) (LEs.cons (AV.le_eq rfl) (LEs.cons (row_nil (by decide)) LEs.nil))) (fun v59 => ?_))
          refine G_q rfl (op_assign (av := .exact v59) rfl ?_)
          refine G_nil ?_
          refine kC_normal ?_
          refine k_ret ?_
          refine kB_ret ?_
          refine kC_ret ?_
          obtain rfl := Option.some.inj h
          refine kP_any (endN (af' := (AF.put AF0 (some 6) (.exact v59))) (σ' := [vecT Tryd.prog 22 3 c_api_TypeNode v59 y58, boxI 84 w0 [.row 1 c_int y1.2.1, .exact (.int .i64 y1.2.2)]]) _ rfl ?_ ⟨v59, rfl, rfl⟩)
          exact Sub.of_le (AF.le_put (AV.le_eq rfl) (AF.le_top _))
        · replace h := ite_f h hc
          refine k_seq ?_
          refine k_reg .free hmixP (by kernel_rfl) ?_
          refine G_q rfl (op_eql rfl rfl ?_)
          refine G_q rfl (op_assign (av := .exact (.bool (decide (x7_j2 = 3)))) rfl ?_)
          refine G_nil ?_
          refine kC_normal ?_
          refine k_cond_d (p := x7_j2 = 3) rfl (fun hc => ?_) (fun hc => ?_)
          · replace h := ite_t h hc
            refine k_seq ?_
            refine k_reg .free hmixP (by kernel_rfl) ?_
            refine G_q rfl (op_litT (n := 1) (enc := c_int) [4, 5] (CellsAll.cons rfl CellsOf.int (CellsAll.cons rfl CellsOf.int CellsAll.nil)) rfl (by kernel_rfl) (LEss.cons (LEs.cons (AV.le_eq rfl) LEs.nil) (LEss.cons (LEs.cons (AV.le_eq rfl) LEs.nil) LEss.nil)) ?_)
            refine G_q rfl (op_move (av := pA w0 0) rfl ?_)
            obtain ⟨y60, hy60, h⟩ := bnd1_some h
            refine G_l rfl (op_fun_1_0_1 (m_gen_Choices_Next_ok _ _ _ hy60) Tryd.func24 (by kernel_rfl) (LEs.cons (AV.le_eq rfl) (LEs.cons (AV.le_eq rfl) LEs.nil)) ?_)
            obtain ⟨n61, h⟩ := need_some h
            refine G_q rfl (op_index_row (by kernel_rfl) rfl rfl n61.1 n61.2 ?_)
            refine G_q rfl (op_load1p (a := .exact (.int .i64 (gi [4, 5] y60.1))) (by kernel_rfl) rfl rfl ?_)
            obtain ⟨y62, hy62, h⟩ := bnd1_some h
            refine G_l rfl (op_fun_0_1_1 (m_ref6_Make_ok _ _ _ _ hy62) Tryd.func25 (by kernel_rfl) (LEs.cons (AV.le_eq rfl) (LEs.cons (AV.le_eq rfl) (LEs.cons (row_nil (by decide)) LEs.nil))) (fun v63 => ?_))
            refine G_q rfl (op_assign (av := .exact v63) rfl ?_)
            refine G_nil ?_
            refine kC_normal ?_
            refine k_ret ?_
            refine kB_ret ?_
            refine kC_ret ?_
            obtain rfl := Option.some.inj h
            refine kP_any (endN (af' := (AF.put AF0 (some 6) (.exact v63))) (σ' := [vecT Tryd.prog 22 3 c_api_TypeNode v63 y62, boxI 84 w0 [.row 1 c_int y60.2.1, .exact (.int .i64 y60.2.2)]]) _ rfl ?_ ⟨v63, rfl, rfl⟩)
            exact Sub.of_le (AF.le_put (AV.le_eq rfl) (AF.le_top _))
          · replace h := ite_f h hc
            refine k_seq ?_
            refine k_reg .free hmixP (by kernel_rfl) ?_
            refine G_q rfl (op_eql rfl rfl ?_)
            refine G_q rfl (op_assign (av := .exact (.bool (decide (x7_j2 = 4)))) rfl ?_)
            refine G_nil ?_
            refine kC_normal ?_
            refine k_cond_d (p := x7_j2 = 4) rfl (fun hc => ?_) (fun hc => ?_)
            · replace h := ite_t h hc
              refine k_seq ?_
              refine k_reg .free hmixP (by kernel_rfl) ?_
              refine G_q rfl (op_move (av := pA w0 0) rfl ?_)
              obtain ⟨y64, hy64, h⟩ := bnd1_some h
              refine G_l rfl (op_fun_1_0_1 (m_gen_Choices_Next_ok _ _ _ hy64) Tryd.func24 (by kernel_rfl) (LEs.cons (AV.le_eq rfl) (LEs.cons (AV.le_eq rfl) LEs.nil)) ?_)
              obtain ⟨y65, hy65, h⟩ := bnd1_some h
              refine G_l rfl (op_fun_0_1_1 (m_ref6_Make_ok _ _ _ _ hy65) Tryd.func25 (by kernel_rfl) (LEs.cons (AV.le_eq rfl) (LEs.cons (AV.le_eq rfl) (LEs.cons (row_nil (by decide)) LEs.nil))) (fun v66 => ?_))
              refine G_q rfl (op_assign (av := .exact v66) rfl ?_)
              refine G_nil ?_
              refine kC_normal ?_
              refine k_ret ?_
              refine kB_ret ?_
              refine kC_ret ?_
              obtain rfl := Option.some.inj h
              refine kP_any (endN (af' := (AF.put AF0 (some 6) (.exact v66))) (σ' := [vecT Tryd.prog 22 3 c_api_TypeNode v66 y65, boxI 84 w0 [.row 1 c_int y64.2.1, .exact (.int .i64 y64.2.2)]]) _ rfl ?_ ⟨v66, rfl, rfl⟩)
              exact Sub.of_le (AF.le_put (AV.le_eq rfl) (AF.le_top _))
            · replace h := ite_f h hc
              refine k_join1_0 h (fun (x44_j67 : Bool) => (AF.put (AF.put (AF.put (AF.put (AF.put AF0 (some 0) (pA w0 0)) (some 2) (.exact (.int .i64 a2))) (some 8) (.exact (.int .i64 (i64 (a1 - 1))))) (some 17) (.exact (.int .i64 x7_j2))) (some 44) (.exact (.bool x44_j67)))) (fun (x44_j67 : Bool) => [boxI 84 w0 [.row 1 c_int y1.2.1, .exact (.int .i64 y1.2.2)]]) (fun k67 h => ?_) (fun x44_j67 h => ?_)
              · refine k_seq ?_
                refine k_reg .free hmixP (by kernel_rfl) ?_
                refine G_q rfl (op_eql rfl rfl ?_)
                refine G_q rfl (op_assign (av := .exact (.bool (decide (x7_j2 = 6)))) rfl ?_)
                refine G_nil ?_
                refine kC_normal ?_
                refine k_cond_d (p := x7_j2 = 6) rfl (fun hc => ?_) (fun hc => ?_)
                · replace h := ite_t h hc
                  refine k_skip ?_
                  refine kI_normal ⟨_, h, ?_⟩
                  exact Sub.of_le (AF.le_put (AV.le_eq rfl) (AF.le_put (AV.le_eq rfl) (AF.le_put (AV.le_eq rfl) (AF.le_put (AV.le_eq rfl) (AF.le_put (AV.le_eq rfl) (AF.le_top _))))))
                · replace h := ite_f h hc
                  refine k_reg .free hmixP (by kernel_rfl) ?_
                  refine G_q rfl (op_eql rfl rfl ?_)
                  refine G_q rfl (op_assign (av := .exact (.bool (decide (x7_j2 = 7)))) rfl ?_)
                  refine G_nil ?_
                  refine kI_normal ⟨_, h, ?_⟩
                  exact Sub.of_le (AF.le_put (AV.le_eq rfl) (AF.le_put (AV.le_eq rfl) (AF.le_put (AV.le_eq rfl) (AF.le_put (AV.le_eq rfl) (AF.le_put (AV.le_eq rfl) (AF.le_top _))))))
              · refine k_cond_b (c := x44_j67) rfl (fun hc => ?_) (fun hc => ?_)
                · replace h := ite_t h hc
                  refine k_seq ?_
                  refine k_plan [] [(0, 0), (0, 1), (0, 5), (0, 6), (0, 7), (2, 2), (0, 3), (0, 4), (2, 8), (0, 9), (2, 10), (0, 11)] hmixP (by kernel_rfl) ?_
                  refine P_q no34_0 rfl (op_litT (n := 1) (enc := c_int) [7, 8] (CellsAll.cons rfl CellsOf.int (CellsAll.cons rfl CellsOf.int CellsAll.nil)) rfl (by kernel_rfl) (LEss.cons (LEs.cons (AV.le_eq rfl) LEs.nil) (LEss.cons (LEs.cons (AV.le_eq rfl) LEs.nil) LEss.nil)) ?_)
                  refine P_q no34_0 rfl (op_move (av := pA w0 0) rfl ?_)
                  refine P_q no34_0 rfl (op_move (av := pA w0 0) rfl ?_)
                  refine P_q no34_0 rfl (op_move (av := .exact (.int .i64 (i64 (a1 - 1)))) rfl ?_)
                  refine P_q no34_0 rfl (op_move (av := .exact (.int .i64 a2)) rfl ?_)
                  obtain ⟨y68, hy68, h⟩ := bnd1_some h
                  refine P_l rfl (op_fun_1_0_1 (m_gen_Choices_Next_ok _ _ _ hy68) Tryd.func24 (by kernel_rfl) (LEs.cons (AV.le_eq rfl) (LEs.cons (AV.le_eq rfl) LEs.nil)) ?_)
                  obtain ⟨n69, h⟩ := need_some h
                  refine P_q no34_0 rfl (op_index_row (by kernel_rfl) rfl rfl n69.1 n69.2 ?_)
                  refine P_q no34_0 rfl (op_load1p (a := .exact (.int .i64 (gi [7, 8] y68.1))) (by kernel_rfl) rfl rfl ?_)
                  obtain ⟨y70, hy70, h⟩ := bnd1_some h
                  refine P_l rfl (opB_frz (t := 22) (n := 3) (enc := c_api_TypeNode) rfl len_c_api_TypeNode (op_fun_1_1_2 (hself_law7_typ _ _ _ _ hy70) Tryd.func14 (by kernel_rfl) (LEs.cons (AV.le_eq rfl) (LEs.cons (AV.le_eq rfl) (LEs.cons (AV.le_eq rfl) LEs.nil))) (fun v71 => ⟨v71, _, _, rfl, rfl, ?_⟩)))
                  refine P_q no34_0 rfl (op_litT (n := 1) (enc := c_L_api_TypeNode) [y70.1] (CellsAll.cons rfl CellsOf.row CellsAll.nil) rfl (by kernel_rfl) (LEss.cons (LEs.cons (AV.le_eq rfl) LEs.nil) LEss.nil) ?_)
                  obtain ⟨y72, hy72, h⟩ := bnd1_some h
                  refine P_l rfl (op_fun_0_1_1 (m_ref6_Make_ok _ _ _ _ hy72) Tryd.func25 (by kernel_rfl) (LEs.cons (AV.le_eq rfl) (LEs.cons (AV.le_eq rfl) (LEs.cons (AV.le_eq rfl) LEs.nil))) (fun v73 => ?_))
                  refine P_q no34_0 rfl (op_assign (av := .exact v73) rfl ?_)
                  refine P_nil ?_
                  refine kC_normal ?_
                  refine k_ret ?_
                  refine kB_ret ?_
                  refine kC_ret ?_
                  obtain rfl := Option.some.inj h
                  refine kP_any (endN (af' := (AF.put AF0 (some 6) (.exact v73))) (σ' := [vecT Tryd.prog 22 3 c_api_TypeNode v73 y72, boxI 84 w0 [.row 1 c_int y70.2.1, .exact (.int .i64 y70.2.2)]]) _ rfl ?_ ⟨v73, rfl, rfl⟩)
                  exact Sub.of_le (AF.le_put (AV.le_eq rfl) (AF.le_top _))
                · replace h := ite_f h hc
                  refine k_seq ?_
                  refine k_reg .free hmixP (by kernel_rfl) ?_
                  refine G_q rfl (op_eql rfl rfl ?_)
                  refine G_q rfl (op_assign (av := .exact (.bool (decide (x7_j2 = 8)))) rfl ?_)
                  refine G_nil ?_
                  refine kC_normal ?_
                  refine k_cond_d (p := x7_j2 = 8) rfl (fun hc => ?_) (fun hc => ?_)
                  · replace h := ite_t h hc
                    refine k_seq ?_
                    refine k_plan [] [(0, 0), (0, 1), (0, 5), (0, 6), (0, 7), (0, 9), (0, 10), (0, 11), (2, 2), (0, 3), (0, 4), (2, 8), (2, 12), (0, 13), (2, 14), (0, 15)] hmixP (by kernel_rfl) ?_
                    refine P_q no34_0 rfl (op_litT (n := 1) (enc := c_int) [9, 12, 13] (CellsAll.cons rfl CellsOf.int (CellsAll.cons rfl CellsOf.int (CellsAll.cons rfl CellsOf.int CellsAll.nil))) rfl (by kernel_rfl) (LEss.cons (LEs.cons (AV.le_eq rfl) LEs.nil) (LEss.cons (LEs.cons (AV.le_eq rfl) LEs.nil) (LEss.cons (LEs.cons (AV.le_eq rfl) LEs.nil) LEss.nil))) ?_)
                    refine P_q no34_0 rfl (op_move (av := pA w0 0) rfl ?_)
                    refine P_q no34_0 rfl (op_move (av := pA w0 0) rfl ?_)
                    refine P_q no34_0 rfl (op_move (av := .exact (.int .i64 (i64 (a1 - 1)))) rfl ?_)
                    refine P_q no34_0 rfl (op_move (av := .exact (.int .i64 a2)) rfl ?_)
                    refine P_q no34_0 rfl (op_move (av := pA w0 0) rfl ?_)
                    refine P_q no34_0 rfl (op_move (av := .exact (.int .i64 (i64 (a1 - 1)))) rfl ?_)
                    refine P_q no34_0 rfl (op_move (av := .exact (.int .i64 a2)) rfl ?_)
                    obtain ⟨y74, hy74, h⟩ := bnd1_some h
                    refine P_l rfl (op_fun_1_0_1 (m_gen_Choices_Next_ok _ _ _ hy74) Tryd.func24 (by kernel_rfl) (LEs.cons (AV.le_eq rfl) (LEs.cons (AV.le_eq rfl) LEs.nil)) ?_)
                    obtain ⟨n75, h⟩ := need_some h
                    refine P_q no34_0 rfl (op_index_row (by kernel_rfl) rfl rfl n75.1 n75.2 ?_)
                    refine P_q no34_0 rfl (op_load1p (a := .exact (.int .i64 (gi [9, 12, 13] y74.1))) (by kernel_rfl) rfl rfl ?_)
                    obtain ⟨y76, hy76, h⟩ := bnd1_some h
                    refine P_l rfl (opB_frz (t := 22) (n := 3) (enc := c_api_TypeNode) rfl len_c_api_TypeNode (op_fun_1_1_2 (hself_law7_typ _ _ _ _ hy76) Tryd.func14 (by kernel_rfl) (LEs.cons (AV.le_eq rfl) (LEs.cons (AV.le_eq rfl) (LEs.cons (AV.le_eq rfl) LEs.nil))) (fun v77 => ⟨v77, _, _, rfl, rfl, ?_⟩)))
                    obtain ⟨y78, hy78, h⟩ := bnd1_some h
                    refine P_l rfl (opB_frz (t := 22) (n := 3) (enc := c_api_TypeNode) rfl len_c_api_TypeNode (op_fun_1_1_2 (hself_law7_typ _ _ _ _ hy78) Tryd.func14 (by kernel_rfl) (LEs.cons (AV.le_eq rfl) (LEs.cons (AV.le_eq rfl) (LEs.cons (AV.le_eq rfl) LEs.nil))) (fun v79 => ⟨v79, _, _, rfl, rfl, ?_⟩)))
                    refine P_q no34_0 rfl (op_litT (n := 1) (enc := c_L_api_TypeNode) [y76.1, y78.1] (CellsAll.cons rfl CellsOf.row (CellsAll.cons rfl CellsOf.row CellsAll.nil)) rfl (by kernel_rfl) (LEss.cons (LEs.cons (AV.le_eq rfl) LEs.nil) (LEss.cons (LEs.cons (AV.le_eq rfl) LEs.nil) LEss.nil)) ?_)
                    obtain ⟨y80, hy80, h⟩ := bnd1_some h
                    refine P_l rfl (op_fun_0_1_1 (m_ref6_Make_ok _ _ _ _ hy80) Tryd.func25 (by kernel_rfl) (LEs.cons (AV.le_eq rfl) (LEs.cons (AV.le_eq rfl) (LEs.cons (AV.le_eq rfl) LEs.nil))) (fun v81 => ?_))
                    refine P_q no34_0 rfl (op_assign (av := .exact v81) rfl ?_)
                    refine P_nil ?_
                    refine kC_normal ?_
                    refine k_ret ?_
                    refine kB_ret ?_
                    refine kC_ret ?_
                    obtain rfl := Option.some.inj h
                    refine kP_any (endN (af' := (AF.put AF0 (some 6) (.exact v81))) (σ' := [vecT Tryd.prog 22 3 c_api_TypeNode v81 y80, boxI 84 w0 [.row 1 c_int y78.2.1, .exact (.int .i64 y78.2.2)]]) _ rfl ?_ ⟨v81, rfl, rfl⟩)
                    exact Sub.of_le (AF.le_put (AV.le_eq rfl) (AF.le_top _))
                  · replace h := ite_f h hc
                    refine k_join1_0 h (fun (x75_j82 : Bool) => (AF.put (AF.put (AF.put (AF.put (AF.put AF0 (some 0) (pA w0 0)) (some 2) (.exact (.int .i64 a2))) (some 8) (.exact (.int .i64 (i64 (a1 - 1))))) (some 17) (.exact (.int .i64 x7_j2))) (some 75) (.exact (.bool x75_j82)))) (fun (x75_j82 : Bool) => [boxI 84 w0 [.row 1 c_int y1.2.1, .exact (.int .i64 y1.2.2)]]) (fun k82 h => ?_) (fun x75_j82 h => ?_)
                    · refine k_seq ?_
                      refine k_reg .free hmixP (by kernel_rfl) ?_
                      refine G_q rfl (op_eql rfl rfl ?_)
                      refine G_q rfl (op_assign (av := .exact (.bool (decide (x7_j2 = 9)))) rfl ?_)
                      refine G_nil ?_
                      refine kC_normal ?_
                      refine k_cond_d (p := x7_j2 = 9) rfl (fun hc => ?_) (fun hc => ?_)
                      · replace h := ite_t h hc
                        refine k_skip ?_
                        refine kI_normal ⟨_, h, ?_⟩
                        exact Sub.of_le (AF.le_put (AV.le_eq rfl) (AF.le_put (AV.le_eq rfl) (AF.le_put (AV.le_eq rfl) (AF.le_put (AV.le_eq rfl) (AF.le_put (AV.le_eq rfl) (AF.le_top _))))))
                      · replace h := ite_f h hc
                        refine k_reg .free hmixP (by kernel_rfl) ?_
                        refine G_q rfl (op_eql rfl rfl ?_)
                        refine G_q rfl (op_assign (av := .exact (.bool (decide (x7_j2 = 10)))) rfl ?_)
                        refine G_nil ?_
                        refine kI_normal ⟨_, h, ?_⟩
                        exact Sub.of_le (AF.le_put (AV.le_eq rfl) (AF.le_put (AV.le_eq rfl) (AF.le_put (AV.le_eq rfl) (AF.le_put (AV.le_eq rfl) (AF.le_put (AV.le_eq rfl) (AF.le_top _))))))
                    · refine k_cond_b (c := x75_j82) rfl (fun hc => ?_) (fun hc => ?_)
                      · replace h := ite_t h hc
                        refine k_seq ?_
                        refine k_reg .free hmixP (by kernel_rfl) ?_
                        refine G_q rfl (op_move (av := pA w0 0) rfl ?_)
                        refine G_q rfl (op_move (av := .exact (.int .i64 (i64 (a1 - 1)))) rfl ?_)
                        refine G_q rfl (op_move (av := .exact (.int .i64 a2)) rfl ?_)
                        obtain ⟨y83, hy83, h⟩ := bnd1_some h
                        refine G_l rfl (op_fun_1_1_2 (hself_law7_typ _ _ _ _ hy83) Tryd.func14 (by kernel_rfl) (LEs.cons (AV.le_eq rfl) (LEs.cons (AV.le_eq rfl) (LEs.cons (AV.le_eq rfl) LEs.nil))) (fun v84 => ?_))
                        refine G_q rfl (op_move (av := pA w0 0) rfl ?_)
                        refine G_q rfl (op_move (av := .exact (.int .i64 (i64 (a1 - 1)))) rfl ?_)
                        refine G_q rfl (op_move (av := .exact (.int .i64 a2)) rfl ?_)
                        obtain ⟨y85, hy85, h⟩ := bnd1_some h
                        refine G_l rfl (opB_f1 (op_fun_1_1_2 (hself_law7_typ _ _ _ _ hy85) Tryd.func14 (by kernel_rfl) (LEs.cons (AV.le_eq rfl) (LEs.cons (AV.le_eq rfl) (LEs.cons (AV.le_eq rfl) LEs.nil))) (fun v86 => ?_)))
                        refine G_sub rfl (SubU.trans SubU.f2 (SubU.freezeT (s := 81) rfl len_c_api_TypeNode)) ?_
                        refine G_sub rfl (SubU.freezeT (s := 85) rfl len_c_api_TypeNode) ?_
                        refine G_q rfl (op_litT (n := 1) (enc := c_L_api_TypeNode) [y83.1, y85.1] (CellsAll.cons rfl CellsOf.row (CellsAll.cons rfl CellsOf.row CellsAll.nil)) rfl (by kernel_rfl) (LEss.cons (LEs.cons (AV.le_eq rfl) LEs.nil) (LEss.cons (LEs.cons (AV.le_eq rfl) LEs.nil) LEss.nil)) ?_)
                        obtain ⟨y87, hy87, h⟩ := bnd1_some h
                        refine G_l rfl (op_fun_0_1_1 (m_ref6_Make_ok _ _ _ _ hy87) Tryd.func25 (by kernel_rfl) (LEs.cons (AV.le_eq rfl) (LEs.cons (AV.le_eq rfl) (LEs.cons (AV.le_eq rfl) LEs.nil))) (fun v88 => ?_))
                        refine G_q rfl (op_assign (av := .exact v88) rfl ?_)
                        refine G_nil ?_
                        refine kC_normal ?_
                        refine k_ret ?_
                        refine kB_ret ?_
                        refine kC_ret ?_
                        obtain rfl := Option.some.inj h
                        refine kP_any (endN (af' := (AF.put AF0 (some 6) (.exact v88))) (σ' := [vecT Tryd.prog 22 3 c_api_TypeNode v88 y87, boxI 84 w0 [.row 1 c_int y85.2.1, .exact (.int .i64 y85.2.2)]]) _ rfl ?_ ⟨v88, rfl, rfl⟩)
                        exact Sub.of_le (AF.le_put (AV.le_eq rfl) (AF.le_top _))
                      · replace h := ite_f h hc
                        refine k_join1_0 h (fun (x88_j89 : Bool) => (AF.put (AF.put (AF.put (AF.put (AF.put AF0 (some 0) (pA w0 0)) (some 2) (.exact (.int .i64 a2))) (some 8) (.exact (.int .i64 (i64 (a1 - 1))))) (some 17) (.exact (.int .i64 x7_j2))) (some 88) (.exact (.bool x88_j89)))) (fun (x88_j89 : Bool) => [boxI 84 w0 [.row 1 c_int y1.2.1, .exact (.int .i64 y1.2.2)]]) (fun k89 h => ?_) (fun x88_j89 h => ?_)
                        · refine k_seq ?_
                          refine k_reg .free hmixP (by kernel_rfl) ?_
                          refine G_q rfl (op_eql rfl rfl ?_)
                          refine G_q rfl (op_assign (av := .exact (.bool (decide (x7_j2 = 11)))) rfl ?_)
                          refine G_nil ?_
                          refine kC_normal ?_
                          refine k_cond_d (p := x7_j2 = 11) rfl (fun hc => ?_) (fun hc => ?_)
                          · replace h := ite_t h hc
                            refine k_skip ?_
                            refine kI_normal ⟨_, h, ?_⟩
                            exact Sub.of_le (AF.le_put (AV.le_eq rfl) (AF.le_put (AV.le_eq rfl) (AF.le_put (AV.le_eq rfl) (AF.le_put (AV.le_eq rfl) (AF.le_put (AV.le_eq rfl) (AF.le_top _))))))
                          · replace h := ite_f h hc
                            refine k_reg .free hmixP (by kernel_rfl) ?_
                            refine G_q rfl (op_eql rfl rfl ?_)
                            refine G_q rfl (op_assign (av := .exact (.bool (decide (x7_j2 = 12)))) rfl ?_)
                            refine G_nil ?_
                            refine kI_normal ⟨_, h, ?_⟩
                            exact Sub.of_le (AF.le_put (AV.le_eq rfl) (AF.le_put (AV.le_eq rfl) (AF.le_put (AV.le_eq rfl) (AF.le_put (AV.le_eq rfl) (AF.le_put (AV.le_eq rfl) (AF.le_top _))))))
                        · refine k_cond_b (c := x88_j89) rfl (fun hc => ?_) (fun hc => ?_)
                          · replace h := ite_t h hc
                            refine k_seq ?_
                            refine k_reg .free hmixP (by kernel_rfl) ?_
                            refine G_q rfl (op_move (av := pA w0 0) rfl ?_)
                            refine G_q rfl (op_move (av := .exact (.int .i64 (i64 (a1 - 1)))) rfl ?_)
                            refine G_q rfl (op_move (av := .exact (.int .i64 a2)) rfl ?_)
                            obtain ⟨y90, hy90, h⟩ := bnd1_some h
                            refine G_l rfl (op_fun_1_1_2 (hself_law7_typ _ _ _ _ hy90) Tryd.func14 (by kernel_rfl) (LEs.cons (AV.le_eq rfl) (LEs.cons (AV.le_eq rfl) (LEs.cons (AV.le_eq rfl) LEs.nil))) (fun v91 => ?_))
                            refine G_q rfl (op_move (av := pA w0 0) rfl ?_)
                            refine G_q rfl (op_move (av := .exact (.int .i64 (i64 (a1 - 1)))) rfl ?_)
                            refine G_q rfl (op_move (av := .exact (.int .i64 a2)) rfl ?_)
                            obtain ⟨y92, hy92, h⟩ := bnd1_some h
                            refine G_l rfl (opB_f1 (op_fun_1_1_2 (hself_law7_typ _ _ _ _ hy92) Tryd.func14 (by kernel_rfl) (LEs.cons (AV.le_eq rfl) (LEs.cons (AV.le_eq rfl) (LEs.cons (AV.le_eq rfl) LEs.nil))) (fun v93 => ?_)))
                            refine G_sub rfl (SubU.trans SubU.f2 (SubU.freezeT (s := 94) rfl len_c_api_TypeNode)) ?_
                            refine G_sub rfl (SubU.freezeT (s := 98) rfl len_c_api_TypeNode) ?_
                            refine G_q rfl (op_litT (n := 1) (enc := c_L_api_TypeNode) [y90.1, y92.1] (CellsAll.cons rfl CellsOf.row (CellsAll.cons rfl CellsOf.row CellsAll.nil)) rfl (by kernel_rfl) (LEss.cons (LEs.cons (AV.le_eq rfl) LEs.nil) (LEss.cons (LEs.cons (AV.le_eq rfl) LEs.nil) LEss.nil)) ?_)
                            obtain ⟨y94, hy94, h⟩ := bnd1_some h
                            refine G_l rfl (op_fun_0_1_1 (m_ref6_Make_ok _ _ _ _ hy94) Tryd.func25 (by kernel_rfl) (LEs.cons (AV.le_eq rfl) (LEs.cons (AV.le_eq rfl) (LEs.cons (AV.le_eq rfl) LEs.nil))) (fun v95 => ?_))
                            refine G_q rfl (op_assign (av := .exact v95) rfl ?_)
                            refine G_nil ?_
                            refine kC_normal ?_
                            refine k_ret ?_
                            refine kB_ret ?_
                            refine kC_ret ?_
                            obtain rfl := Option.some.inj h
                            refine kP_any (endN (af' := (AF.put AF0 (some 6) (.exact v95))) (σ' := [vecT Tryd.prog 22 3 c_api_TypeNode v95 y94, boxI 84 w0 [.row 1 c_int y92.2.1, .exact (.int .i64 y92.2.2)]]) _ rfl ?_ ⟨v95, rfl, rfl⟩)
                            exact Sub.of_le (AF.le_put (AV.le_eq rfl) (AF.le_top _))
                          · replace h := ite_f h hc
                            refine k_seq ?_
                            refine k_reg .free hmixP (by kernel_rfl) ?_
                            refine G_q rfl (op_eql rfl rfl ?_)
                            refine G_q rfl (op_assign (av := .exact (.bool (decide (x7_j2 = 13)))) rfl ?_)
                            refine G_nil ?_
                            refine kC_normal ?_
                            refine k_cond_d (p := x7_j2 = 13) rfl (fun hc => ?_) (fun hc => ?_)
                            · replace h := ite_t h hc
                              refine k_seq ?_
                              refine k_reg .free hmixP (by kernel_rfl) ?_
                              refine G_q rfl (op_move (av := pA w0 0) rfl ?_)
                              refine G_q rfl (op_move (av := .exact (.int .i64 (i64 (a1 - 1)))) rfl ?_)
                              refine G_q rfl (op_move (av := .exact (.int .i64 a2)) rfl ?_)
                              obtain ⟨y96, hy96, h⟩ := bnd1_some h
                              refine G_l rfl (op_fun_1_1_2 (hself_law7_typ _ _ _ _ hy96) Tryd.func14 (by kernel_rfl) (LEs.cons (AV.le_eq rfl) (LEs.cons (AV.le_eq rfl) (LEs.cons (AV.le_eq rfl) LEs.nil))) (fun v97 => ?_))
                              refine G_sub rfl (SubU.freezeT (s := 106) rfl len_c_api_TypeNode) ?_
                              refine G_q rfl (op_litT (n := 1) (enc := c_L_api_TypeNode) [y96.1] (CellsAll.cons rfl CellsOf.row CellsAll.nil) rfl (by kernel_rfl) (LEss.cons (LEs.cons (AV.le_eq rfl) LEs.nil) LEss.nil) ?_)
                              obtain ⟨y98, hy98, h⟩ := bnd1_some h
                              refine G_l rfl (op_fun_0_1_1 (m_ref6_Make_ok _ _ _ _ hy98) Tryd.func25 (by kernel_rfl) (LEs.cons (AV.le_eq rfl) (LEs.cons (AV.le_eq rfl) (LEs.cons (AV.le_eq rfl) LEs.nil))) (fun v99 => ?_))
                              refine G_q rfl (op_assign (av := .exact v99) rfl ?_)
                              refine G_nil ?_
                              refine kC_normal ?_
                              refine k_ret ?_
                              refine kB_ret ?_
                              refine kC_ret ?_
                              obtain rfl := Option.some.inj h
                              refine kP_any (endN (af' := (AF.put AF0 (some 6) (.exact v99))) (σ' := [vecT Tryd.prog 22 3 c_api_TypeNode v99 y98, boxI 84 w0 [.row 1 c_int y96.2.1, .exact (.int .i64 y96.2.2)]]) _ rfl ?_ ⟨v99, rfl, rfl⟩)
                              exact Sub.of_le (AF.le_put (AV.le_eq rfl) (AF.le_top _))
                            · replace h := ite_f h hc
                              refine k_skip ?_
                              refine kB_normal ?_
                              refine kC_normal ?_
                              refine k_seq ?_
                              refine k_reg .free hmixP (by kernel_rfl) ?_
                              obtain ⟨y100, hy100, h⟩ := bnd1_some h
                              refine G_l rfl (op_fun_0_1_1 (m_ref6_Make_ok _ _ _ _ hy100) Tryd.func25 (by kernel_rfl) (LEs.cons (AV.le_eq rfl) (LEs.cons (AV.le_eq rfl) (LEs.cons (row_nil (by decide)) LEs.nil))) (fun v101 => ?_))
                              refine G_q rfl (op_assign (av := .exact v101) rfl ?_)
                              refine G_nil ?_
                              refine kC_normal ?_
                              refine k_ret ?_
                              obtain rfl := Option.some.inj h
                              refine kP_any (endN (af' := (AF.put AF0 (some 6) (.exact v101))) (σ' := [vecT Tryd.prog 22 3 c_api_TypeNode v101 y100, boxI 84 w0 [.row 1 c_int y1.2.1, .exact (.int .i64 y1.2.2)]]) _ rfl ?_ ⟨v101, rfl, rfl⟩)
                              exact Sub.of_le (AF.le_put (AV.le_eq rfl) (AF.le_top _))
set_option maxHeartbeats 4000000 in
theorem m_law7_typ_S_ok : ∀ n : Nat, (∀ ⦃w0 : Nat⦄ (a0 : (List Int) × Int) (a1 : Int) (a2 : Int) (r : (List (Int × Int × Int)) × ((List Int) × Int)), m_law7_typ_S n a0 a1 a2 = some r → Fun Tryd.prog 14 [(pA w0 0), (.exact (.int .i64 a1)), (.exact (.int .i64 a2))] [boxI 84 w0 [.row 1 c_int a0.1, .exact (.int .i64 a0.2)]] (fun a s => ∃ z0, a = .exact z0 ∧ s = [vecT Tryd.prog 22 3 c_api_TypeNode z0 r.1, boxI 84 w0 [.row 1 c_int r.2.1, .exact (.int .i64 r.2.2)]]))
  | 0 => (fun _ _ _ _ _ h => by have h' : (none : Option _) = some _ := h; cases h')
  | n + 1 => by
    have ih := m_law7_typ_S_ok n
    exact fun w0 a0 a1 a2 r h => m_law7_typ_F_ok (m_law7_typ_S n) ih a0 a1 a2 r h
theorem m_law7_typ_ok {w0 : Nat} (a0 : (List Int) × Int) (a1 : Int) (a2 : Int) (r : (List (Int × Int × Int)) × ((List Int) × Int)) (h : m_law7_typ a0 a1 a2 = some r) : Fun Tryd.prog 14 [(pA w0 0), (.exact (.int .i64 a1)), (.exact (.int .i64 a2))] [boxI 84 w0 [.row 1 c_int a0.1, .exact (.int .i64 a0.2)]] (fun a s => ∃ z0, a = .exact z0 ∧ s = [vecT Tryd.prog 22 3 c_api_TypeNode z0 r.1, boxI 84 w0 [.row 1 c_int r.2.1, .exact (.int .i64 r.2.2)]]) := (m_law7_typ_S_ok FU) a0 a1 a2 r h
set_option maxHeartbeats 4000000 in
theorem m_types_formed_ok (a0 : Int × Int × Int) (r : Bool) (h : m_types_formed a0 = some r) : Pure Tryd.prog 83 [(.agg (c_api_TypeNode a0))] (.exact (.bool r)) := by
  unfold m_types_formed at h
  refine Pure.ofFun (fun_of_awp Tryd.func83 rfl Tryd.ntmps83 (by simp) rfl (res1 rfl) fun E hE => k_end ?_)
  refine k_seq ?_
  refine k_reg .free hmixP (by kernel_rfl) ?_
  refine G_q rfl (op_box (c := c_api_TypeNode a0) rfl CellsOf.agg ?_)
  refine G_q rfl (op_assign (av := .exact (.bool false)) rfl ?_)
  refine G_nil ?_
  refine kC_normal ?_
  refine k_seq ?_
  refine k_reg .free hmixP (by kernel_rfl) ?_
  refine G_q rfl (op_assign (av := .exact (.int .i64 0)) rfl ?_)
  refine G_q rfl (op_assign (av := .exact (.int .i64 0)) rfl ?_)
  refine G_nil ?_
  refine kC_normal ?_
  refine k_join2_0 h (fun (x3_j1 : Int) (x4_j1 : Int) => (AF.put (AF.put (AF.put AF0 (some 1) (.ptr (c_api_TypeNode a0))) (some 3) (.exact (.int .i64 x3_j1))) (some 4) (.exact (.int .i64 x4_j1)))) (fun (x3_j1 : Int) (x4_j1 : Int) => []) (fun k1 h => ?_) (fun x3_j1 x4_j1 h => ?_)
  · refine k_seq ?_
    refine k_reg .free hmixP (by kernel_rfl) ?_
    refine G_q rfl (op_fieldAddr_ptr (o := 0) (c' := (List.drop 0 (c_api_TypeNode a0))) (by kernel_rfl) rfl rfl ?_)
    refine G_q rfl (op_load1p (a := .exact (.int .i64 a0.1)) (by kernel_rfl) rfl rfl ?_)
    refine G_nil ?_
    refine kC_normal ?_
    refine k_block ?_
    refine k_join1_0 h (fun (x7_j7 : Bool) => (AF.put (AF.put (AF.put (AF.put (AF.put AF0 (some 1) (.ptr (c_api_TypeNode a0))) (some 3) (.exact (.int .i64 0))) (some 4) (.exact (.int .i64 0))) (some 6) (.exact (.int .i64 a0.1))) (some 7) (.exact (.bool x7_j7)))) (fun (x7_j7 : Bool) => []) (fun k7 h => ?_) (fun x7_j7 h => ?_)
    · refine k_seq ?_
      refine k_reg .free hmixP (by kernel_rfl) ?_
      refine G_q rfl (op_eql rfl rfl ?_)
      refine G_q rfl (op_assign (av := .exact (.bool (decide (a0.1 = 1)))) rfl ?_)
      refine G_nil ?_
      refine kC_normal ?_
      refine k_cond_d (p := a0.1 = 1) rfl (fun hc => ?_) (fun hc => ?_)
      · replace h := ite_t h hc
        refine k_skip ?_
        refine kI_normal ⟨_, h, ?_⟩
        exact Sub.of_le (AF.le_put (AV.le_eq rfl) (AF.le_put (AV.le_eq rfl) (AF.le_put (AV.le_eq rfl) (AF.le_put (AV.le_eq rfl) (AF.le_put (AV.le_eq rfl) (AF.le_top _))))))
      · replace h := ite_f h hc
        refine k_reg .free hmixP (by kernel_rfl) ?_
        refine G_q rfl (op_eql rfl rfl ?_)
        refine G_q rfl (op_assign (av := .exact (.bool (decide (a0.1 = 6)))) rfl ?_)
        refine G_nil ?_
        refine kI_normal ⟨_, h, ?_⟩
        exact Sub.of_le (AF.le_put (AV.le_eq rfl) (AF.le_put (AV.le_eq rfl) (AF.le_put (AV.le_eq rfl) (AF.le_put (AV.le_eq rfl) (AF.le_put (AV.le_eq rfl) (AF.le_top _))))))
    · refine k_cond_b (c := x7_j7) rfl (fun hc => ?_) (fun hc => ?_)
      · replace h := ite_t h hc
        refine k_join1_0 h (fun (x2_j8 : Bool) => (AF.put AF0 (some 2) (.exact (.bool x2_j8)))) (fun (x2_j8 : Bool) => []) (fun k8 h => ?_) (fun x2_j8 h => ?_)
        · refine k_reg .free hmixP (by kernel_rfl) ?_
          refine G_q rfl (op_fieldAddr_ptr (o := 2) (c' := (List.drop 2 (c_api_TypeNode a0))) (by kernel_rfl) rfl rfl ?_)
          refine G_q rfl (op_load1p (a := .exact (.int .i64 a0.2.2)) (by kernel_rfl) rfl rfl ?_)
          refine G_q rfl (op_eql rfl rfl ?_)
          refine G_q rfl (op_move (av := .exact (.bool (decide (a0.2.2 = 0)))) rfl ?_)
          refine G_split (p := a0.2.2 = 0) 13 rfl (fun hc => ?_) (fun hc => ?_)
          · replace h := ite_t h hc
            refine Gy_q rfl rfl rfl (op_fieldAddr_ptr (o := 1) (c' := (List.drop 1 (c_api_TypeNode a0))) (by kernel_rfl) rfl rfl ?_)
            refine Gy_q rfl rfl rfl (op_load1p (a := .exact (.int .i64 a0.2.1)) (by kernel_rfl) rfl rfl ?_)
            refine Gy_q rfl rfl rfl (op_geq rfl rfl ?_)
            refine G_q rfl (op_pick_t rfl (av := .exact (.bool (decide (0 ≤ a0.2.1)))) rfl ?_)
            refine G_q rfl (op_move (av := .exact (.bool (decide (0 ≤ a0.2.1)))) rfl ?_)
            refine G_split (p := 0 ≤ a0.2.1) 18 rfl (fun hc => ?_) (fun hc => ?_)
            · replace h := ite_t h hc
              refine Gy_q rfl rfl rfl (op_fieldAddr_ptr (o := 1) (c' := (List.drop 1 (c_api_TypeNode a0))) (by kernel_rfl) rfl rfl ?_)
              refine Gy_q rfl rfl rfl (op_load1p (a := .exact (.int .i64 a0.2.1)) (by kernel_rfl) rfl rfl ?_)
              refine Gy_q rfl rfl rfl (op_leq rfl rfl ?_)
              refine G_q rfl (op_pick_t rfl (av := .exact (.bool (decide (a0.2.1 ≤ 1073741824)))) rfl ?_)
              refine G_q rfl (op_assign (av := .exact (.bool (decide (a0.2.1 ≤ 1073741824)))) rfl ?_)
              refine G_nil ?_
              refine kI_normal ⟨_, h, ?_⟩
              exact Sub.of_le (AF.le_put (AV.le_eq rfl) (AF.le_top _))
            · replace h := ite_f h hc
              refine G_n rfl rfl ?_
              refine G_n rfl rfl ?_
              refine G_n rfl rfl ?_
              refine G_q rfl (op_pick_f rfl (av := .exact (.bool false)) rfl ?_)
              refine G_q rfl (op_assign (av := .exact (.bool false)) rfl ?_)
              refine G_nil ?_
              refine kI_normal ⟨_, h, ?_⟩
              exact Sub.of_le (AF.le_put (AV.le_eq rfl) (AF.le_top _))
          · replace h := ite_f h hc
            refine G_n rfl rfl ?_
            refine G_n rfl rfl ?_
            refine G_n rfl rfl ?_
            refine G_q rfl (op_pick_f rfl (av := .exact (.bool false)) rfl ?_)
            refine G_q rfl (op_move (av := .exact (.bool false)) rfl ?_)
            refine G_n rfl rfl ?_
            refine G_n rfl rfl ?_
            refine G_n rfl rfl ?_
            refine G_q rfl (op_pick_f rfl (av := .exact (.bool false)) rfl ?_)
            refine G_q rfl (op_assign (av := .exact (.bool false)) rfl ?_)
            refine G_nil ?_
            refine kI_normal ⟨_, h, ?_⟩
            exact Sub.of_le (AF.le_put (AV.le_eq rfl) (AF.le_top _))
        · refine k_ret ?_
          refine kB_ret ?_
          refine kI_ret ?_
          obtain rfl := Option.some.inj h
          refine kP_any (endN (af' := (AF.put AF0 (some 2) (.exact (.bool x2_j8)))) (σ' := []) _ rfl ?_ ⟨rfl, rfl⟩)
          exact Sub.of_le (AF.le_put (AV.le_eq rfl) (AF.le_top _))
      · replace h := ite_f h hc
        refine k_join1_0 h (fun (x23_j9 : Bool) => (AF.put (AF.put (AF.put (AF.put (AF.put AF0 (some 1) (.ptr (c_api_TypeNode a0))) (some 3) (.exact (.int .i64 0))) (some 4) (.exact (.int .i64 0))) (some 6) (.exact (.int .i64 a0.1))) (some 23) (.exact (.bool x23_j9)))) (fun (x23_j9 : Bool) => []) (fun k9 h => ?_) (fun x23_j9 h => ?_)
        · refine k_seq ?_
          refine k_reg .free hmixP (by kernel_rfl) ?_
          refine G_q rfl (op_eql rfl rfl ?_)
          refine G_q rfl (op_assign (av := .exact (.bool (decide (a0.1 = 2)))) rfl ?_)
          refine G_nil ?_
          refine kC_normal ?_
          refine k_cond_d (p := a0.1 = 2) rfl (fun hc => ?_) (fun hc => ?_)
          · replace h := ite_t h hc
            refine k_skip ?_
            refine kI_normal ⟨_, h, ?_⟩
            exact Sub.of_le (AF.le_put (AV.le_eq rfl) (AF.le_put (AV.le_eq rfl) (AF.le_put (AV.le_eq rfl) (AF.le_put (AV.le_eq rfl) (AF.le_put (AV.le_eq rfl) (AF.le_top _))))))
          · replace h := ite_f h hc
            refine k_seq ?_
            refine k_reg .free hmixP (by kernel_rfl) ?_
            refine G_q rfl (op_eql rfl rfl ?_)
            refine G_q rfl (op_assign (av := .exact (.bool (decide (a0.1 = 3)))) rfl ?_)
            refine G_nil ?_
            refine kC_normal ?_
            refine k_cond_d (p := a0.1 = 3) rfl (fun hc => ?_) (fun hc => ?_)
            · replace h := ite_t h hc
              refine k_skip ?_
              refine kI_normal ⟨_, h, ?_⟩
              exact Sub.of_le (AF.le_put (AV.le_eq rfl) (AF.le_put (AV.le_eq rfl) (AF.le_put (AV.le_eq rfl) (AF.le_put (AV.le_eq rfl) (AF.le_put (AV.le_eq rfl) (AF.le_top _))))))
            · replace h := ite_f h hc
              refine k_seq ?_
              refine k_reg .free hmixP (by kernel_rfl) ?_
              refine G_q rfl (op_eql rfl rfl ?_)
              refine G_q rfl (op_assign (av := .exact (.bool (decide (a0.1 = 4)))) rfl ?_)
              refine G_nil ?_
              refine kC_normal ?_
              refine k_cond_d (p := a0.1 = 4) rfl (fun hc => ?_) (fun hc => ?_)
              · replace h := ite_t h hc
                refine k_skip ?_
                refine kI_normal ⟨_, h, ?_⟩
                exact Sub.of_le (AF.le_put (AV.le_eq rfl) (AF.le_put (AV.le_eq rfl) (AF.le_put (AV.le_eq rfl) (AF.le_put (AV.le_eq rfl) (AF.le_put (AV.le_eq rfl) (AF.le_top _))))))
              · replace h := ite_f h hc
                refine k_reg .free hmixP (by kernel_rfl) ?_
                refine G_q rfl (op_eql rfl rfl ?_)
                refine G_q rfl (op_assign (av := .exact (.bool (decide (a0.1 = 5)))) rfl ?_)
                refine G_nil ?_
                refine kI_normal ⟨_, h, ?_⟩
                exact Sub.of_le (AF.le_put (AV.le_eq rfl) (AF.le_put (AV.le_eq rfl) (AF.le_put (AV.le_eq rfl) (AF.le_put (AV.le_eq rfl) (AF.le_put (AV.le_eq rfl) (AF.le_top _))))))
        · refine k_cond_b (c := x23_j9) rfl (fun hc => ?_) (fun hc => ?_)
          · replace h := ite_t h hc
            refine k_skip ?_
            refine kB_normal ?_
            refine kI_normal ⟨_, _, h, ?_⟩
            exact Sub.of_le (AF.le_put (AV.le_eq rfl) (AF.le_put (AV.le_eq rfl) (AF.le_put (AV.le_eq rfl) (AF.le_top _))))
          · replace h := ite_f h hc
            refine k_join1_0 h (fun (x28_j10 : Bool) => (AF.put (AF.put (AF.put AF0 (some 1) (.ptr (c_api_TypeNode a0))) (some 6) (.exact (.int .i64 a0.1))) (some 28) (.exact (.bool x28_j10)))) (fun (x28_j10 : Bool) => []) (fun k10 h => ?_) (fun x28_j10 h => ?_)
            · refine k_seq ?_
              refine k_reg .free hmixP (by kernel_rfl) ?_
              refine G_q rfl (op_eql rfl rfl ?_)
              refine G_q rfl (op_assign (av := .exact (.bool (decide (a0.1 = 7)))) rfl ?_)
              refine G_nil ?_
              refine kC_normal ?_
              refine k_cond_d (p := a0.1 = 7) rfl (fun hc => ?_) (fun hc => ?_)
              · replace h := ite_t h hc
                refine k_skip ?_
                refine kI_normal ⟨_, h, ?_⟩
                exact Sub.of_le (AF.le_put (AV.le_eq rfl) (AF.le_put (AV.le_eq rfl) (AF.le_put (AV.le_eq rfl) (AF.le_top _))))
              · replace h := ite_f h hc
                refine k_reg .free hmixP (by kernel_rfl) ?_
                refine G_q rfl (op_eql rfl rfl ?_)
                refine G_q rfl (op_assign (av := .exact (.bool (decide (a0.1 = 8)))) rfl ?_)
                refine G_nil ?_
                refine kI_normal ⟨_, h, ?_⟩
                exact Sub.of_le (AF.le_put (AV.le_eq rfl) (AF.le_put (AV.le_eq rfl) (AF.le_put (AV.le_eq rfl) (AF.le_top _))))
            · refine k_cond_b (c := x28_j10) rfl (fun hc => ?_) (fun hc => ?_)
              · replace h := ite_t h hc
                refine k_reg .free hmixP (by kernel_rfl) ?_
                refine G_q rfl (op_assign (av := .exact (.int .i64 1)) rfl ?_)
                refine G_q rfl (op_assign (av := .exact (.int .i64 1)) rfl ?_)
                refine G_nil ?_
                refine kB_normal ?_
                refine kI_normal ⟨_, _, h, ?_⟩
                exact Sub.of_le (AF.le_put (AV.le_eq rfl) (AF.le_put (AV.le_eq rfl) (AF.le_put (AV.le_eq rfl) (AF.le_top _))))
              · replace h := ite_f h hc
                refine k_join1_0 h (fun (x31_j11 : Bool) => (AF.put (AF.put (AF.put AF0 (some 1) (.ptr (c_api_TypeNode a0))) (some 6) (.exact (.int .i64 a0.1))) (some 31) (.exact (.bool x31_j11)))) (fun (x31_j11 : Bool) => []) (fun k11 h => ?_) (fun x31_j11 h => ?_)
                · refine k_seq ?_
                  refine k_reg .free hmixP (by kernel_rfl) ?_
                  refine G_q rfl (op_eql rfl rfl ?_)
                  refine G_q rfl (op_assign (av := .exact (.bool (decide (a0.1 = 9)))) rfl ?_)
                  refine G_nil ?_
                  refine kC_normal ?_
                  refine k_cond_d (p := a0.1 = 9) rfl (fun hc => ?_) (fun hc => ?_)
                  · replace h := ite_t h hc
                    refine k_skip ?_
                    refine kI_normal ⟨_, h, ?_⟩
                    exact Sub.of_le (AF.le_put (AV.le_eq rfl) (AF.le_put (AV.le_eq rfl) (AF.le_put (AV.le_eq rfl) (AF.le_top _))))
                  · replace h := ite_f h hc
                    refine k_seq ?_
                    refine k_reg .free hmixP (by kernel_rfl) ?_
                    refine G_q rfl (op_eql rfl rfl ?_)
                    refine G_q rfl (op_assign (av := .exact (.bool (decide (a0.1 = 12)))) rfl ?_)
                    refine G_nil ?_
                    refine kC_normal ?_
                    refine k_cond_d (p := a0.1 = 12) rfl (fun hc => ?_) (fun hc => ?_)
                    · replace h := ite_t h hc
                      refine k_skip ?_
                      refine kI_normal ⟨_, h, ?_⟩
                      exact Sub.of_le (AF.le_put (AV.le_eq rfl) (AF.le_put (AV.le_eq rfl) (AF.le_put (AV.le_eq rfl) (AF.le_top _))))
                    · replace h := ite_f h hc
                      refine k_reg .free hmixP (by kernel_rfl) ?_
                      refine G_q rfl (op_eql rfl rfl ?_)
                      refine G_q rfl (op_assign (av := .exact (.bool (decide (a0.1 = 13)))) rfl ?_)
                      refine G_nil ?_
                      refine kI_normal ⟨_, h, ?_⟩
                      exact Sub.of_le (AF.le_put (AV.le_eq rfl) (AF.le_put (AV.le_eq rfl) (AF.le_put (AV.le_eq rfl) (AF.le_top _))))
                · refine k_cond_b (c := x31_j11) rfl (fun hc => ?_) (fun hc => ?_)
                  · replace h := ite_t h hc
                    refine k_reg .free hmixP (by kernel_rfl) ?_
                    refine G_q rfl (op_assign (av := .exact (.int .i64 2)) rfl ?_)
                    refine G_q rfl (op_assign (av := .exact (.int .i64 2)) rfl ?_)
                    refine G_nil ?_
                    refine kB_normal ?_
                    refine kI_normal ⟨_, _, h, ?_⟩
                    exact Sub.of_le (AF.le_put (AV.le_eq rfl) (AF.le_put (AV.le_eq rfl) (AF.le_put (AV.le_eq rfl) (AF.le_top _))))
                  · replace h := ite_f h hc
                    refine k_seq ?_
                    refine k_reg .free hmixP (by kernel_rfl) ?_
                    refine G_q rfl (op_eql rfl rfl ?_)
                    refine G_q rfl (op_assign (av := .exact (.bool (decide (a0.1 = 10)))) rfl ?_)
                    refine G_nil ?_
                    refine kC_normal ?_
                    refine k_cond_d (p := a0.1 = 10) rfl (fun hc => ?_) (fun hc => ?_)
                    · replace h := ite_t h hc
                      refine k_reg .free hmixP (by kernel_rfl) ?_
                      refine G_q rfl (op_assign (av := .exact (.int .i64 2)) rfl ?_)
                      refine G_q rfl (op_assign (av := .exact (.int .i64 8)) rfl ?_)
                      refine G_nil ?_
                      refine kB_normal ?_
                      refine kI_normal ⟨_, _, h, ?_⟩
                      exact Sub.of_le (AF.le_put (AV.le_eq rfl) (AF.le_put (AV.le_eq rfl) (AF.le_put (AV.le_eq rfl) (AF.le_top _))))
                    · replace h := ite_f h hc
                      refine k_seq ?_
                      refine k_reg .free hmixP (by kernel_rfl) ?_
                      refine G_q rfl (op_eql rfl rfl ?_)
                      refine G_q rfl (op_assign (av := .exact (.bool (decide (a0.1 = 11)))) rfl ?_)
                      refine G_nil ?_
                      refine kC_normal ?_
                      refine k_cond_d (p := a0.1 = 11) rfl (fun hc => ?_) (fun hc => ?_)
                      · replace h := ite_t h hc
                        refine k_reg .free hmixP (by kernel_rfl) ?_
                        refine G_q rfl (op_assign (av := .exact (.int .i64 1)) rfl ?_)
                        refine G_q rfl (op_assign (av := .exact (.int .i64 9)) rfl ?_)
                        refine G_nil ?_
                        refine kB_normal ?_
                        refine kI_normal ⟨_, _, h, ?_⟩
                        exact Sub.of_le (AF.le_put (AV.le_eq rfl) (AF.le_put (AV.le_eq rfl) (AF.le_put (AV.le_eq rfl) (AF.le_top _))))
                      · replace h := ite_f h hc
                        refine k_seq ?_
                        refine k_reg .free hmixP (by kernel_rfl) ?_
                        refine G_q rfl (op_assign (av := .exact (.bool false)) rfl ?_)
                        refine G_nil ?_
                        refine kC_normal ?_
                        refine k_ret ?_
                        refine kB_ret ?_
                        refine kI_ret ?_
                        obtain rfl := Option.some.inj h
                        refine kP_any (endN (af' := (AF.put AF0 (some 2) (.exact (.bool false)))) (σ' := []) _ rfl ?_ ⟨rfl, rfl⟩)
                        exact Sub.of_le (AF.le_put (AV.le_eq rfl) (AF.le_top _))
  · refine k_join1_0 h (fun (x2_j12 : Bool) => (AF.put AF0 (some 2) (.exact (.bool x2_j12)))) (fun (x2_j12 : Bool) => []) (fun k12 h => ?_) (fun x2_j12 h => ?_)
    · refine k_reg .free hmixP (by kernel_rfl) ?_
      refine G_q rfl (op_fieldAddr_ptr (o := 1) (c' := (List.drop 1 (c_api_TypeNode a0))) (by kernel_rfl) rfl rfl ?_)
      refine G_q rfl (op_load1p (a := .exact (.int .i64 a0.2.1)) (by kernel_rfl) rfl rfl ?_)
      refine G_q rfl (op_eql rfl rfl ?_)
      refine G_q rfl (op_move (av := .exact (.bool (decide (a0.2.1 = 0)))) rfl ?_)
      refine G_split (p := a0.2.1 = 0) 42 rfl (fun hc => ?_) (fun hc => ?_)
      · replace h := ite_t h hc
        refine Gy_q rfl rfl rfl (op_fieldAddr_ptr (o := 2) (c' := (List.drop 2 (c_api_TypeNode a0))) (by kernel_rfl) rfl rfl ?_)
        refine Gy_q rfl rfl rfl (op_load1p (a := .exact (.int .i64 a0.2.2)) (by kernel_rfl) rfl rfl ?_)
        refine Gy_q rfl rfl rfl (op_move (av := .exact (.int .i64 x3_j1)) rfl ?_)
        refine Gy_q rfl rfl rfl (op_geq rfl rfl ?_)
        refine G_q rfl (op_pick_t rfl (av := .exact (.bool (decide (x3_j1 ≤ a0.2.2)))) rfl ?_)
        refine G_q rfl (op_move (av := .exact (.bool (decide (x3_j1 ≤ a0.2.2)))) rfl ?_)
        refine G_split (p := x3_j1 ≤ a0.2.2) 48 rfl (fun hc => ?_) (fun hc => ?_)
        · replace h := ite_t h hc
          refine Gy_q rfl rfl rfl (op_fieldAddr_ptr (o := 2) (c' := (List.drop 2 (c_api_TypeNode a0))) (by kernel_rfl) rfl rfl ?_)
          refine Gy_q rfl rfl rfl (op_load1p (a := .exact (.int .i64 a0.2.2)) (by kernel_rfl) rfl rfl ?_)
          refine Gy_q rfl rfl rfl (op_move (av := .exact (.int .i64 x4_j1)) rfl ?_)
          refine Gy_q rfl rfl rfl (op_leq rfl rfl ?_)
          refine G_q rfl (op_pick_t rfl (av := .exact (.bool (decide (a0.2.2 ≤ x4_j1)))) rfl ?_)
          refine G_q rfl (op_assign (av := .exact (.bool (decide (a0.2.2 ≤ x4_j1)))) rfl ?_)
          refine G_nil ?_
          refine kI_normal ⟨_, h, ?_⟩
          exact Sub.of_le (AF.le_put (AV.le_eq rfl) (AF.le_top _))
        · replace h := ite_f h hc
          refine G_n rfl rfl ?_
          refine G_n rfl rfl ?_
          refine G_n rfl rfl ?_
          refine G_n rfl rfl ?_
          refine G_q rfl (op_pick_f rfl (av := .exact (.bool false)) rfl ?_)
          refine G_q rfl (op_assign (av := .exact (.bool false)) rfl ?_)
          refine G_nil ?_
          refine kI_normal ⟨_, h, ?_⟩
          exact Sub.of_le (AF.le_put (AV.le_eq rfl) (AF.le_top _))
      · replace h := ite_f h hc
        refine G_n rfl rfl ?_
        refine G_n rfl rfl ?_
        refine G_n rfl rfl ?_
        refine G_n rfl rfl ?_
        refine G_q rfl (op_pick_f rfl (av := .exact (.bool false)) rfl ?_)
        refine G_q rfl (op_move (av := .exact (.bool false)) rfl ?_)
        refine G_n rfl rfl ?_
        refine G_n rfl rfl ?_
        refine G_n rfl rfl ?_
        refine G_n rfl rfl ?_
        refine G_q rfl (op_pick_f rfl (av := .exact (.bool false)) rfl ?_)
        refine G_q rfl (op_assign (av := .exact (.bool false)) rfl ?_)
        refine G_nil ?_
        refine kI_normal ⟨_, h, ?_⟩
        exact Sub.of_le (AF.le_put (AV.le_eq rfl) (AF.le_top _))
    · refine k_ret ?_
      obtain rfl := Option.some.inj h
      refine kP_any (endN (af' := (AF.put AF0 (some 2) (.exact (.bool x2_j12)))) (σ' := []) _ rfl ?_ ⟨rfl, rfl⟩)
      exact Sub.of_le (AF.le_put (AV.le_eq rfl) (AF.le_top _))
set_option maxHeartbeats 4000000 in
theorem m_types_after_F_ok (self_types_after : (List (Int × Int × Int)) → Int → Int → Option Int) (hself_types_after : ∀ (a0 : List (Int × Int × Int)) (a1 : Int) (a2 : Int) (r : Int), self_types_after a0 a1 a2 = some r → Pure Tryd.prog 63 [(.row 3 c_api_TypeNode a0), (.exact (.int .i64 a1)), (.exact (.int .i64 a2))] (.exact (.int .i64 r))) (a0 : List (Int × Int × Int)) (a1 : Int) (a2 : Int) (r : Int) (h : m_types_after_F self_types_after a0 a1 a2 = some r) : Pure Tryd.prog 63 [(.row 3 c_api_TypeNode a0), (.exact (.int .i64 a1)), (.exact (.int .i64 a2))] (.exact (.int .i64 r)) := by
  unfold m_types_after_F at h
  refine Pure.ofFun (fun_of_awp Tryd.func63 rfl Tryd.ntmps63 (by simp) rfl (res1 rfl) fun E hE => k_end ?_)
  refine k_seq ?_
  refine k_reg .free hmixP (by kernel_rfl) ?_
  refine G_q rfl (op_assign (av := .exact (.int .i64 0)) rfl ?_)
  refine G_nil ?_
  refine kC_normal ?_
  refine k_seq ?_
  refine k_join1_0 h (fun (x23_j7 : Bool) => (AF.put (AF.put (AF.put (AF.put AF0 (some 0) (.row 3 c_api_TypeNode a0)) (some 1) (.exact (.int .i64 a1))) (some 2) (.exact (.int .i64 a2))) (some 23) (.exact (.bool x23_j7)))) (fun (x23_j7 : Bool) => []) (fun k7 h => ?_) (fun x23_j7 h => ?_)
  · refine k_reg .free hmixP (by kernel_rfl) ?_
    refine G_q rfl (op_move (av := .exact (.int .i64 a1)) rfl ?_)
    refine G_q rfl (op_move (av := .row 3 c_api_TypeNode a0) rfl ?_)
    refine G_q rfl (op_len_row (by kernel_rfl) rfl ?_)
    refine G_q rfl (op_geq rfl rfl ?_)
    refine G_q rfl (op_move (av := .exact (.bool (decide ((List.length a0 : Int) ≤ a1)))) rfl ?_)
    refine G_split (p := (List.length a0 : Int) ≤ a1) 12 rfl (fun hc => ?_) (fun hc => ?_)
    · replace h := ite_t h hc
      refine G_n rfl rfl ?_
      refine G_n rfl rfl ?_
      refine G_q rfl (op_pick_t rfl (av := .exact (.bool true)) rfl ?_)
      refine G_q rfl (op_move (av := .exact (.bool true)) rfl ?_)
      refine G_n rfl rfl ?_
      refine G_n rfl rfl ?_
      refine G_n rfl rfl ?_
      refine G_n rfl rfl ?_
      refine G_n rfl rfl ?_
      refine G_n rfl rfl ?_
      refine G_q rfl (op_pick_t rfl (av := .exact (.bool true)) rfl ?_)
      refine G_nil ?_
      refine kI_normal ⟨_, h, ?_⟩
      exact Sub.of_le (AF.le_put (AV.le_eq rfl) (AF.le_put (AV.le_eq rfl) (AF.le_put (AV.le_eq rfl) (AF.le_put (AV.le_eq rfl) (AF.le_top _)))))
    · replace h := ite_f h hc
      refine Gy_q rfl rfl rfl (op_move (av := .exact (.int .i64 a2)) rfl ?_)
      refine Gy_q rfl rfl rfl (op_gtr rfl rfl ?_)
      refine G_q rfl (op_pick_f rfl (av := .exact (.bool (decide (64 < a2)))) rfl ?_)
      refine G_q rfl (op_move (av := .exact (.bool (decide (64 < a2)))) rfl ?_)
      refine G_split (p := 64 < a2) 16 rfl (fun hc => ?_) (fun hc => ?_)
      · replace h := ite_t h hc
        refine G_n rfl rfl ?_
        refine G_n rfl rfl ?_
        refine G_n rfl rfl ?_
        refine G_n rfl rfl ?_
        refine G_n rfl rfl ?_
        refine G_n rfl rfl ?_
        refine G_q rfl (op_pick_t rfl (av := .exact (.bool true)) rfl ?_)
        refine G_nil ?_
        refine kI_normal ⟨_, h, ?_⟩
        exact Sub.of_le (AF.le_put (AV.le_eq rfl) (AF.le_put (AV.le_eq rfl) (AF.le_put (AV.le_eq rfl) (AF.le_put (AV.le_eq rfl) (AF.le_top _)))))
      · replace h := ite_f h hc
        refine Gy_q rfl rfl rfl (op_move (av := .row 3 c_api_TypeNode a0) rfl ?_)
        refine Gy_q rfl rfl rfl (op_move (av := .exact (.int .i64 a1)) rfl ?_)
        obtain ⟨n10, h⟩ := need_some h
        refine Gy_q rfl rfl rfl (op_index_row (by kernel_rfl) rfl rfl n10.1 n10.2 ?_)
        refine Gy_q rfl rfl rfl (op_loadNp (m := 3) (c' := c_api_TypeNode (gi a0 a1)) (by kernel_rfl) rfl rfl rfl ?_)
        obtain ⟨y11, hy11, h⟩ := bnd1_some h
        refine Gy_q rfl rfl rfl (op_pure (m_types_formed_ok _ _ hy11) Tryd.func83 (by kernel_rfl) (LEs.cons (AV.le_eq rfl) LEs.nil) ?_)
        refine Gy_q rfl rfl rfl (op_not rfl ?_)
        refine G_q rfl (op_pick_f rfl (av := .exact (.bool (!y11))) rfl ?_)
        refine G_nil ?_
        refine kI_normal ⟨_, h, ?_⟩
        exact Sub.of_le (AF.le_put (AV.le_eq rfl) (AF.le_put (AV.le_eq rfl) (AF.le_put (AV.le_eq rfl) (AF.le_put (AV.le_eq rfl) (AF.le_top _)))))
  · refine k_cond_b (c := x23_j7) rfl (fun hc => ?_) (fun hc => ?_)
    · replace h := ite_t h hc
      refine k_seq ?_
      refine k_reg .free hmixP (by kernel_rfl) ?_
      refine G_q rfl (op_assign (av := .exact (.int .i64 0)) rfl ?_)
      refine G_nil ?_
      refine kC_normal ?_
      refine k_ret ?_
      refine kC_ret ?_
      obtain rfl := Option.some.inj h
      refine kP_any (endN (af' := (AF.put AF0 (some 6) (.exact (.int .i64 0)))) (σ' := []) _ rfl ?_ ⟨rfl, rfl⟩)
      exact Sub.of_le (AF.le_put (AV.le_eq rfl) (AF.le_top _))
    · replace h := ite_f h hc
      refine k_skip ?_
      refine kC_normal ?_
      refine k_seq ?_
      refine k_reg .free hmixP (by kernel_rfl) ?_
      refine G_q rfl (op_move (av := .exact (.int .i64 a1)) rfl ?_)
      refine G_q rfl (op_add rfl rfl rfl ?_)
      refine G_q rfl (op_assign (av := .exact (.int .i64 (i64 (a1 + 1)))) rfl ?_)
      refine G_nil ?_
      refine kC_normal ?_
      refine k_join1_0 h (fun (x7_j12 : Int) => (AF.put AF0 (some 7) (.exact (.int .i64 x7_j12)))) (fun (x7_j12 : Int) => []) (fun k12 h => ?_) (fun x7_j12 h => ?_)
      · refine k_seq ?_
        refine k_reg .free hmixP (by kernel_rfl) ?_
        refine G_q rfl (op_move (av := .row 3 c_api_TypeNode a0) rfl ?_)
        refine G_q rfl (op_move (av := .exact (.int .i64 a1)) rfl ?_)
        obtain ⟨n18, h⟩ := need_some h
        refine G_q rfl (op_index_row (by kernel_rfl) rfl rfl n18.1 n18.2 ?_)
        refine G_q rfl (op_fieldAddr_ptr (o := 2) (c' := (List.drop 2 (c_api_TypeNode (gi a0 a1)))) (by kernel_rfl) rfl rfl ?_)
        refine G_q rfl (op_load1p (a := .exact (.int .i64 ((gi a0 a1).2.2))) (by kernel_rfl) rfl rfl ?_)
        refine G_q rfl (op_move (av := .exact (.int .i64 0)) rfl ?_)
        refine G_nil ?_
        refine kC_normal ?_
        refine k_block ?_
        refine k_loop2_0 (m_types_after_L2 self_types_after a0 a1 a2 k12) (m_types_after_B2 self_types_after a0 a1 a2 k12) (fun _ _ => rfl) (fun m _ _ => rfl) h (fun (x7_l2 : Int) (x31_l2 : Int) => (AF.put (AF.put (AF.put (AF.put (AF.put AF0 (some 0) (.row 3 c_api_TypeNode a0)) (some 2) (.exact (.int .i64 a2))) (some 7) (.exact (.int .i64 x7_l2))) (some 30) (.exact (.int .i64 ((gi a0 a1).2.2)))) (some 31) (.exact (.int .i64 x31_l2)))) (fun (x7_l2 : Int) (x31_l2 : Int) => []) ?_ (fun rec2 x7_l2 x31_l2 h => ?_)
        · exact Sub.of_le (AF.le_put (AV.le_eq rfl) (AF.le_put (AV.le_eq rfl) (AF.le_put (AV.le_eq rfl) (AF.le_put (AV.le_eq rfl) (AF.le_put (AV.le_eq rfl) (AF.le_top _))))))
        · unfold m_types_after_B2 at h
          refine k_seq ?_
          refine k_reg .free hmixP (by kernel_rfl) ?_
          refine G_q rfl (op_lss rfl rfl ?_)
          refine G_nil ?_
          refine kC_normal ?_
          refine k_seq ?_
          refine k_cond_d (p := x31_l2 < ((gi a0 a1).2.2)) rfl (fun hc => ?_) (fun hc => ?_)
          · replace h := ite_t h hc
            refine k_skip ?_
            refine kC_normal ?_
            refine k_seq ?_
            refine k_block ?_
            refine k_seq ?_
            refine k_reg .free hmixP (by kernel_rfl) ?_
            refine G_q rfl (op_move (av := .row 3 c_api_TypeNode a0) rfl ?_)
            refine G_q rfl (op_move (av := .exact (.int .i64 x7_l2)) rfl ?_)
            refine G_q rfl (op_move (av := .exact (.int .i64 a2)) rfl ?_)
            refine G_q rfl (op_add rfl rfl rfl ?_)
            obtain ⟨y21, hy21, h⟩ := bnd1_some h
            refine G_q rfl (op_pure (hself_types_after _ _ _ _ hy21) Tryd.func63 (by kernel_rfl) (LEs.cons (AV.le_eq rfl) (LEs.cons (AV.le_eq rfl) (LEs.cons (AV.le_eq rfl) LEs.nil))) ?_)
            refine G_q rfl (op_assign (av := .exact (.int .i64 y21)) rfl ?_)
            refine G_nil ?_
            refine kC_normal ?_
            refine k_seq ?_
            refine k_reg .free hmixP (by kernel_rfl) ?_
            refine G_q rfl (op_move (av := .exact (.int .i64 y21)) rfl ?_)
            refine G_q rfl (op_eql rfl rfl ?_)
            refine G_nil ?_
            refine kC_normal ?_
            refine k_cond_d (p := y21 = 0) rfl (fun hc => ?_) (fun hc => ?_)
            · replace h := ite_t h hc
              refine k_seq ?_
              refine k_reg .free hmixP (by kernel_rfl) ?_
              refine G_q rfl (op_assign (av := .exact (.int .i64 0)) rfl ?_)
              refine G_nil ?_
              refine kC_normal ?_
              refine k_ret ?_
              refine kB_ret ?_
              refine kC_ret ?_
              refine kI_ret ?_
              refine kB_ret ?_
              refine kI_ret ?_
              obtain rfl := Option.some.inj h
              refine kP_any (endN (af' := (AF.put AF0 (some 6) (.exact (.int .i64 0)))) (σ' := []) _ rfl ?_ ⟨rfl, rfl⟩)
              exact Sub.of_le (AF.le_put (AV.le_eq rfl) (AF.le_top _))
            · replace h := ite_f h hc
              refine k_skip ?_
              refine kB_normal ?_
              refine kC_normal ?_
              refine k_reg .free hmixP (by kernel_rfl) ?_
              refine G_q rfl (op_add rfl rfl rfl ?_)
              refine G_q rfl (op_move (av := .exact (.int .i64 (i64 (x31_l2 + 1)))) rfl ?_)
              refine G_nil ?_
              refine kI_normal ⟨_, _, h, ?_⟩
              exact Sub.of_le (AF.le_put (AV.le_eq rfl) (AF.le_put (AV.le_eq rfl) (AF.le_put (AV.le_eq rfl) (AF.le_put (AV.le_eq rfl) (AF.le_put (AV.le_eq rfl) (AF.le_top _))))))
          · replace h := ite_f h hc
            refine k_exit ?_
            refine kC_exit ?_
            refine kI_exit ?_
            refine kB_exit ?_
            refine kI_normal ⟨_, h, ?_⟩
            exact Sub.of_le (AF.le_put (AV.le_eq rfl) (AF.le_top _))
      · refine k_seq ?_
        refine k_reg .free hmixP (by kernel_rfl) ?_
        refine G_q rfl (op_move (av := .exact (.int .i64 x7_j12)) rfl ?_)
        refine G_q rfl (op_assign (av := .exact (.int .i64 x7_j12)) rfl ?_)
        refine G_nil ?_
        refine kC_normal ?_
        refine k_ret ?_
        obtain rfl := Option.some.inj h
        refine kP_any (endN (af' := (AF.put AF0 (some 6) (.exact (.int .i64 x7_j12)))) (σ' := []) _ rfl ?_ ⟨rfl, rfl⟩)
        exact Sub.of_le (AF.le_put (AV.le_eq rfl) (AF.le_top _))
set_option maxHeartbeats 4000000 in
theorem m_types_after_S_ok : ∀ n : Nat, (∀ (a0 : List (Int × Int × Int)) (a1 : Int) (a2 : Int) (r : Int), m_types_after_S n a0 a1 a2 = some r → Pure Tryd.prog 63 [(.row 3 c_api_TypeNode a0), (.exact (.int .i64 a1)), (.exact (.int .i64 a2))] (.exact (.int .i64 r)))
  | 0 => (fun _ _ _ _ h => by have h' : (none : Option _) = some _ := h; cases h')
  | n + 1 => by
    have ih := m_types_after_S_ok n
    exact fun a0 a1 a2 r h => m_types_after_F_ok (m_types_after_S n) ih a0 a1 a2 r h
theorem m_types_after_ok (a0 : List (Int × Int × Int)) (a1 : Int) (a2 : Int) (r : Int) (h : m_types_after a0 a1 a2 = some r) : Pure Tryd.prog 63 [(.row 3 c_api_TypeNode a0), (.exact (.int .i64 a1)), (.exact (.int .i64 a2))] (.exact (.int .i64 r)) := (m_types_after_S_ok FU) a0 a1 a2 r h
set_option maxHeartbeats 4000000 in
theorem m_types_Valid_ok (a0 : List (Int × Int × Int)) (r : Bool) (h : m_types_Valid a0 = some r) : Pure Tryd.prog 29 [(.row 3 c_api_TypeNode a0)] (.exact (.bool r)) := by
  unfold m_types_Valid at h
  refine Pure.ofFun (fun_of_awp Tryd.func29 rfl Tryd.ntmps29 (by simp) rfl (res1 rfl) fun E hE => k_end ?_)
  refine k_seq ?_
  refine k_reg .free hmixP (by kernel_rfl) ?_
  refine G_q rfl (op_assign (av := .exact (.bool false)) rfl ?_)
  refine G_nil ?_
  refine kC_normal ?_
  refine k_join1_0 h (fun (x2_j1 : Bool) => (AF.put AF0 (some 2) (.exact (.bool x2_j1)))) (fun (x2_j1 : Bool) => []) (fun k1 h => ?_) (fun x2_j1 h => ?_)
  · refine k_reg .free hmixP (by kernel_rfl) ?_
    refine G_q rfl (op_move (av := .row 3 c_api_TypeNode a0) rfl ?_)
    refine G_q rfl (op_len_row (by kernel_rfl) rfl ?_)
    refine G_q rfl (op_gtr rfl rfl ?_)
    refine G_q rfl (op_move (av := .exact (.bool (decide (0 < (List.length a0 : Int))))) rfl ?_)
    refine G_split (p := 0 < (List.length a0 : Int)) 6 rfl (fun hc => ?_) (fun hc => ?_)
    · replace h := ite_t h hc
      refine Gy_q rfl rfl rfl (op_move (av := .row 3 c_api_TypeNode a0) rfl ?_)
      refine Gy_q rfl rfl rfl (op_len_row (by kernel_rfl) rfl ?_)
      refine Gy_q rfl rfl rfl (op_leq rfl rfl ?_)
      refine G_q rfl (op_pick_t rfl (av := .exact (.bool (decide ((List.length a0 : Int) ≤ 512)))) rfl ?_)
      refine G_q rfl (op_move (av := .exact (.bool (decide ((List.length a0 : Int) ≤ 512)))) rfl ?_)
      refine G_split (p := (List.length a0 : Int) ≤ 512) 11 rfl (fun hc => ?_) (fun hc => ?_)
      · replace h := ite_t h hc
        refine Gy_q rfl rfl rfl (op_move (av := .row 3 c_api_TypeNode a0) rfl ?_)
        obtain ⟨y3, hy3, h⟩ := bnd1_some h
        refine Gy_q rfl rfl rfl (op_pure (m_types_after_ok _ _ _ _ hy3) Tryd.func63 (by kernel_rfl) (LEs.cons (AV.le_eq rfl) (LEs.cons (AV.le_eq rfl) (LEs.cons (AV.le_eq rfl) LEs.nil))) ?_)
        refine Gy_q rfl rfl rfl (op_move (av := .row 3 c_api_TypeNode a0) rfl ?_)
        refine Gy_q rfl rfl rfl (op_len_row (by kernel_rfl) rfl ?_)
        refine Gy_q rfl rfl rfl (op_eql rfl rfl ?_)
        refine G_q rfl (op_pick_t rfl (av := .exact (.bool (decide (y3 = (List.length a0 : Int))))) rfl ?_)
        refine G_q rfl (op_assign (av := .exact (.bool (decide (y3 = (List.length a0 : Int))))) rfl ?_)
        refine G_nil ?_
        refine kI_normal ⟨_, h, ?_⟩
        exact Sub.of_le (AF.le_put (AV.le_eq rfl) (AF.le_top _))
      · replace h := ite_f h hc
        refine G_n rfl rfl ?_
        refine G_n rfl rfl ?_
        refine G_n rfl rfl ?_
        refine G_n rfl rfl ?_
        refine G_n rfl rfl ?_
        refine G_q rfl (op_pick_f rfl (av := .exact (.bool false)) rfl ?_)
        refine G_q rfl (op_assign (av := .exact (.bool false)) rfl ?_)
        refine G_nil ?_
        refine kI_normal ⟨_, h, ?_⟩
        exact Sub.of_le (AF.le_put (AV.le_eq rfl) (AF.le_top _))
    · replace h := ite_f h hc
      refine G_n rfl rfl ?_
      refine G_n rfl rfl ?_
      refine G_n rfl rfl ?_
      refine G_q rfl (op_pick_f rfl (av := .exact (.bool false)) rfl ?_)
      refine G_q rfl (op_move (av := .exact (.bool false)) rfl ?_)
      refine G_n rfl rfl ?_
      refine G_n rfl rfl ?_
      refine G_n rfl rfl ?_
      refine G_n rfl rfl ?_
      refine G_n rfl rfl ?_
      refine G_q rfl (op_pick_f rfl (av := .exact (.bool false)) rfl ?_)
      refine G_q rfl (op_assign (av := .exact (.bool false)) rfl ?_)
      refine G_nil ?_
      refine kI_normal ⟨_, h, ?_⟩
      exact Sub.of_le (AF.le_put (AV.le_eq rfl) (AF.le_top _))
  · refine k_ret ?_
    obtain rfl := Option.some.inj h
    refine kP_any (endN (af' := (AF.put AF0 (some 2) (.exact (.bool x2_j1)))) (σ' := []) _ rfl ?_ ⟨rfl, rfl⟩)
    exact Sub.of_le (AF.le_put (AV.le_eq rfl) (AF.le_top _))
end Go.Proofs.YtdfdjgolijckfaaDoor
/- The functions compute their models, by program. -/
namespace Go.Proofs.YtdfdjgolijckfaaDoor
open Go.RowKit
attribute [local irreducible] AV.exact AV.top AV.row AV.ptr AV.agg AV.tup AV.eptr AV.fn AV.nilq AV.nilqn opA opB opM opR Quiet Loud Reads wpG awp den Sub SubU Pure Fun vecI vecT boxI CellsAll CellsOf OneC LEs LEss
set_option maxRecDepth 100000

set_option maxHeartbeats 4000000 in
theorem m_ref6_arity_ok (a0 : Int × Int × Int) (r : Bool) (h : m_ref6_arity a0 = some r) : Pure Tryd.prog 84 [(.agg (c_api_TypeNode a0))] (.exact (.bool r)) := by
  unfold m_ref6_arity at h
  refine Pure.ofFun (fun_of_awp Tryd.func84 rfl Tryd.ntmps84 (by simp) rfl (res1 rfl) fun E hE => k_end ?_)
  refine k_seq ?_
  refine k_reg .free hmixP (by kernel_rfl) ?_
  refine G_q rfl (op_box (c := c_api_TypeNode a0) rfl CellsOf.agg ?_)
  refine G_q rfl (op_assign (av := .exact (.bool false)) rfl ?_)
  refine G_nil ?_
  refine kC_normal ?_
  refine k_seq ?_
  refine k_reg .free hmixP (by kernel_rfl) ?_
  refine G_q rfl (op_fieldAddr_ptr (o := 1) (c' := (List.drop 1 (c_api_TypeNode a0))) (by kernel_rfl) rfl rfl ?_)
  refine G_q rfl (op_load1p (a := .exact (.int .i64 a0.2.1)) (by kernel_rfl) rfl rfl ?_)
  refine G_q rfl (op_eql rfl rfl ?_)
  refine G_q rfl (op_assign (av := .exact (.bool (decide (a0.2.1 = 0)))) rfl ?_)
  refine G_nil ?_
  refine kC_normal ?_
  refine k_seq ?_
  refine k_seq ?_
  refine k_reg .free hmixP (by kernel_rfl) ?_
  refine G_q rfl (op_fieldAddr_ptr (o := 0) (c' := (List.drop 0 (c_api_TypeNode a0))) (by kernel_rfl) rfl rfl ?_)
  refine G_q rfl (op_load1p (a := .exact (.int .i64 a0.1)) (by kernel_rfl) rfl rfl ?_)
  refine G_nil ?_
  refine kC_normal ?_
  refine k_block ?_
  refine k_join1_0 h (fun (x9_j12 : Bool) => (AF.put (AF.put (AF.put (AF.put AF0 (some 1) (.ptr (c_api_TypeNode a0))) (some 3) (.exact (.bool (decide (a0.2.1 = 0))))) (some 8) (.exact (.int .i64 a0.1))) (some 9) (.exact (.bool x9_j12)))) (fun (x9_j12 : Bool) => []) (fun k12 h => ?_) (fun x9_j12 h => ?_)
  · refine k_seq ?_
    refine k_reg .free hmixP (by kernel_rfl) ?_
    refine G_q rfl (op_eql rfl rfl ?_)
    refine G_q rfl (op_assign (av := .exact (.bool (decide (a0.1 = 1)))) rfl ?_)
    refine G_nil ?_
    refine kC_normal ?_
    refine k_cond_d (p := a0.1 = 1) rfl (fun hc => ?_) (fun hc => ?_)
    · replace h := ite_t h hc
      refine k_skip ?_
      refine kI_normal ⟨_, h, ?_⟩
      exact Sub.of_le (AF.le_put (AV.le_eq rfl) (AF.le_put (AV.le_eq rfl) (AF.le_put (AV.le_eq rfl) (AF.le_put (AV.le_eq rfl) (AF.le_top _)))))
    · replace h := ite_f h hc
      refine k_reg .free hmixP (by kernel_rfl) ?_
      refine G_q rfl (op_eql rfl rfl ?_)
      refine G_q rfl (op_assign (av := .exact (.bool (decide (a0.1 = 6)))) rfl ?_)
      refine G_nil ?_
      refine kI_normal ⟨_, h, ?_⟩
      exact Sub.of_le (AF.le_put (AV.le_eq rfl) (AF.le_put (AV.le_eq rfl) (AF.le_put (AV.le_eq rfl) (AF.le_put (AV.le_eq rfl) (AF.le_top _)))))
  · refine k_cond_b (c := x9_j12) rfl (fun hc => ?_) (fun hc => ?_)
    · replace h := ite_t h hc
      refine k_join1_0 h (fun (x2_j13 : Bool) => (AF.put AF0 (some 2) (.exact (.bool x2_j13)))) (fun (x2_j13 : Bool) => []) (fun k13 h => ?_) (fun x2_j13 h => ?_)
      · refine k_reg .free hmixP (by kernel_rfl) ?_
        refine G_q rfl (op_fieldAddr_ptr (o := 2) (c' := (List.drop 2 (c_api_TypeNode a0))) (by kernel_rfl) rfl rfl ?_)
        refine G_q rfl (op_load1p (a := .exact (.int .i64 a0.2.2)) (by kernel_rfl) rfl rfl ?_)
        refine G_q rfl (op_eql rfl rfl ?_)
        refine G_q rfl (op_move (av := .exact (.bool (decide (a0.2.2 = 0)))) rfl ?_)
        refine G_split (p := a0.2.2 = 0) 15 rfl (fun hc => ?_) (fun hc => ?_)
        · replace h := ite_t h hc
          refine Gy_q rfl rfl rfl (op_fieldAddr_ptr (o := 1) (c' := (List.drop 1 (c_api_TypeNode a0))) (by kernel_rfl) rfl rfl ?_)
          refine Gy_q rfl rfl rfl (op_load1p (a := .exact (.int .i64 a0.2.1)) (by kernel_rfl) rfl rfl ?_)
          refine Gy_q rfl rfl rfl (op_geq rfl rfl ?_)
          refine G_q rfl (op_pick_t rfl (av := .exact (.bool (decide (0 ≤ a0.2.1)))) rfl ?_)
          refine G_q rfl (op_move (av := .exact (.bool (decide (0 ≤ a0.2.1)))) rfl ?_)
          refine G_split (p := 0 ≤ a0.2.1) 20 rfl (fun hc => ?_) (fun hc => ?_)
          · replace h := ite_t h hc
            refine Gy_q rfl rfl rfl (op_fieldAddr_ptr (o := 1) (c' := (List.drop 1 (c_api_TypeNode a0))) (by kernel_rfl) rfl rfl ?_)
            refine Gy_q rfl rfl rfl (op_load1p (a := .exact (.int .i64 a0.2.1)) (by kernel_rfl) rfl rfl ?_)
            refine Gy_q rfl rfl rfl (op_leq rfl rfl ?_)
            refine G_q rfl (op_pick_t rfl (av := .exact (.bool (decide (a0.2.1 ≤ 1073741824)))) rfl ?_)
            refine G_q rfl (op_assign (av := .exact (.bool (decide (a0.2.1 ≤ 1073741824)))) rfl ?_)
            refine G_nil ?_
            refine kI_normal ⟨_, h, ?_⟩
            exact Sub.of_le (AF.le_put (AV.le_eq rfl) (AF.le_top _))
          · replace h := ite_f h hc
            refine G_n rfl rfl ?_
            refine G_n rfl rfl ?_
            refine G_n rfl rfl ?_
            refine G_q rfl (op_pick_f rfl (av := .exact (.bool false)) rfl ?_)
            refine G_q rfl (op_assign (av := .exact (.bool false)) rfl ?_)
            refine G_nil ?_
            refine kI_normal ⟨_, h, ?_⟩
            exact Sub.of_le (AF.le_put (AV.le_eq rfl) (AF.le_top _))
        · replace h := ite_f h hc
          refine G_n rfl rfl ?_
          refine G_n rfl rfl ?_
          refine G_n rfl rfl ?_
          refine G_q rfl (op_pick_f rfl (av := .exact (.bool false)) rfl ?_)
          refine G_q rfl (op_move (av := .exact (.bool false)) rfl ?_)
          refine G_n rfl rfl ?_
          refine G_n rfl rfl ?_
          refine G_n rfl rfl ?_
          refine G_q rfl (op_pick_f rfl (av := .exact (.bool false)) rfl ?_)
          refine G_q rfl (op_assign (av := .exact (.bool false)) rfl ?_)
          refine G_nil ?_
          refine kI_normal ⟨_, h, ?_⟩
          exact Sub.of_le (AF.le_put (AV.le_eq rfl) (AF.le_top _))
      · refine k_ret ?_
        refine kB_ret ?_
        refine kC_ret ?_
        obtain rfl := Option.some.inj h
        refine kP_any (endN (af' := (AF.put AF0 (some 2) (.exact (.bool x2_j13)))) (σ' := []) _ rfl ?_ ⟨rfl, rfl⟩)
        exact Sub.of_le (AF.le_put (AV.le_eq rfl) (AF.le_top _))
    · replace h := ite_f h hc
      refine k_join1_0 h (fun (x25_j14 : Bool) => (AF.put (AF.put (AF.put (AF.put AF0 (some 1) (.ptr (c_api_TypeNode a0))) (some 3) (.exact (.bool (decide (a0.2.1 = 0))))) (some 8) (.exact (.int .i64 a0.1))) (some 25) (.exact (.bool x25_j14)))) (fun (x25_j14 : Bool) => []) (fun k14 h => ?_) (fun x25_j14 h => ?_)
      · refine k_seq ?_
        refine k_reg .free hmixP (by kernel_rfl) ?_
        refine G_q rfl (op_eql rfl rfl ?_)
        refine G_q rfl (op_assign (av := .exact (.bool (decide (a0.1 = 2)))) rfl ?_)
        refine G_nil ?_
        refine kC_normal ?_
        refine k_cond_d (p := a0.1 = 2) rfl (fun hc => ?_) (fun hc => ?_)
        · replace h := ite_t h hc
          refine k_skip ?_
          refine kI_normal ⟨_, h, ?_⟩
          exact Sub.of_le (AF.le_put (AV.le_eq rfl) (AF.le_put (AV.le_eq rfl) (AF.le_put (AV.le_eq rfl) (AF.le_put (AV.le_eq rfl) (AF.le_top _)))))
        · replace h := ite_f h hc
          refine k_seq ?_
          refine k_reg .free hmixP (by kernel_rfl) ?_
          refine G_q rfl (op_eql rfl rfl ?_)
          refine G_q rfl (op_assign (av := .exact (.bool (decide (a0.1 = 3)))) rfl ?_)
          refine G_nil ?_
          refine kC_normal ?_
          refine k_cond_d (p := a0.1 = 3) rfl (fun hc => ?_) (fun hc => ?_)
          · replace h := ite_t h hc
            refine k_skip ?_
            refine kI_normal ⟨_, h, ?_⟩
            exact Sub.of_le (AF.le_put (AV.le_eq rfl) (AF.le_put (AV.le_eq rfl) (AF.le_put (AV.le_eq rfl) (AF.le_put (AV.le_eq rfl) (AF.le_top _)))))
          · replace h := ite_f h hc
            refine k_seq ?_
            refine k_reg .free hmixP (by kernel_rfl) ?_
            refine G_q rfl (op_eql rfl rfl ?_)
            refine G_q rfl (op_assign (av := .exact (.bool (decide (a0.1 = 4)))) rfl ?_)
            refine G_nil ?_
            refine kC_normal ?_
            refine k_cond_d (p := a0.1 = 4) rfl (fun hc => ?_) (fun hc => ?_)
            · replace h := ite_t h hc
              refine k_skip ?_
              refine kI_normal ⟨_, h, ?_⟩
              exact Sub.of_le (AF.le_put (AV.le_eq rfl) (AF.le_put (AV.le_eq rfl) (AF.le_put (AV.le_eq rfl) (AF.le_put (AV.le_eq rfl) (AF.le_top _)))))
            · replace h := ite_f h hc
              refine k_reg .free hmixP (by kernel_rfl) ?_
              refine G_q rfl (op_eql rfl rfl ?_)
              refine G_q rfl (op_assign (av := .exact (.bool (decide (a0.1 = 5)))) rfl ?_)
              refine G_nil ?_
              refine kI_normal ⟨_, h, ?_⟩
              exact Sub.of_le (AF.le_put (AV.le_eq rfl) (AF.le_put (AV.le_eq rfl) (AF.le_put (AV.le_eq rfl) (AF.le_put (AV.le_eq rfl) (AF.le_top _)))))
      · refine k_cond_b (c := x25_j14) rfl (fun hc => ?_) (fun hc => ?_)
        · replace h := ite_t h hc
          refine k_join1_0 h (fun (x2_j15 : Bool) => (AF.put AF0 (some 2) (.exact (.bool x2_j15)))) (fun (x2_j15 : Bool) => []) (fun k15 h => ?_) (fun x2_j15 h => ?_)
          · refine k_reg .free hmixP (by kernel_rfl) ?_
            refine G_q rfl (op_move (av := .exact (.bool (decide (a0.2.1 = 0)))) rfl ?_)
            refine G_q rfl (op_move (av := .exact (.bool (decide (a0.2.1 = 0)))) rfl ?_)
            refine G_split (p := a0.2.1 = 0) 31 rfl (fun hc => ?_) (fun hc => ?_)
            · replace h := ite_t h hc
              refine Gy_q rfl rfl rfl (op_fieldAddr_ptr (o := 2) (c' := (List.drop 2 (c_api_TypeNode a0))) (by kernel_rfl) rfl rfl ?_)
              refine Gy_q rfl rfl rfl (op_load1p (a := .exact (.int .i64 a0.2.2)) (by kernel_rfl) rfl rfl ?_)
              refine Gy_q rfl rfl rfl (op_eql rfl rfl ?_)
              refine G_q rfl (op_pick_t rfl (av := .exact (.bool (decide (a0.2.2 = 0)))) rfl ?_)
              refine G_q rfl (op_assign (av := .exact (.bool (decide (a0.2.2 = 0)))) rfl ?_)
              refine G_nil ?_
              refine kI_normal ⟨_, h, ?_⟩
              exact Sub.of_le (AF.le_put (AV.le_eq rfl) (AF.le_top _))
            · replace h := ite_f h hc
              refine G_n rfl rfl ?_
              refine G_n rfl rfl ?_
              refine G_n rfl rfl ?_
              refine G_q rfl (op_pick_f rfl (av := .exact (.bool false)) rfl ?_)
              refine G_q rfl (op_assign (av := .exact (.bool false)) rfl ?_)
              refine G_nil ?_
              refine kI_normal ⟨_, h, ?_⟩
              exact Sub.of_le (AF.le_put (AV.le_eq rfl) (AF.le_top _))
          · refine k_ret ?_
            refine kB_ret ?_
            refine kC_ret ?_
            obtain rfl := Option.some.inj h
            refine kP_any (endN (af' := (AF.put AF0 (some 2) (.exact (.bool x2_j15)))) (σ' := []) _ rfl ?_ ⟨rfl, rfl⟩)
            exact Sub.of_le (AF.le_put (AV.le_eq rfl) (AF.le_top _))
        · replace h := ite_f h hc
          refine k_join1_0 h (fun (x36_j16 : Bool) => (AF.put (AF.put (AF.put (AF.put AF0 (some 1) (.ptr (c_api_TypeNode a0))) (some 3) (.exact (.bool (decide (a0.2.1 = 0))))) (some 8) (.exact (.int .i64 a0.1))) (some 36) (.exact (.bool x36_j16)))) (fun (x36_j16 : Bool) => []) (fun k16 h => ?_) (fun x36_j16 h => ?_)
          · refine k_seq ?_
            refine k_reg .free hmixP (by kernel_rfl) ?_
            refine G_q rfl (op_eql rfl rfl ?_)
            refine G_q rfl (op_assign (av := .exact (.bool (decide (a0.1 = 7)))) rfl ?_)
            refine G_nil ?_
            refine kC_normal ?_
            refine k_cond_d (p := a0.1 = 7) rfl (fun hc => ?_) (fun hc => ?_)
            · replace h := ite_t h hc
              refine k_skip ?_
              refine kI_normal ⟨_, h, ?_⟩
              exact Sub.of_le (AF.le_put (AV.le_eq rfl) (AF.le_put (AV.le_eq rfl) (AF.le_put (AV.le_eq rfl) (AF.le_put (AV.le_eq rfl) (AF.le_top _)))))
            · replace h := ite_f h hc
              refine k_reg .free hmixP (by kernel_rfl) ?_
              refine G_q rfl (op_eql rfl rfl ?_)
              refine G_q rfl (op_assign (av := .exact (.bool (decide (a0.1 = 8)))) rfl ?_)
              refine G_nil ?_
              refine kI_normal ⟨_, h, ?_⟩
              exact Sub.of_le (AF.le_put (AV.le_eq rfl) (AF.le_put (AV.le_eq rfl) (AF.le_put (AV.le_eq rfl) (AF.le_put (AV.le_eq rfl) (AF.le_top _)))))
          · refine k_cond_b (c := x36_j16) rfl (fun hc => ?_) (fun hc => ?_)
            · replace h := ite_t h hc
              refine k_join1_0 h (fun (x2_j17 : Bool) => (AF.put AF0 (some 2) (.exact (.bool x2_j17)))) (fun (x2_j17 : Bool) => []) (fun k17 h => ?_) (fun x2_j17 h => ?_)
              · refine k_reg .free hmixP (by kernel_rfl) ?_
                refine G_q rfl (op_move (av := .exact (.bool (decide (a0.2.1 = 0)))) rfl ?_)
                refine G_q rfl (op_move (av := .exact (.bool (decide (a0.2.1 = 0)))) rfl ?_)
                refine G_split (p := a0.2.1 = 0) 40 rfl (fun hc => ?_) (fun hc => ?_)
                · replace h := ite_t h hc
                  refine Gy_q rfl rfl rfl (op_fieldAddr_ptr (o := 2) (c' := (List.drop 2 (c_api_TypeNode a0))) (by kernel_rfl) rfl rfl ?_)
                  refine Gy_q rfl rfl rfl (op_load1p (a := .exact (.int .i64 a0.2.2)) (by kernel_rfl) rfl rfl ?_)
                  refine Gy_q rfl rfl rfl (op_eql rfl rfl ?_)
                  refine G_q rfl (op_pick_t rfl (av := .exact (.bool (decide (a0.2.2 = 1)))) rfl ?_)
                  refine G_q rfl (op_assign (av := .exact (.bool (decide (a0.2.2 = 1)))) rfl ?_)
                  refine G_nil ?_
                  refine kI_normal ⟨_, h, ?_⟩
                  exact Sub.of_le (AF.le_put (AV.le_eq rfl) (AF.le_top _))
                · replace h := ite_f h hc
                  refine G_n rfl rfl ?_
                  refine G_n rfl rfl ?_
                  refine G_n rfl rfl ?_
                  refine G_q rfl (op_pick_f rfl (av := .exact (.bool false)) rfl ?_)
                  refine G_q rfl (op_assign (av := .exact (.bool false)) rfl ?_)
                  refine G_nil ?_
                  refine kI_normal ⟨_, h, ?_⟩
                  exact Sub.of_le (AF.le_put (AV.le_eq rfl) (AF.le_top _))
              · refine k_ret ?_
                refine kB_ret ?_
                refine kC_ret ?_
                obtain rfl := Option.some.inj h
                refine kP_any (endN (af' := (AF.put AF0 (some 2) (.exact (.bool x2_j17)))) (σ' := []) _ rfl ?_ ⟨rfl, rfl⟩)
                exact Sub.of_le (AF.le_put (AV.le_eq rfl) (AF.le_top _))
            · replace h := ite_f h hc
              refine k_join1_0 h (fun (x45_j18 : Bool) => (AF.put (AF.put (AF.put (AF.put AF0 (some 1) (.ptr (c_api_TypeNode a0))) (some 3) (.exact (.bool (decide (a0.2.1 = 0))))) (some 8) (.exact (.int .i64 a0.1))) (some 45) (.exact (.bool x45_j18)))) (fun (x45_j18 : Bool) => []) (fun k18 h => ?_) (fun x45_j18 h => ?_)
              · refine k_seq ?_
                refine k_reg .free hmixP (by kernel_rfl) ?_
                refine G_q rfl (op_eql rfl rfl ?_)
                refine G_q rfl (op_assign (av := .exact (.bool (decide (a0.1 = 9)))) rfl ?_)
                refine G_nil ?_
                refine kC_normal ?_
                refine k_cond_d (p := a0.1 = 9) rfl (fun hc => ?_) (fun hc => ?_)
                · replace h := ite_t h hc
                  refine k_skip ?_
                  refine kI_normal ⟨_, h, ?_⟩
                  exact Sub.of_le (AF.le_put (AV.le_eq rfl) (AF.le_put (AV.le_eq rfl) (AF.le_put (AV.le_eq rfl) (AF.le_put (AV.le_eq rfl) (AF.le_top _)))))
                · replace h := ite_f h hc
                  refine k_seq ?_
                  refine k_reg .free hmixP (by kernel_rfl) ?_
                  refine G_q rfl (op_eql rfl rfl ?_)
                  refine G_q rfl (op_assign (av := .exact (.bool (decide (a0.1 = 12)))) rfl ?_)
                  refine G_nil ?_
                  refine kC_normal ?_
                  refine k_cond_d (p := a0.1 = 12) rfl (fun hc => ?_) (fun hc => ?_)
                  · replace h := ite_t h hc
                    refine k_skip ?_
                    refine kI_normal ⟨_, h, ?_⟩
                    exact Sub.of_le (AF.le_put (AV.le_eq rfl) (AF.le_put (AV.le_eq rfl) (AF.le_put (AV.le_eq rfl) (AF.le_put (AV.le_eq rfl) (AF.le_top _)))))
                  · replace h := ite_f h hc
                    refine k_reg .free hmixP (by kernel_rfl) ?_
                    refine G_q rfl (op_eql rfl rfl ?_)
                    refine G_q rfl (op_assign (av := .exact (.bool (decide (a0.1 = 13)))) rfl ?_)
                    refine G_nil ?_
                    refine kI_normal ⟨_, h, ?_⟩
                    exact Sub.of_le (AF.le_put (AV.le_eq rfl) (AF.le_put (AV.le_eq rfl) (AF.le_put (AV.le_eq rfl) (AF.le_put (AV.le_eq rfl) (AF.le_top _)))))
              · refine k_cond_b (c := x45_j18) rfl (fun hc => ?_) (fun hc => ?_)
                · replace h := ite_t h hc
                  refine k_join1_0 h (fun (x2_j19 : Bool) => (AF.put AF0 (some 2) (.exact (.bool x2_j19)))) (fun (x2_j19 : Bool) => []) (fun k19 h => ?_) (fun x2_j19 h => ?_)
                  · refine k_reg .free hmixP (by kernel_rfl) ?_
                    refine G_q rfl (op_move (av := .exact (.bool (decide (a0.2.1 = 0)))) rfl ?_)
                    refine G_q rfl (op_move (av := .exact (.bool (decide (a0.2.1 = 0)))) rfl ?_)
                    refine G_split (p := a0.2.1 = 0) 50 rfl (fun hc => ?_) (fun hc => ?_)
                    · replace h := ite_t h hc
                      refine Gy_q rfl rfl rfl (op_fieldAddr_ptr (o := 2) (c' := (List.drop 2 (c_api_TypeNode a0))) (by kernel_rfl) rfl rfl ?_)
                      refine Gy_q rfl rfl rfl (op_load1p (a := .exact (.int .i64 a0.2.2)) (by kernel_rfl) rfl rfl ?_)
                      refine Gy_q rfl rfl rfl (op_eql rfl rfl ?_)
                      refine G_q rfl (op_pick_t rfl (av := .exact (.bool (decide (a0.2.2 = 2)))) rfl ?_)
                      refine G_q rfl (op_assign (av := .exact (.bool (decide (a0.2.2 = 2)))) rfl ?_)
                      refine G_nil ?_
                      refine kI_normal ⟨_, h, ?_⟩
                      exact Sub.of_le (AF.le_put (AV.le_eq rfl) (AF.le_top _))
                    · replace h := ite_f h hc
                      refine G_n rfl rfl ?_
                      refine G_n rfl rfl ?_
                      refine G_n rfl rfl ?_
                      refine G_q rfl (op_pick_f rfl (av := .exact (.bool false)) rfl ?_)
                      refine G_q rfl (op_assign (av := .exact (.bool false)) rfl ?_)
                      refine G_nil ?_
                      refine kI_normal ⟨_, h, ?_⟩
                      exact Sub.of_le (AF.le_put (AV.le_eq rfl) (AF.le_top _))
                  · refine k_ret ?_
                    refine kB_ret ?_
                    refine kC_ret ?_
                    obtain rfl := Option.some.inj h
                    refine kP_any (endN (af' := (AF.put AF0 (some 2) (.exact (.bool x2_j19)))) (σ' := []) _ rfl ?_ ⟨rfl, rfl⟩)
                    exact Sub.of_le (AF.le_put (AV.le_eq rfl) (AF.le_top _))
                · replace h := ite_f h hc
                  refine k_seq ?_
                  refine k_reg .free hmixP (by kernel_rfl) ?_
                  refine G_q rfl (op_eql rfl rfl ?_)
                  refine G_q rfl (op_assign (av := .exact (.bool (decide (a0.1 = 10)))) rfl ?_)
                  refine G_nil ?_
                  refine kC_normal ?_
                  refine k_cond_d (p := a0.1 = 10) rfl (fun hc => ?_) (fun hc => ?_)
                  · replace h := ite_t h hc
                    refine k_join1_0 h (fun (x2_j20 : Bool) => (AF.put AF0 (some 2) (.exact (.bool x2_j20)))) (fun (x2_j20 : Bool) => []) (fun k20 h => ?_) (fun x2_j20 h => ?_)
                    · refine k_reg .free hmixP (by kernel_rfl) ?_
                      refine G_q rfl (op_move (av := .exact (.bool (decide (a0.2.1 = 0)))) rfl ?_)
                      refine G_q rfl (op_move (av := .exact (.bool (decide (a0.2.1 = 0)))) rfl ?_)
                      refine G_split (p := a0.2.1 = 0) 58 rfl (fun hc => ?_) (fun hc => ?_)
                      · replace h := ite_t h hc
                        refine Gy_q rfl rfl rfl (op_fieldAddr_ptr (o := 2) (c' := (List.drop 2 (c_api_TypeNode a0))) (by kernel_rfl) rfl rfl ?_)
                        refine Gy_q rfl rfl rfl (op_load1p (a := .exact (.int .i64 a0.2.2)) (by kernel_rfl) rfl rfl ?_)
                        refine Gy_q rfl rfl rfl (op_geq rfl rfl ?_)
                        refine G_q rfl (op_pick_t rfl (av := .exact (.bool (decide (2 ≤ a0.2.2)))) rfl ?_)
                        refine G_q rfl (op_move (av := .exact (.bool (decide (2 ≤ a0.2.2)))) rfl ?_)
                        refine G_split (p := 2 ≤ a0.2.2) 63 rfl (fun hc => ?_) (fun hc => ?_)
                        · replace h := ite_t h hc
                          refine Gy_q rfl rfl rfl (op_fieldAddr_ptr (o := 2) (c' := (List.drop 2 (c_api_TypeNode a0))) (by kernel_rfl) rfl rfl ?_)
                          refine Gy_q rfl rfl rfl (op_load1p (a := .exact (.int .i64 a0.2.2)) (by kernel_rfl) rfl rfl ?_)
                          refine Gy_q rfl rfl rfl (op_leq rfl rfl ?_)
                          refine G_q rfl (op_pick_t rfl (av := .exact (.bool (decide (a0.2.2 ≤ 8)))) rfl ?_)
                          refine G_q rfl (op_assign (av := .exact (.bool (decide (a0.2.2 ≤ 8)))) rfl ?_)
                          refine G_nil ?_
                          refine kI_normal ⟨_, h, ?_⟩
                          exact Sub.of_le (AF.le_put (AV.le_eq rfl) (AF.le_top _))
                        · replace h := ite_f h hc
                          refine G_n rfl rfl ?_
                          refine G_n rfl rfl ?_
                          refine G_n rfl rfl ?_
                          refine G_q rfl (op_pick_f rfl (av := .exact (.bool false)) rfl ?_)
                          refine G_q rfl (op_assign (av := .exact (.bool false)) rfl ?_)
                          refine G_nil ?_
                          refine kI_normal ⟨_, h, ?_⟩
                          exact Sub.of_le (AF.le_put (AV.le_eq rfl) (AF.le_top _))
                      · replace h := ite_f h hc
                        refine G_n rfl rfl ?_
                        refine G_n rfl rfl ?_
                        refine G_n rfl rfl ?_
                        refine G_q rfl (op_pick_f rfl (av := .exact (.bool false)) rfl ?_)
                        refine G_q rfl (op_move (av := .exact (.bool false)) rfl ?_)
                        refine G_n rfl rfl ?_
                        refine G_n rfl rfl ?_
                        refine G_n rfl rfl ?_
                        refine G_q rfl (op_pick_f rfl (av := .exact (.bool false)) rfl ?_)
                        refine G_q rfl (op_assign (av := .exact (.bool false)) rfl ?_)
                        refine G_nil ?_
                        refine kI_normal ⟨_, h, ?_⟩
                        exact Sub.of_le (AF.le_put (AV.le_eq rfl) (AF.le_top _))
                    · refine k_ret ?_
                      refine kB_ret ?_
                      refine kC_ret ?_
                      obtain rfl := Option.some.inj h
                      refine kP_any (endN (af' := (AF.put AF0 (some 2) (.exact (.bool x2_j20)))) (σ' := []) _ rfl ?_ ⟨rfl, rfl⟩)
                      exact Sub.of_le (AF.le_put (AV.le_eq rfl) (AF.le_top _))
                  · replace h := ite_f h hc
                    refine k_seq ?_
                    refine k_reg .free hmixP (by kernel_rfl) ?_
                    refine G_q rfl (op_eql rfl rfl ?_)
                    refine G_q rfl (op_assign (av := .exact (.bool (decide (a0.1 = 11)))) rfl ?_)
                    refine G_nil ?_
                    refine kC_normal ?_
                    refine k_cond_d (p := a0.1 = 11) rfl (fun hc => ?_) (fun hc => ?_)
                    · replace h := ite_t h hc
                      refine k_join1_0 h (fun (x2_j21 : Bool) => (AF.put AF0 (some 2) (.exact (.bool x2_j21)))) (fun (x2_j21 : Bool) => []) (fun k21 h => ?_) (fun x2_j21 h => ?_)
                      · refine k_reg .free hmixP (by kernel_rfl) ?_
                        refine G_q rfl (op_move (av := .exact (.bool (decide (a0.2.1 = 0)))) rfl ?_)
                        refine G_q rfl (op_move (av := .exact (.bool (decide (a0.2.1 = 0)))) rfl ?_)
                        refine G_split (p := a0.2.1 = 0) 71 rfl (fun hc => ?_) (fun hc => ?_)
                        · replace h := ite_t h hc
                          refine Gy_q rfl rfl rfl (op_fieldAddr_ptr (o := 2) (c' := (List.drop 2 (c_api_TypeNode a0))) (by kernel_rfl) rfl rfl ?_)
                          refine Gy_q rfl rfl rfl (op_load1p (a := .exact (.int .i64 a0.2.2)) (by kernel_rfl) rfl rfl ?_)
                          refine Gy_q rfl rfl rfl (op_geq rfl rfl ?_)
                          refine G_q rfl (op_pick_t rfl (av := .exact (.bool (decide (1 ≤ a0.2.2)))) rfl ?_)
                          refine G_q rfl (op_move (av := .exact (.bool (decide (1 ≤ a0.2.2)))) rfl ?_)
                          refine G_split (p := 1 ≤ a0.2.2) 76 rfl (fun hc => ?_) (fun hc => ?_)
                          · replace h := ite_t h hc
                            refine Gy_q rfl rfl rfl (op_fieldAddr_ptr (o := 2) (c' := (List.drop 2 (c_api_TypeNode a0))) (by kernel_rfl) rfl rfl ?_)
                            refine Gy_q rfl rfl rfl (op_load1p (a := .exact (.int .i64 a0.2.2)) (by kernel_rfl) rfl rfl ?_)
                            refine Gy_q rfl rfl rfl (op_leq rfl rfl ?_)
                            refine G_q rfl (op_pick_t rfl (av := .exact (.bool (decide (a0.2.2 ≤ 9)))) rfl ?_)
                            refine G_q rfl (op_assign (av := .exact (.bool (decide (a0.2.2 ≤ 9)))) rfl ?_)
                            refine G_nil ?_
                            refine kI_normal ⟨_, h, ?_⟩
                            exact Sub.of_le (AF.le_put (AV.le_eq rfl) (AF.le_top _))
                          · replace h := ite_f h hc
                            refine G_n rfl rfl ?_
                            refine G_n rfl rfl ?_
                            refine G_n rfl rfl ?_
                            refine G_q rfl (op_pick_f rfl (av := .exact (.bool false)) rfl ?_)
                            refine G_q rfl (op_assign (av := .exact (.bool false)) rfl ?_)
                            refine G_nil ?_
                            refine kI_normal ⟨_, h, ?_⟩
                            exact Sub.of_le (AF.le_put (AV.le_eq rfl) (AF.le_top _))
                        · replace h := ite_f h hc
                          refine G_n rfl rfl ?_
                          refine G_n rfl rfl ?_
                          refine G_n rfl rfl ?_
                          refine G_q rfl (op_pick_f rfl (av := .exact (.bool false)) rfl ?_)
                          refine G_q rfl (op_move (av := .exact (.bool false)) rfl ?_)
                          refine G_n rfl rfl ?_
                          refine G_n rfl rfl ?_
                          refine G_n rfl rfl ?_
                          refine G_q rfl (op_pick_f rfl (av := .exact (.bool false)) rfl ?_)
                          refine G_q rfl (op_assign (av := .exact (.bool false)) rfl ?_)
                          refine G_nil ?_
                          refine kI_normal ⟨_, h, ?_⟩
                          exact Sub.of_le (AF.le_put (AV.le_eq rfl) (AF.le_top _))
                      · refine k_ret ?_
                        refine kB_ret ?_
                        refine kC_ret ?_
                        obtain rfl := Option.some.inj h
                        refine kP_any (endN (af' := (AF.put AF0 (some 2) (.exact (.bool x2_j21)))) (σ' := []) _ rfl ?_ ⟨rfl, rfl⟩)
                        exact Sub.of_le (AF.le_put (AV.le_eq rfl) (AF.le_top _))
                    · replace h := ite_f h hc
                      refine k_skip ?_
                      refine kB_normal ?_
                      refine kC_normal ?_
                      refine k_seq ?_
                      refine k_reg .free hmixP (by kernel_rfl) ?_
                      refine G_q rfl (op_assign (av := .exact (.bool false)) rfl ?_)
                      refine G_nil ?_
                      refine kC_normal ?_
                      refine k_ret ?_
                      obtain rfl := Option.some.inj h
                      refine kP_any (endN (af' := (AF.put AF0 (some 2) (.exact (.bool false)))) (σ' := []) _ rfl ?_ ⟨rfl, rfl⟩)
                      exact Sub.of_le (AF.le_put (AV.le_eq rfl) (AF.le_top _))
set_option maxHeartbeats 4000000 in
theorem m_ref6_walk_F_ok (self_ref6_walk : (List (Int × Int × Int)) → Int → Int → Option Int) (hself_ref6_walk : ∀ (a0 : List (Int × Int × Int)) (a1 : Int) (a2 : Int) (r : Int), self_ref6_walk a0 a1 a2 = some r → Pure Tryd.prog 64 [(.row 3 c_api_TypeNode a0), (.exact (.int .i64 a1)), (.exact (.int .i64 a2))] (.exact (.int .i64 r))) (a0 : List (Int × Int × Int)) (a1 : Int) (a2 : Int) (r : Int) (h : m_ref6_walk_F self_ref6_walk a0 a1 a2 = some r) : Pure Tryd.prog 64 [(.row 3 c_api_TypeNode a0), (.exact (.int .i64 a1)), (.exact (.int .i64 a2))] (.exact (.int .i64 r)) := by
  unfold m_ref6_walk_F at h
  refine Pure.ofFun (fun_of_awp Tryd.func64 rfl Tryd.ntmps64 (by simp) rfl (res1 rfl) fun E hE => k_end ?_)
  refine k_seq ?_
  refine k_reg .free hmixP (by kernel_rfl) ?_
  refine G_q rfl (op_assign (av := .exact (.int .i64 0)) rfl ?_)
  refine G_nil ?_
  refine kC_normal ?_
  refine k_seq ?_
  refine k_join1_0 h (fun (x24_j7 : Bool) => (AF.put (AF.put (AF.put (AF.put AF0 (some 0) (.row 3 c_api_TypeNode a0)) (some 1) (.exact (.int .i64 a1))) (some 2) (.exact (.int .i64 a2))) (some 24) (.exact (.bool x24_j7)))) (fun (x24_j7 : Bool) => []) (fun k7 h => ?_) (fun x24_j7 h => ?_)
  · refine k_reg .free hmixP (by kernel_rfl) ?_
    refine G_q rfl (op_move (av := .exact (.int .i64 a1)) rfl ?_)
    refine G_q rfl (op_move (av := .row 3 c_api_TypeNode a0) rfl ?_)
    refine G_q rfl (op_len_row (by kernel_rfl) rfl ?_)
    refine G_q rfl (op_geq rfl rfl ?_)
    refine G_q rfl (op_move (av := .exact (.bool (decide ((List.length a0 : Int) ≤ a1)))) rfl ?_)
    refine G_split (p := (List.length a0 : Int) ≤ a1) 13 rfl (fun hc => ?_) (fun hc => ?_)
    · replace h := ite_t h hc
      refine G_n rfl rfl ?_
      refine G_n rfl rfl ?_
      refine G_q rfl (op_pick_t rfl (av := .exact (.bool true)) rfl ?_)
      refine G_q rfl (op_move (av := .exact (.bool true)) rfl ?_)
      refine G_n rfl rfl ?_
      refine G_n rfl rfl ?_
      refine G_n rfl rfl ?_
      refine G_n rfl rfl ?_
      refine G_n rfl rfl ?_
      refine G_n rfl rfl ?_
      refine G_q rfl (op_pick_t rfl (av := .exact (.bool true)) rfl ?_)
      refine G_nil ?_
      refine kI_normal ⟨_, h, ?_⟩
      exact Sub.of_le (AF.le_put (AV.le_eq rfl) (AF.le_put (AV.le_eq rfl) (AF.le_put (AV.le_eq rfl) (AF.le_put (AV.le_eq rfl) (AF.le_top _)))))
    · replace h := ite_f h hc
      refine Gy_q rfl rfl rfl (op_move (av := .exact (.int .i64 a2)) rfl ?_)
      refine Gy_q rfl rfl rfl (op_gtr rfl rfl ?_)
      refine G_q rfl (op_pick_f rfl (av := .exact (.bool (decide (64 < a2)))) rfl ?_)
      refine G_q rfl (op_move (av := .exact (.bool (decide (64 < a2)))) rfl ?_)
      refine G_split (p := 64 < a2) 17 rfl (fun hc => ?_) (fun hc => ?_)
      · replace h := ite_t h hc
        refine G_n rfl rfl ?_
        refine G_n rfl rfl ?_
        refine G_n rfl rfl ?_
        refine G_n rfl rfl ?_
        refine G_n rfl rfl ?_
        refine G_n rfl rfl ?_
        refine G_q rfl (op_pick_t rfl (av := .exact (.bool true)) rfl ?_)
        refine G_nil ?_
        refine kI_normal ⟨_, h, ?_⟩
        exact Sub.of_le (AF.le_put (AV.le_eq rfl) (AF.le_put (AV.le_eq rfl) (AF.le_put (AV.le_eq rfl) (AF.le_put (AV.le_eq rfl) (AF.le_top _)))))
      · replace h := ite_f h hc
        refine Gy_q rfl rfl rfl (op_move (av := .row 3 c_api_TypeNode a0) rfl ?_)
        refine Gy_q rfl rfl rfl (op_move (av := .exact (.int .i64 a1)) rfl ?_)
        obtain ⟨n10, h⟩ := need_some h
        refine Gy_q rfl rfl rfl (op_index_row (by kernel_rfl) rfl rfl n10.1 n10.2 ?_)
        refine Gy_q rfl rfl rfl (op_loadNp (m := 3) (c' := c_api_TypeNode (gi a0 a1)) (by kernel_rfl) rfl rfl rfl ?_)
        obtain ⟨y11, hy11, h⟩ := bnd1_some h
        refine Gy_q rfl rfl rfl (op_pure (m_ref6_arity_ok _ _ hy11) Tryd.func84 (by kernel_rfl) (LEs.cons (AV.le_eq rfl) LEs.nil) ?_)
        refine Gy_q rfl rfl rfl (op_not rfl ?_)
        refine G_q rfl (op_pick_f rfl (av := .exact (.bool (!y11))) rfl ?_)
        refine G_nil ?_
        refine kI_normal ⟨_, h, ?_⟩
        exact Sub.of_le (AF.le_put (AV.le_eq rfl) (AF.le_put (AV.le_eq rfl) (AF.le_put (AV.le_eq rfl) (AF.le_put (AV.le_eq rfl) (AF.le_top _)))))
  · refine k_cond_b (c := x24_j7) rfl (fun hc => ?_) (fun hc => ?_)
    · replace h := ite_t h hc
      refine k_seq ?_
      refine k_reg .free hmixP (by kernel_rfl) ?_
      refine G_q rfl (op_assign (av := .exact (.int .i64 (-1))) rfl ?_)
      refine G_nil ?_
      refine kC_normal ?_
      refine k_ret ?_
      refine kC_ret ?_
      obtain rfl := Option.some.inj h
      refine kP_any (endN (af' := (AF.put AF0 (some 6) (.exact (.int .i64 (-1))))) (σ' := []) _ rfl ?_ ⟨rfl, rfl⟩)
      exact Sub.of_le (AF.le_put (AV.le_eq rfl) (AF.le_top _))
    · replace h := ite_f h hc
      refine k_skip ?_
      refine kC_normal ?_
      refine k_seq ?_
      refine k_reg .free hmixP (by kernel_rfl) ?_
      refine G_q rfl (op_move (av := .row 3 c_api_TypeNode a0) rfl ?_)
      refine G_q rfl (op_move (av := .exact (.int .i64 a1)) rfl ?_)
      obtain ⟨n12, h⟩ := need_some h
      refine G_q rfl (op_index_row (by kernel_rfl) rfl rfl n12.1 n12.2 ?_)
      refine G_q rfl (op_fieldAddr_ptr (o := 2) (c' := (List.drop 2 (c_api_TypeNode (gi a0 a1)))) (by kernel_rfl) rfl rfl ?_)
      refine G_q rfl (op_load1p (a := .exact (.int .i64 ((gi a0 a1).2.2))) (by kernel_rfl) rfl rfl ?_)
      refine G_q rfl (op_assign (av := .exact (.int .i64 ((gi a0 a1).2.2))) rfl ?_)
      refine G_nil ?_
      refine kC_normal ?_
      refine k_seq ?_
      refine k_reg .free hmixP (by kernel_rfl) ?_
      refine G_q rfl (op_move (av := .exact (.int .i64 a1)) rfl ?_)
      refine G_q rfl (op_add rfl rfl rfl ?_)
      refine G_q rfl (op_assign (av := .exact (.int .i64 (i64 (a1 + 1)))) rfl ?_)
      refine G_nil ?_
      refine kC_normal ?_
      refine k_join1_0 h (fun (x1_j13 : Int) => (AF.put AF0 (some 1) (.exact (.int .i64 x1_j13)))) (fun (x1_j13 : Int) => []) (fun k13 h => ?_) (fun x1_j13 h => ?_)
      · refine k_seq ?_
        refine k_reg .free hmixP (by kernel_rfl) ?_
        refine G_q rfl (op_assign (av := .exact (.int .i64 0)) rfl ?_)
        refine G_nil ?_
        refine kC_normal ?_
        refine k_block ?_
        refine k_loop2_0 (m_ref6_walk_L2 self_ref6_walk a0 a1 a2 k13) (m_ref6_walk_B2 self_ref6_walk a0 a1 a2 k13) (fun _ _ => rfl) (fun m _ _ => rfl) h (fun (x1_l2 : Int) (x8_l2 : Int) => (AF.put (AF.put (AF.put (AF.put (AF.put AF0 (some 0) (.row 3 c_api_TypeNode a0)) (some 1) (.exact (.int .i64 x1_l2))) (some 2) (.exact (.int .i64 a2))) (some 7) (.exact (.int .i64 ((gi a0 a1).2.2)))) (some 8) (.exact (.int .i64 x8_l2)))) (fun (x1_l2 : Int) (x8_l2 : Int) => []) ?_ (fun rec2 x1_l2 x8_l2 h => ?_)
        · exact Sub.of_le (AF.le_put (AV.le_eq rfl) (AF.le_put (AV.le_eq rfl) (AF.le_put (AV.le_eq rfl) (AF.le_put (AV.le_eq rfl) (AF.le_put (AV.le_eq rfl) (AF.le_top _))))))
        · unfold m_ref6_walk_B2 at h
          refine k_seq ?_
          refine k_seq ?_
          refine k_reg .free hmixP (by kernel_rfl) ?_
          refine G_q rfl (op_move (av := .exact (.int .i64 x8_l2)) rfl ?_)
          refine G_q rfl (op_move (av := .exact (.int .i64 ((gi a0 a1).2.2))) rfl ?_)
          refine G_q rfl (op_lss rfl rfl ?_)
          refine G_nil ?_
          refine kC_normal ?_
          refine k_cond_d (p := x8_l2 < ((gi a0 a1).2.2)) rfl (fun hc => ?_) (fun hc => ?_)
          · replace h := ite_t h hc
            refine k_skip ?_
            refine kC_normal ?_
            refine k_seq ?_
            refine k_block ?_
            refine k_seq ?_
            refine k_reg .free hmixP (by kernel_rfl) ?_
            refine G_q rfl (op_move (av := .row 3 c_api_TypeNode a0) rfl ?_)
            refine G_q rfl (op_move (av := .exact (.int .i64 x1_l2)) rfl ?_)
            refine G_q rfl (op_move (av := .exact (.int .i64 a2)) rfl ?_)
            refine G_q rfl (op_add rfl rfl rfl ?_)
            obtain ⟨y20, hy20, h⟩ := bnd1_some h
            refine G_q rfl (op_pure (hself_ref6_walk _ _ _ _ hy20) Tryd.func64 (by kernel_rfl) (LEs.cons (AV.le_eq rfl) (LEs.cons (AV.le_eq rfl) (LEs.cons (AV.le_eq rfl) LEs.nil))) ?_)
            refine G_q rfl (op_assign (av := .exact (.int .i64 y20)) rfl ?_)
            refine G_nil ?_
            refine kC_normal ?_
            refine k_seq ?_
            refine k_reg .free hmixP (by kernel_rfl) ?_
            refine G_q rfl (op_move (av := .exact (.int .i64 y20)) rfl ?_)
            refine G_q rfl (op_lss rfl rfl ?_)
            refine G_nil ?_
            refine kC_normal ?_
            refine k_cond_d (p := y20 < 0) rfl (fun hc => ?_) (fun hc => ?_)
            · replace h := ite_t h hc
              refine k_seq ?_
              refine k_reg .free hmixP (by kernel_rfl) ?_
              refine G_q rfl (op_assign (av := .exact (.int .i64 (-1))) rfl ?_)
              refine G_nil ?_
              refine kC_normal ?_
              refine k_ret ?_
              refine kB_ret ?_
              refine kC_ret ?_
              refine kI_ret ?_
              refine kB_ret ?_
              refine kI_ret ?_
              obtain rfl := Option.some.inj h
              refine kP_any (endN (af' := (AF.put AF0 (some 6) (.exact (.int .i64 (-1))))) (σ' := []) _ rfl ?_ ⟨rfl, rfl⟩)
              exact Sub.of_le (AF.le_put (AV.le_eq rfl) (AF.le_top _))
            · replace h := ite_f h hc
              refine k_skip ?_
              refine kB_normal ?_
              refine kC_normal ?_
              refine k_reg .free hmixP (by kernel_rfl) ?_
              refine G_q rfl (op_move (av := .exact (.int .i64 x8_l2)) rfl ?_)
              refine G_q rfl (op_add rfl rfl rfl ?_)
              refine G_q rfl (op_assign (av := .exact (.int .i64 (i64 (x8_l2 + 1)))) rfl ?_)
              refine G_nil ?_
              refine kI_normal ⟨_, _, h, ?_⟩
              exact Sub.of_le (AF.le_put (AV.le_eq rfl) (AF.le_put (AV.le_eq rfl) (AF.le_put (AV.le_eq rfl) (AF.le_put (AV.le_eq rfl) (AF.le_put (AV.le_eq rfl) (AF.le_top _))))))
          · replace h := ite_f h hc
            refine k_exit ?_
            refine kC_exit ?_
            refine kI_exit ?_
            refine kB_exit ?_
            refine kI_normal ⟨_, h, ?_⟩
            exact Sub.of_le (AF.le_put (AV.le_eq rfl) (AF.le_top _))
      · refine k_seq ?_
        refine k_reg .free hmixP (by kernel_rfl) ?_
        refine G_q rfl (op_move (av := .exact (.int .i64 x1_j13)) rfl ?_)
        refine G_q rfl (op_assign (av := .exact (.int .i64 x1_j13)) rfl ?_)
        refine G_nil ?_
        refine kC_normal ?_
        refine k_ret ?_
        obtain rfl := Option.some.inj h
        refine kP_any (endN (af' := (AF.put AF0 (some 6) (.exact (.int .i64 x1_j13)))) (σ' := []) _ rfl ?_ ⟨rfl, rfl⟩)
        exact Sub.of_le (AF.le_put (AV.le_eq rfl) (AF.le_top _))
set_option maxHeartbeats 4000000 in
theorem m_ref6_walk_S_ok : ∀ n : Nat, (∀ (a0 : List (Int × Int × Int)) (a1 : Int) (a2 : Int) (r : Int), m_ref6_walk_S n a0 a1 a2 = some r → Pure Tryd.prog 64 [(.row 3 c_api_TypeNode a0), (.exact (.int .i64 a1)), (.exact (.int .i64 a2))] (.exact (.int .i64 r)))
  | 0 => (fun _ _ _ _ h => by have h' : (none : Option _) = some _ := h; cases h')
  | n + 1 => by
    have ih := m_ref6_walk_S_ok n
    exact fun a0 a1 a2 r h => m_ref6_walk_F_ok (m_ref6_walk_S n) ih a0 a1 a2 r h
theorem m_ref6_walk_ok (a0 : List (Int × Int × Int)) (a1 : Int) (a2 : Int) (r : Int) (h : m_ref6_walk a0 a1 a2 = some r) : Pure Tryd.prog 64 [(.row 3 c_api_TypeNode a0), (.exact (.int .i64 a1)), (.exact (.int .i64 a2))] (.exact (.int .i64 r)) := (m_ref6_walk_S_ok FU) a0 a1 a2 r h
set_option maxHeartbeats 4000000 in
theorem m_ref6_ValidType_ok (a0 : List (Int × Int × Int)) (r : Bool) (h : m_ref6_ValidType a0 = some r) : Pure Tryd.prog 30 [(.row 3 c_api_TypeNode a0)] (.exact (.bool r)) := by
  unfold m_ref6_ValidType at h
  refine Pure.ofFun (fun_of_awp Tryd.func30 rfl Tryd.ntmps30 (by simp) rfl (res1 rfl) fun E hE => k_end ?_)
  refine k_seq ?_
  refine k_reg .free hmixP (by kernel_rfl) ?_
  refine G_q rfl (op_assign (av := .exact (.bool false)) rfl ?_)
  refine G_nil ?_
  refine kC_normal ?_
  refine k_join1_0 h (fun (x2_j1 : Bool) => (AF.put AF0 (some 2) (.exact (.bool x2_j1)))) (fun (x2_j1 : Bool) => []) (fun k1 h => ?_) (fun x2_j1 h => ?_)
  · refine k_reg .free hmixP (by kernel_rfl) ?_
    refine G_q rfl (op_move (av := .row 3 c_api_TypeNode a0) rfl ?_)
    refine G_q rfl (op_len_row (by kernel_rfl) rfl ?_)
    refine G_q rfl (op_leq rfl rfl ?_)
    refine G_q rfl (op_move (av := .exact (.bool (decide ((List.length a0 : Int) ≤ 512)))) rfl ?_)
    refine G_split (p := (List.length a0 : Int) ≤ 512) 6 rfl (fun hc => ?_) (fun hc => ?_)
    · replace h := ite_t h hc
      refine Gy_q rfl rfl rfl (op_move (av := .row 3 c_api_TypeNode a0) rfl ?_)
      obtain ⟨y3, hy3, h⟩ := bnd1_some h
      refine Gy_q rfl rfl rfl (op_pure (m_ref6_walk_ok _ _ _ _ hy3) Tryd.func64 (by kernel_rfl) (LEs.cons (AV.le_eq rfl) (LEs.cons (AV.le_eq rfl) (LEs.cons (AV.le_eq rfl) LEs.nil))) ?_)
      refine Gy_q rfl rfl rfl (op_move (av := .row 3 c_api_TypeNode a0) rfl ?_)
      refine Gy_q rfl rfl rfl (op_len_row (by kernel_rfl) rfl ?_)
      refine Gy_q rfl rfl rfl (op_eql rfl rfl ?_)
      refine G_q rfl (op_pick_t rfl (av := .exact (.bool (decide (y3 = (List.length a0 : Int))))) rfl ?_)
      refine G_q rfl (op_assign (av := .exact (.bool (decide (y3 = (List.length a0 : Int))))) rfl ?_)
      refine G_nil ?_
      refine kI_normal ⟨_, h, ?_⟩
      exact Sub.of_le (AF.le_put (AV.le_eq rfl) (AF.le_top _))
    · replace h := ite_f h hc
      refine G_n rfl rfl ?_
      refine G_n rfl rfl ?_
      refine G_n rfl rfl ?_
      refine G_n rfl rfl ?_
      refine G_n rfl rfl ?_
      refine G_q rfl (op_pick_f rfl (av := .exact (.bool false)) rfl ?_)
      refine G_q rfl (op_assign (av := .exact (.bool false)) rfl ?_)
      refine G_nil ?_
      refine kI_normal ⟨_, h, ?_⟩
      exact Sub.of_le (AF.le_put (AV.le_eq rfl) (AF.le_top _))
  · refine k_ret ?_
    obtain rfl := Option.some.inj h
    refine kP_any (endN (af' := (AF.put AF0 (some 2) (.exact (.bool x2_j1)))) (σ' := []) _ rfl ?_ ⟨rfl, rfl⟩)
    exact Sub.of_le (AF.le_put (AV.le_eq rfl) (AF.le_top _))
set_option maxHeartbeats 4000000 in
theorem m_terms_Term_Find_ok {bs : List Nat} (a0 : Int) (a1 : List (Int × Int × (List Int) × Int)) (r : Int × (List (Int × Int × (List Int) × Int))) (h : m_terms_Term_Find a0 a1 = some r) : Fun Tryd.prog 73 [(refA bs a0)] [hpI 72 (c_terms_Term bs) bs a1] (fun a s => a = refA bs r.1 ∧ s = [hpI 72 (c_terms_Term bs) bs r.2]) := by
  unfold m_terms_Term_Find at h
  refine fun_nd (List.Mem.head _) (fun hnd => ?_)
  refine fun_of_awp Tryd.func73 rfl Tryd.ntmps73 (by simp) rfl (res1 rfl) fun E hE => k_end ?_
  refine k_seq ?_
  refine k_reg .free hmixP (by kernel_rfl) ?_
  refine G_q rfl (op_assign (av := .exact (.pointer none)) rfl ?_)
  refine G_nil ?_
  refine kC_normal ?_
  refine k_join1_0 h (fun (x0_j1 : Int) => (AF.put AF0 (some 0) (refA bs x0_j1))) (fun (x0_j1 : Int) => [hpI 72 (c_terms_Term bs) bs a1]) (fun k1 h => ?_) (fun x0_j1 h => ?_)
  · refine k_block ?_
    refine k_loop1_0 (m_terms_Term_Find_L2 a1 k1) (m_terms_Term_Find_B2 a1 k1) (fun _ => rfl) (fun m _ => rfl) h (fun (x0_l2 : Int) => (AF.put AF0 (some 0) (refA bs x0_l2))) (fun (x0_l2 : Int) => [hpI 72 (c_terms_Term bs) bs a1]) ?_ (fun rec2 x0_l2 h => ?_)
    · exact Sub.of_le (AF.le_put (AV.le_eq rfl) (AF.le_top _))
    · unfold m_terms_Term_Find_B2 at h
      refine k_seq ?_
      refine k_seq ?_
      refine k_reg .free hmixP (by kernel_rfl) ?_
      refine G_q rfl (op_move (av := refA bs x0_l2) rfl ?_)
      obtain ⟨n13, h⟩ := need_some h
      refine G_q rfl (op_nilC_ref rfl n13 ?_)
      refine G_q rfl (op_field_hpt (o := 3) (by kernel_rfl) rfl ?_)
      refine G_r rfl (op_load_hptH (i := x0_l2) (o := 3) (a := refA bs ((gi a1 x0_l2).2.2.2)) (by kernel_rfl) rfl rfl ?_)
      refine G_q rfl (op_neqnil_ref (t := 72) (by kernel_rfl) (by kernel_rfl) rfl rfl ?_)
      refine G_nil ?_
      refine kC_normal ?_
      refine k_cond_d (p := ¬ ((gi a1 x0_l2).2.2.2) = -1) rfl (fun hc => ?_) (fun hc => ?_)
      · replace h := ite_t h hc
        refine k_skip ?_
        refine kC_normal ?_
        refine k_block ?_
        refine k_reg .free hmixP (by kernel_rfl) ?_
        refine G_q rfl (op_move (av := refA bs x0_l2) rfl ?_)
        obtain ⟨n14, h⟩ := need_some h
        refine G_q rfl (op_nilC_ref rfl n14 ?_)
        refine G_q rfl (op_field_hpt (o := 3) (by kernel_rfl) rfl ?_)
        refine G_r rfl (op_load_hptH (i := x0_l2) (o := 3) (a := refA bs ((gi a1 x0_l2).2.2.2)) (by kernel_rfl) rfl rfl ?_)
        refine G_q rfl (op_assign (av := refA bs ((gi a1 x0_l2).2.2.2)) rfl ?_)
        refine G_nil ?_
        refine kB_normal ?_
        refine kI_normal ⟨_, h, ?_⟩
        exact Sub.of_le (AF.le_put (AV.le_eq rfl) (AF.le_top _))
      · replace h := ite_f h hc
        refine k_exit ?_
        refine kC_exit ?_
        refine kI_exit ?_
        refine kB_exit ?_
        refine kI_normal ⟨_, h, ?_⟩
        exact Sub.of_le (AF.le_put (AV.le_eq rfl) (AF.le_top _))
  · refine k_seq ?_
    refine k_reg .free hmixP (by kernel_rfl) ?_
    refine G_q rfl (op_move (av := refA bs x0_j1) rfl ?_)
    refine G_q rfl (op_assign (av := refA bs x0_j1) rfl ?_)
    refine G_nil ?_
    refine kC_normal ?_
    refine k_ret ?_
    obtain rfl := Option.some.inj h
    refine kP_any (endN (af' := (AF.put AF0 (some 2) (refA bs x0_j1))) (σ' := [hpI 72 (c_terms_Term bs) bs a1]) _ rfl ?_ ⟨rfl, rfl⟩)
    exact Sub.of_le (AF.le_put (AV.le_eq rfl) (AF.le_top _))
end Go.Proofs.YtdfdjgolijckfaaDoor

/- The walk of occurs: a closure that changes what is in use. -/
namespace Go.Proofs.YtdfdjgolijckfaaDoor
open Go.RowKit Go.Maps

section
variable {P : Program} {af : AF} {σ : Items} {d : Option Tmp} {ty : TypeId} {pos : String} {after : Array Edge} {g : Option (Nat × Bool)}
/-- Function k with captured values. -/
def AV.clo (k : FuncId) (avs : List AV) : AV := ⟨fun M w v => ∃ caps : List Value, v = .func (.func k) #[] caps.toArray ∧ Fit M w avs caps, fun hk hm ⟨caps, h1, h2⟩ => ⟨caps, h1, h2.keep hk hm⟩⟩
theorem op_makeClo {k : FuncId} {cs : List Operand} {avs : List AV} {K : AF → Prop} (hx : LEs (cs.map af.ev) avs) (hk : K (af.put d (.clo k avs))) : opA P ⟨d, .makeFunc (.func k) #[] cs.toArray, ty, pos, after, g⟩ af K := by
  refine ⟨_, fun M w ev hM hh => ?_, hk⟩
  have hfit : Fit M w avs (cs.map ev) := fit_opnds (fun x hm => hh x (by simp [Op.operands, hm])) hx
  simp [execOp, Instr.makeFunc, go_sem, UponQ]
  exact ⟨Keeps.refl _ _, cs.map ev, by simp, hfit⟩
theorem op_callClo {k : FuncId} {fn : Func} {args avs : List AV} {post : AV → Items → Prop} {z : Operand} {xs : List Operand} {ats : Array TypeId} {K : AF → Items → Prop} (hp : Fun P k (args ++ avs) σ post) (hf : P.funcs[k]? = some fn) (hb : (fn.body.isNone || fn.name == "runtime.NumGoroutine") = false)
    (hz : af.ev z = .clo k avs) (hx : LEs (xs.map af.ev) args) (hk : ∀ av σ', post av σ' → K (af.put d av) σ') : opB P ⟨d, .call { callee := .value z, args := xs.toArray, argTypes := ats }, ty, pos, after, g⟩ af σ K := by
  refine ⟨post, fun F w ev hg h => ?_, hk⟩
  obtain ⟨caps, e1, e2⟩ := opnd_p h (x := z) (by simp [Op.operands, Call.operands]) hz
  have hfit : Fit (both F (Items.own σ)) w args (xs.map ev) := fit_opnds (fun x hm => h x (by simp [Op.operands, Call.operands, hm])) hx
  simp only [Bool.or_eq_false_iff] at hb
  have hrun : (execOp ev ⟨d, .call { callee := .value z, args := xs.toArray, argTypes := ats }, ty, pos, after, g⟩).run P w = .ok (.enter k (xs.map ev ++ caps).toArray) w := by
    simp [execOp, resolve, e1, Deferred.ofValue, invoke, run_callFunc hf hb.1 hb.2, go_sem]
  rw [hrun]
  exact hp F w _ hg (hfit.app e2)
end
attribute [local irreducible] AV.exact AV.top AV.row AV.ptr AV.agg AV.tup AV.eptr AV.fn AV.clo AV.nilq AV.nilqn opA opB opM opR Quiet Loud Reads wpG awp den Sub SubU Pure Fun vecI vecT boxI CellsAll CellsOf OneC LEs LEss
set_option maxRecDepth 100000
abbrev HNs := List (Int × Int × (List Int) × Int)
abbrev occM (w : Nat) (bs : List Nat) (s : List (Int × Bool)) : Item := mapI (refOk bs) (refV bs) (fun x : Bool => .exact (.bool x)) w s
abbrev occH (bs : List Nat) (H : HNs) : Item := hpI 72 (c_terms_Term bs) bs H
/-- What is known of occurs. -/
def OccOk (self : Int → Int → List (Int × Bool) → HNs → Option (Bool × List (Int × Bool) × HNs)) : Prop := ∀ (w : Nat) (bs : List Nat) (v t : Int) (s : List (Int × Bool)) (H : HNs) (res : Bool × List (Int × Bool) × HNs), self v t s H = some res →
  Fun Tryd.prog 74 [refA bs v, refA bs t, .exact (.map (some w))] [occM w bs s, occH bs H] (fun a σ => a = .exact (.bool res.1) ∧ σ = [occM w bs res.2.1, occH bs res.2.2])
abbrev occC (w : Nat) (bs : List Nat) (v : Int) : List AV := [.ptr [refA bs v], .ptr [.exact (.map (some w))]]
set_option maxHeartbeats 4000000 in
theorem occ1_ok {self : Int → Int → List (Int × Bool) → HNs → Option (Bool × List (Int × Bool) × HNs)} (hself : OccOk self) (w : Nat) (bs : List Nat) (v k : Int) (s : List (Int × Bool)) (H : HNs) (res : Bool × List (Int × Bool) × HNs) (h : self v k s H = some res) :
    Fun Tryd.prog 91 ([refA bs k] ++ occC w bs v) [occM w bs s, occH bs H] (fun a σ => a = .exact (.bool res.1) ∧ σ = [occM w bs res.2.1, occH bs res.2.2]) := by
  refine fun_of_awp Tryd.func91 rfl Tryd.ntmps91 (by simp) rfl (res1 rfl) fun E hE => k_end ?_
  refine k_seq ?_
  refine k_reg .free hmixP (by kernel_rfl) ?_
  refine G_q rfl (op_assign (av := .exact (.bool false)) rfl ?_)
  refine G_nil ?_
  refine kC_normal ?_
  refine k_seq ?_
  refine k_reg .free hmixP (by kernel_rfl) ?_
  refine G_q rfl (op_load1p (a := refA bs v) (by kernel_rfl) rfl rfl ?_)
  refine G_q rfl (op_move (av := refA bs k) rfl ?_)
  refine G_q rfl (op_load1p (a := .exact (.map (some w))) (by kernel_rfl) rfl rfl ?_)
  refine G_l rfl (op_fun_2_0_2 (hself w bs v k s H res h) Tryd.func74 (by kernel_rfl) (LEs.cons (AV.le_eq rfl) (LEs.cons (AV.le_eq rfl) (LEs.cons (AV.le_eq rfl) LEs.nil))) ?_)
  refine G_q rfl (op_assign (av := .exact (.bool res.1)) rfl ?_)
  refine G_nil ?_
  refine kC_normal ?_
  refine k_ret ?_
  refine kP_any (endN (af' := (AF.put AF0 (some 4) (.exact (.bool res.1)))) (σ' := [occM w bs res.2.1, occH bs res.2.2]) _ rfl ?_ ⟨rfl, rfl⟩)
  exact Sub.of_le (AF.le_put (AV.le_eq rfl) (AF.le_top _))
theorem drop_gi {kids : List Int} {j : Nat} (h : j < kids.length) : kids.drop j = gi kids (j : Int) :: kids.drop (j + 1) := by
  rw [List.drop_eq_getElem_cons h]
  congr 1
  have := gi_get (xs := kids) (i := (j : Int)) (by omega) (by omega)
  simp only [Int.toNat_natCast] at this
  rw [List.getElem?_eq_getElem h] at this
  exact Option.some.inj this
set_option maxHeartbeats 4000000 in
theorem occIx_ok {self : Int → Int → List (Int × Bool) → HNs → Option (Bool × List (Int × Bool) × HNs)} (hself : OccOk self) (w : Nat) (bs : List Nat) (v : Int) (kids : List Int) (hl : kids.length ≤ 137438953472) (s : List (Int × Bool)) (H : HNs) (res : Bool × List (Int × Bool) × HNs) (h : m_occK self v kids s H = some res) :
    Fun Tryd.prog 117 [.row 1 (c_P_terms_Term bs) kids, .clo 91 (occC w bs v)] [occM w bs s, occH bs H] (fun a σ => ∃ i : Int, decide (0 ≤ i) = res.1 ∧ a = .exact (.int .i64 i) ∧ σ = [occM w bs res.2.1, occH bs res.2.2]) := by
  refine fun_of_awp Tryd.func117 rfl Tryd.ntmps117 (by simp) rfl (res1 rfl) fun E hE => k_end ?_
  refine k_seq ?_
  refine k_reg .free hmixP (by kernel_rfl) ?_
  refine G_q rfl (op_assign (av := .exact (.int .i64 0)) rfl ?_)
  refine G_nil ?_
  refine kC_normal ?_
  refine k_seq ?_
  refine k_seq ?_
  refine k_reg .free hmixP (by kernel_rfl) ?_
  refine G_q rfl (op_move (av := .row 1 (c_P_terms_Term bs) kids) rfl ?_)
  refine G_q rfl (op_len_row (by kernel_rfl) rfl ?_)
  refine G_q rfl (op_move (av := .exact (.int .i64 0)) rfl ?_)
  refine G_nil ?_
  refine kC_normal ?_
  refine k_block ?_
  refine k_loop (α := Nat × List (Int × Bool) × HNs) (fun x => AF.put (AF.put (AF.put (AF.put AF0 (some 0) (.row 1 (c_P_terms_Term bs) kids)) (some 1) (.clo 91 (occC w bs v))) (some 7) (.exact (.int .i64 (kids.length : Int)))) (some 8) (.exact (.int .i64 (x.1 : Int)))) (fun x => [occM w bs x.2.1, occH bs x.2.2]) (fun x => m_occK self v (kids.drop x.1) x.2.1 x.2.2 = some res ∧ x.1 ≤ kids.length) (fun x => kids.length - x.1) (0, s, H) ⟨h, Nat.zero_le _⟩ ?_ (fun x hx => ?_)
  · exact Sub.of_le (AF.le_put (AV.le_eq rfl) (AF.le_put (AV.le_eq rfl) (AF.le_put (AV.le_eq rfl) (AF.le_put (AV.le_eq rfl) (AF.le_top _)))))
  obtain ⟨j, s', H'⟩ := x
  obtain ⟨hx, hj⟩ := hx
  dsimp only at hx hj ⊢
  refine k_seq ?_
  refine k_reg .free hmixP (by kernel_rfl) ?_
  refine G_q rfl (op_lss rfl rfl ?_)
  refine G_nil ?_
  refine kC_normal ?_
  refine k_seq ?_
  refine k_cond_d (p := (j : Int) < (kids.length : Int)) rfl (fun hc => ?_) (fun hc => ?_)
  · have hjl : j < kids.length := by omega
    rw [drop_gi hjl, m_occK] at hx
    obtain ⟨y, hy, hx⟩ := bnd1_some hx
    refine k_skip ?_
    refine kC_normal ?_
    refine k_seq ?_
    refine k_block ?_
    refine k_seq ?_
    refine k_reg .free hmixP (by kernel_rfl) ?_
    refine G_q rfl (op_move (av := .exact (.int .i64 (j : Int))) rfl ?_)
    refine G_q rfl (op_assign (av := .exact (.int .i64 (j : Int))) rfl ?_)
    refine G_nil ?_
    refine kC_normal ?_
    refine k_seq ?_
    refine k_reg .free hmixP (by kernel_rfl) ?_
    refine G_q rfl (op_move (av := .clo 91 (occC w bs v)) rfl ?_)
    refine G_q rfl (op_move (av := .row 1 (c_P_terms_Term bs) kids) rfl ?_)
    refine G_q rfl (op_move (av := .exact (.int .i64 (j : Int))) rfl ?_)
    refine G_q rfl (op_index_row (by kernel_rfl) rfl rfl (by omega) (by omega) ?_)
    refine G_q rfl (op_load1p (a := refA bs (gi kids (j : Int))) (by kernel_rfl) rfl rfl ?_)
    refine G_l rfl (op_callClo (occ1_ok hself w bs v (gi kids (j : Int)) s' H' y hy) Tryd.func91 (by kernel_rfl) rfl (LEs.cons (AV.le_eq rfl) LEs.nil) (fun av σ' hp => ?_))
    obtain ⟨rfl, rfl⟩ := hp
    refine G_nil ?_
    refine kC_normal ?_
    refine k_cond_b (c := y.1) rfl (fun hb => ?_) (fun hb => ?_)
    · rw [if_pos hb] at hx
      cases hx
      refine k_seq ?_
      refine k_reg .free hmixP (by kernel_rfl) ?_
      refine G_q rfl (op_move (av := .exact (.int .i64 (j : Int))) rfl ?_)
      refine G_q rfl (op_assign (av := .exact (.int .i64 (j : Int))) rfl ?_)
      refine G_nil ?_
      refine kC_normal ?_
      refine k_ret ?_
      refine kB_ret ?_
      refine kC_ret ?_
      refine kI_ret ?_
      refine kB_ret ?_
      refine kC_ret ?_
      refine kP_any (endN (af' := (AF.put AF0 (some 4) (.exact (.int .i64 (j : Int))))) (σ' := [occM w bs res.2.1, occH bs res.2.2]) _ rfl ?_ ⟨(j : Int), (by rw [hb]; simp), rfl, rfl⟩)
      exact Sub.of_le (AF.le_put (AV.le_eq rfl) (AF.le_top _))
    · rw [if_neg hb] at hx
      refine k_skip ?_
      refine kB_normal ?_
      refine kC_normal ?_
      refine k_reg .free hmixP (by kernel_rfl) ?_
      refine G_q rfl (op_add rfl rfl rfl ?_)
      refine G_q rfl (op_move (av := .exact (.int .i64 (i64 ((j : Int) + 1)))) rfl ?_)
      refine G_nil ?_
      have e1 : i64 ((j : Int) + 1) = ((j + 1 : Nat) : Int) := by rw [i64_id (by omega)]; omega
      refine kI_normal ⟨(j + 1, y.2.1, y.2.2), ⟨hx, hjl⟩, (by dsimp only; omega), ?_⟩
      dsimp only
      rw [e1]
      exact Sub.of_le (AF.le_put (AV.le_eq rfl) (AF.le_put (AV.le_eq rfl) (AF.le_put (AV.le_eq rfl) (AF.le_put (AV.le_eq rfl) (AF.le_top _)))))
  · have hjl : j = kids.length := by omega
    subst hjl
    rw [List.drop_length, m_occK] at hx
    cases hx
    refine k_exit ?_
    refine kC_exit ?_
    refine kI_exit ?_
    refine kB_exit ?_
    refine kC_normal ?_
    refine k_seq ?_
    refine k_reg .free hmixP (by kernel_rfl) ?_
    refine G_q rfl (op_assign (av := .exact (.int .i64 (-1))) rfl ?_)
    refine G_nil ?_
    refine kC_normal ?_
    refine k_ret ?_
    refine kP_any (endN (af' := (AF.put AF0 (some 4) (.exact (.int .i64 (-1))))) (σ' := [occM w bs s', occH bs H']) _ rfl ?_ ⟨(-1 : Int), rfl, rfl, rfl⟩)
    exact Sub.of_le (AF.le_put (AV.le_eq rfl) (AF.le_top _))
set_option maxHeartbeats 4000000 in
theorem occCt_ok {self : Int → Int → List (Int × Bool) → HNs → Option (Bool × List (Int × Bool) × HNs)} (hself : OccOk self) (w : Nat) (bs : List Nat) (v : Int) (kids : List Int) (hl : kids.length ≤ 137438953472) (s : List (Int × Bool)) (H : HNs) (res : Bool × List (Int × Bool) × HNs) (h : m_occK self v kids s H = some res) :
    Fun Tryd.prog 90 [.row 1 (c_P_terms_Term bs) kids, .clo 91 (occC w bs v)] [occM w bs s, occH bs H] (fun a σ => a = .exact (.bool res.1) ∧ σ = [occM w bs res.2.1, occH bs res.2.2]) := by
  refine fun_of_awp Tryd.func90 rfl Tryd.ntmps90 (by simp) rfl (res1 rfl) fun E hE => k_end ?_
  refine k_seq ?_
  refine k_reg .free hmixP (by kernel_rfl) ?_
  refine G_q rfl (op_assign (av := .exact (.bool false)) rfl ?_)
  refine G_nil ?_
  refine kC_normal ?_
  refine k_seq ?_
  refine k_reg .free hmixP (by kernel_rfl) ?_
  refine G_q rfl (op_move (av := .row 1 (c_P_terms_Term bs) kids) rfl ?_)
  refine G_q rfl (op_move (av := .clo 91 (occC w bs v)) rfl ?_)
  refine G_l rfl (op_fun (occIx_ok hself w bs v kids hl s H res h) Tryd.func117 (by kernel_rfl) (LEs.cons (AV.le_eq rfl) (LEs.cons (AV.le_eq rfl) LEs.nil)) (fun av σ' hp => ?_))
  obtain ⟨i, hi, rfl, rfl⟩ := hp
  refine G_q rfl (op_geq rfl rfl ?_)
  refine G_q rfl (op_assign (av := .exact (.bool res.1)) (by rw [← hi]; rfl) ?_)
  refine G_nil ?_
  refine kC_normal ?_
  refine k_ret ?_
  refine kP_any (endN (af' := (AF.put AF0 (some 4) (.exact (.bool res.1)))) (σ' := [occM w bs res.2.1, occH bs res.2.2]) _ rfl ?_ ⟨rfl, rfl⟩)
  exact Sub.of_le (AF.le_put (AV.le_eq rfl) (AF.le_top _))
set_option maxHeartbeats 4000000 in
theorem m_occF_ok {self : Int → Int → List (Int × Bool) → HNs → Option (Bool × List (Int × Bool) × HNs)} (hself : OccOk self) (w : Nat) (bs : List Nat) (v t : Int) (s : List (Int × Bool)) (H : HNs) (res : Bool × List (Int × Bool) × HNs) (h : m_occF m_terms_Term_Find self v t s H = some res) :
    Fun Tryd.prog 74 [refA bs v, refA bs t, .exact (.map (some w))] [occM w bs s, occH bs H] (fun a σ => a = .exact (.bool res.1) ∧ σ = [occM w bs res.2.1, occH bs res.2.2]) := by
  unfold m_occF at h
  refine fun_nd (List.Mem.tail _ (List.Mem.head _)) (fun hnd => ?_)
  refine fun_of_awp Tryd.func74 rfl Tryd.ntmps74 (by simp) rfl (res1 rfl) fun E hE => k_end ?_
  refine k_seq ?_
  refine k_reg .free hmixP (by kernel_rfl) ?_
  refine G_q rfl (op_box (c := [refA bs v]) rfl CellsOf.ref ?_)
  refine G_q rfl (op_box (c := [.exact (.map (some w))]) rfl CellsOf.mapz ?_)
  refine G_q rfl (op_assign (av := .exact (.bool false)) rfl ?_)
  refine G_nil ?_
  refine kC_normal ?_
  refine k_seq ?_
  refine k_reg .free hmixP (by kernel_rfl) ?_
  refine G_q rfl (op_move (av := refA bs t) rfl ?_)
  obtain ⟨y, hy, h⟩ := bnd1_some h
  refine G_l rfl (opB_f1 (op_fun_1_0_1 (m_terms_Term_Find_ok _ _ _ hy) Tryd.func73 (by kernel_rfl) (LEs.cons (AV.le_eq rfl) LEs.nil) ?_))
  refine G_q rfl (op_assign (av := refA bs y.1) rfl ?_)
  refine G_nil ?_
  refine kC_normal ?_
  refine k_seq ?_
  refine k_seq ?_
  refine k_reg .free hmixP (by kernel_rfl) ?_
  refine G_q rfl (op_move (av := refA bs y.1) rfl ?_)
  refine G_q rfl (op_load1p (a := refA bs v) (by kernel_rfl) rfl rfl ?_)
  refine G_r rfl (op_eq_ref (List.Mem.head _) (by kernel_rfl) (by kernel_rfl) rfl rfl ?_)
  refine G_nil ?_
  refine kC_normal ?_
  refine k_cond_d (p := y.1 = v) rfl (fun hc => ?_) (fun hc => ?_)
  · replace h := ite_t h hc
    cases h
    refine k_seq ?_
    refine k_reg .free hmixP (by kernel_rfl) ?_
    refine G_q rfl (op_assign (av := .exact (.bool true)) rfl ?_)
    refine G_nil ?_
    refine kC_normal ?_
    refine k_ret ?_
    refine kC_ret ?_
    refine kP_any (endN (af' := (AF.put AF0 (some 6) (.exact (.bool true)))) (σ' := [occM w bs s, occH bs y.2]) _ rfl ?_ ⟨rfl, rfl⟩)
    refine Sub.trans (SubU.to SubU.f1) ?_
    exact Sub.of_le (AF.le_put (AV.le_eq rfl) (AF.le_top _))
  replace h := ite_f h hc
  refine k_skip ?_
  refine kC_normal ?_
  refine k_seq ?_
  refine k_seq ?_
  refine k_reg .free hmixP (by kernel_rfl) ?_
  refine G_q rfl (op_load1p (a := .exact (.map (some w))) (by kernel_rfl) rfl rfl ?_)
  refine G_q rfl (op_move (av := refA bs y.1) rfl ?_)
  obtain ⟨n1, h⟩ := need_some h
  refine G_r rfl (op_mlook (z := false) (List.Mem.tail _ (List.Mem.head _)) (keyOk_ref (by kernel_rfl) hnd) (fun _ _ hg => hp_W (List.Mem.head _) hg) Tryd.underlying109 (fun _ w => ⟨_, Tryd.zeroValue4 w, zp_exact⟩) rfl (keyAV_ref rfl n1) ?_)
  refine G_nil ?_
  refine kC_normal ?_
  refine k_cond_b (c := Option.getD (lookL s y.1) false) rfl (fun hc => ?_) (fun hc => ?_)
  · replace h := ite_t h hc
    cases h
    refine k_seq ?_
    refine k_reg .free hmixP (by kernel_rfl) ?_
    refine G_q rfl (op_assign (av := .exact (.bool false)) rfl ?_)
    refine G_nil ?_
    refine kC_normal ?_
    refine k_ret ?_
    refine kC_ret ?_
    refine kP_any (endN (af' := (AF.put AF0 (some 6) (.exact (.bool false)))) (σ' := [occM w bs s, occH bs y.2]) _ rfl ?_ ⟨rfl, rfl⟩)
    refine Sub.trans (SubU.to SubU.f1) ?_
    exact Sub.of_le (AF.le_put (AV.le_eq rfl) (AF.le_top _))
  replace h := ite_f h hc
  refine k_skip ?_
  refine kC_normal ?_
  refine k_seq ?_
  refine k_reg .free hmixP (by kernel_rfl) ?_
  refine G_q rfl (op_load1p (a := .exact (.map (some w))) (by kernel_rfl) rfl rfl ?_)
  refine G_q rfl (op_move (av := refA bs y.1) rfl ?_)
  refine G_l rfl (opB_f1 (op_mput (z := true) (keyOk_ref (by kernel_rfl) hnd) (fun _ _ hg => hp_W (List.Mem.tail _ (List.Mem.head _)) hg) Tryd.underlying109 rfl (keyAV_ref rfl n1) (AV.le_eq rfl) ?_))
  refine G_nil ?_
  refine kC_normal ?_
  refine k_seq ?_
  refine k_reg .free hmixP (by kernel_rfl) ?_
  refine G_q rfl (op_move (av := refA bs y.1) rfl ?_)
  refine G_q rfl (op_nilC_ref rfl n1 ?_)
  refine G_q rfl (op_field_hpt (o := 2) (by kernel_rfl) rfl ?_)
  refine G_r rfl (op_load_hpt (List.Mem.tail _ (List.Mem.head _)) (o := 2) (a := .row 1 (c_P_terms_Term bs) ((gi y.2 y.1).2.2.1)) (by kernel_rfl) rfl rfl ?_)
  refine G_q rfl (op_makeClo (k := 91) (avs := occC w bs v) (LEs.cons (AV.le_eq rfl) (LEs.cons (AV.le_eq rfl) LEs.nil)) ?_)
  obtain ⟨n2, h⟩ := need_some h
  refine G_l rfl (op_fun_2_0_2 (occCt_ok hself w bs v _ n2 _ _ res h) Tryd.func90 (by kernel_rfl) (LEs.cons (AV.le_eq rfl) (LEs.cons (AV.le_eq rfl) LEs.nil)) ?_)
  refine G_q rfl (op_assign (av := .exact (.bool res.1)) rfl ?_)
  refine G_nil ?_
  refine kC_normal ?_
  refine k_ret ?_
  refine kP_any (endN (af' := (AF.put AF0 (some 6) (.exact (.bool res.1)))) (σ' := [occM w bs res.2.1, occH bs res.2.2]) _ rfl ?_ ⟨rfl, rfl⟩)
  exact Sub.of_le (AF.le_put (AV.le_eq rfl) (AF.le_top _))
theorem m_occS_ok : ∀ n, OccOk (m_occS m_terms_Term_Find n)
  | 0 => fun _ _ _ _ _ _ _ h => by cases h
  | n + 1 => fun w bs v t s H res h => m_occF_ok (m_occS_ok n) w bs v t s H res h
theorem m_occ_ok {w : Nat} {bs : List Nat} (v t : Int) (s : List (Int × Bool)) (H : HNs) (res : Bool × List (Int × Bool) × HNs) (h : m_occ m_terms_Term_Find v t s H = some res) :
    Fun Tryd.prog 74 [refA bs v, refA bs t, .exact (.map (some w))] [occM w bs s, occH bs H] (fun a σ => a = .exact (.bool res.1) ∧ σ = [occM w bs res.2.1, occH bs res.2.2]) := m_occS_ok FU w bs v t s H res h
end Go.Proofs.YtdfdjgolijckfaaDoor
