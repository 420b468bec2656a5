/- Types and their cells, by program. -/
import Derived.Test.YtkbbeeeoogjknaaQB3
import Derived.Test.YtkbbeeeoogjknaaQB1
namespace Go.Proofs.Ytkbbeeeoogjknaa
open Go.RowKit
abbrev c_api_Above (x : Int × Int) : List AV := [.exact (.int .i64 x.1), .exact (.int .i64 x.2)]
theorem len_c_api_Above (x : Int × Int) : (c_api_Above x).length = 2 := rfl
theorem oc_c_api_Above (x : Int × Int) : OneC (c_api_Above x) := (OneC.int (OneC.int OneC.nil))
abbrev c_int (x : Int) : List AV := [.exact (.int .i64 x)]
theorem len_c_int (x : Int) : (c_int x).length = 1 := rfl
theorem oc_c_int (x : Int) : OneC (c_int x) := (OneC.int OneC.nil)
abbrev c_cspcheckgen_Choices (x : (List Int) × Int) : List AV := [.row 1 c_int x.1, .exact (.int .i64 x.2)]
abbrev c_api_Pair (x : Int × Int) : List AV := [.exact (.int .i64 x.1), .exact (.int .i64 x.2)]
theorem len_c_api_Pair (x : Int × Int) : (c_api_Pair x).length = 2 := rfl
theorem oc_c_api_Pair (x : Int × Int) : OneC (c_api_Pair x) := (OneC.int (OneC.int OneC.nil))
theorem heq_c_api_Pair (x0 x1 y0 y1 : Int) (w : World) : (Op.equal 48 (.agg #[.int .i64 x0, .int .i64 x1]) (.agg #[.int .i64 y0, .int .i64 y1])).run Try.prog w = .ok (decide (x0 = y0 ∧ x1 = y1)) w := by
  have s0 : (sizeOf 3).run Try.prog w = .ok 1 w := by kernel_rfl
  have s1 : (sizeOf 3).run Try.prog w = .ok 1 w := by kernel_rfl
  have e0 : ∀ a b : Int, (Op.equalIn 9999 3 (.int .i64 a) (.int .i64 b)).run Try.prog w = .ok (a == b) w := fun a b => run_equalIn_int w 9998 3 .i64 .i64 a b Try.underlying3
  have e1 : ∀ a b : Int, (Op.equalIn 9999 3 (.int .i64 a) (.int .i64 b)).run Try.prog w = .ok (a == b) w := fun a b => run_equalIn_int w 9998 3 .i64 .i64 a b Try.underlying3
  rw [Op.equal, Op.maxDepth, show (10000 : Nat) = 9999 + 1 from rfl]
  rw [show Op.equalIn (9999 + 1) 48 (.agg #[.int .i64 x0, .int .i64 x1]) (.agg #[.int .i64 y0, .int .i64 y1]) = _ from by rw [Op.equalIn]]
  simp only [Sem.run_bind, run_underlying Try.underlying48, Result.andThen_ok, s0, s1]
  have p0 : ∀ (a b : Int) (w : World), (part 3 #[.int .i64 a, .int .i64 b] 0).run Try.prog w = .ok (.int .i64 a) w := fun a b w => run_part1 (by kernel_rfl) rfl
  have p1 : ∀ (a b : Int) (w : World), (part 3 #[.int .i64 a, .int .i64 b] 1).run Try.prog w = .ok (.int .i64 b) w := fun a b w => run_part1 (by kernel_rfl) rfl
  simp [p0, p1, e0, e1]
  by_cases h1 : x0 = y0 <;> by_cases h2 : x1 = y1 <;> simp [h1, h2]
theorem eq_c_api_Pair (a b : Int × Int) {M : BSet} {w : World} {vs us : List Value} (h1 : Fit M w (c_api_Pair a) vs) (h2 : Fit M w (c_api_Pair b) us) : (Op.equal 48 (.agg vs.toArray) (.agg us.toArray)).run Try.prog w = .ok (decide (a = b)) w := eq_pair heq_c_api_Pair a b h1 h2
theorem heq_c_api_Above (x0 x1 y0 y1 : Int) (w : World) : (Op.equal 29 (.agg #[.int .i64 x0, .int .i64 x1]) (.agg #[.int .i64 y0, .int .i64 y1])).run Try.prog w = .ok (decide (x0 = y0 ∧ x1 = y1)) w := by
  have s0 : (sizeOf 3).run Try.prog w = .ok 1 w := by kernel_rfl
  have s1 : (sizeOf 3).run Try.prog w = .ok 1 w := by kernel_rfl
  have e0 : ∀ a b : Int, (Op.equalIn 9999 3 (.int .i64 a) (.int .i64 b)).run Try.prog w = .ok (a == b) w := fun a b => run_equalIn_int w 9998 3 .i64 .i64 a b Try.underlying3
  have e1 : ∀ a b : Int, (Op.equalIn 9999 3 (.int .i64 a) (.int .i64 b)).run Try.prog w = .ok (a == b) w := fun a b => run_equalIn_int w 9998 3 .i64 .i64 a b Try.underlying3
  rw [Op.equal, Op.maxDepth, show (10000 : Nat) = 9999 + 1 from rfl]
  rw [show Op.equalIn (9999 + 1) 29 (.agg #[.int .i64 x0, .int .i64 x1]) (.agg #[.int .i64 y0, .int .i64 y1]) = _ from by rw [Op.equalIn]]
  simp only [Sem.run_bind, run_underlying Try.underlying29, Result.andThen_ok, s0, s1]
  have p0 : ∀ (a b : Int) (w : World), (part 3 #[.int .i64 a, .int .i64 b] 0).run Try.prog w = .ok (.int .i64 a) w := fun a b w => run_part1 (by kernel_rfl) rfl
  have p1 : ∀ (a b : Int) (w : World), (part 3 #[.int .i64 a, .int .i64 b] 1).run Try.prog w = .ok (.int .i64 b) w := fun a b w => run_part1 (by kernel_rfl) rfl
  simp [p0, p1, e0, e1]
  by_cases h1 : x0 = y0 <;> by_cases h2 : x1 = y1 <;> simp [h1, h2]
theorem eq_c_api_Above (a b : Int × Int) {M : BSet} {w : World} {vs us : List Value} (h1 : Fit M w (c_api_Above a) vs) (h2 : Fit M w (c_api_Above b) us) : (Op.equal 29 (.agg vs.toArray) (.agg us.toArray)).run Try.prog w = .ok (decide (a = b)) w := eq_pair heq_c_api_Above a b h1 h2
end Go.Proofs.Ytkbbeeeoogjknaa
/- The sorts' contracts, laid by program. -/
namespace Go.Proofs.Ytkbbeeeoogjknaa
open Go.RowKit Go.Sort
set_option maxRecDepth 100000
def lay0_ren : Go.Shelf.Ren := ⟨fun | 6 => 53 | 14 => 80 | 15 => 81 | 20 => 89 | 21 => 90 | 22 => 91 | 23 => 92 | 24 => 93 | 25 => 94 | 26 => 95 | 27 => 96 | 28 => 97 | 29 => 98 | 46 => 117 | 47 => 118 | 48 => 119 | 49 => 120 | 50 => 121 | 57 => 128 | n => n, fun | 0 => 0 | 3 => 3 | 4 => 4 | 5 => 5 | 9 => 9 | 22 => 22 | 24 => 29 | 25 => 63 | 39 => 69 | 45 => 88 | 46 => 89 | 50 => 93 | 53 => 96 | 55 => 98 | 66 => 110 | 70 => 114 | 76 => 120 | 77 => 121 | n => n, fun n => n⟩
theorem lay0 : Go.Proofs.SlLaysF0.n6 Try.prog lay0_ren where
  mixed := by kernel_rfl
  f6 := ⟨Try.f53.name, by kernel_rfl, Try.func53.trans (congrArg some (by kernel_rfl))⟩
  f14 := ⟨Try.f80.name, by kernel_rfl, Try.func80.trans (congrArg some (by kernel_rfl))⟩
  f15 := Try.func81.trans (congrArg some (by kernel_rfl))
  f20 := ⟨Try.f89.name, by kernel_rfl, Try.func89.trans (congrArg some (by kernel_rfl))⟩
  f21 := ⟨Try.f90.name, by kernel_rfl, Try.func90.trans (congrArg some (by kernel_rfl))⟩
  f22 := ⟨Try.f91.name, by kernel_rfl, Try.func91.trans (congrArg some (by kernel_rfl))⟩
  f23 := ⟨Try.f92.name, by kernel_rfl, Try.func92.trans (congrArg some (by kernel_rfl))⟩
  f24 := ⟨Try.f93.name, by kernel_rfl, Try.func93.trans (congrArg some (by kernel_rfl))⟩
  f25 := ⟨Try.f94.name, by kernel_rfl, Try.func94.trans (congrArg some (by kernel_rfl))⟩
  f26 := ⟨Try.f95.name, by kernel_rfl, Try.func95.trans (congrArg some (by kernel_rfl))⟩
  f27 := ⟨Try.f96.name, by kernel_rfl, Try.func96.trans (congrArg some (by kernel_rfl))⟩
  f28 := Try.func97.trans (congrArg some (by kernel_rfl))
  f29 := Try.func98.trans (congrArg some (by kernel_rfl))
  f46 := ⟨Try.f117.name, by kernel_rfl, Try.func117.trans (congrArg some (by kernel_rfl))⟩
  f47 := Try.func118.trans (congrArg some (by kernel_rfl))
  f48 := Try.func119.trans (congrArg some (by kernel_rfl))
  f49 := ⟨Try.f120.name, by kernel_rfl, Try.func120.trans (congrArg some (by kernel_rfl))⟩
  f50 := ⟨Try.f121.name, by kernel_rfl, Try.func121.trans (congrArg some (by kernel_rfl))⟩
  f57 := ⟨Try.f128.name, by kernel_rfl, Try.func128.trans (congrArg some (by kernel_rfl))⟩
  t0 := Try.underlying0
  a0 := Try.isAgg0
  z0 := Try.sizeOf0
  v0 := Try.zeroValue0
  t3 := Try.underlying3
  a3 := Try.isAgg3
  z3 := Try.sizeOf3
  v3 := Try.zeroValue3
  t4 := Try.underlying4
  a4 := Try.isAgg4
  z4 := Try.sizeOf4
  v4 := Try.zeroValue4
  t5 := Try.underlying5
  a5 := Try.isAgg5
  z5 := Try.sizeOf5
  v5 := Try.zeroValue5
  t9 := Try.underlying9
  a9 := Try.isAgg9
  z9 := Try.sizeOf9
  v9 := Try.zeroValue9
  t22 := Try.underlying22
  a22 := Try.isAgg22
  z22 := Try.sizeOf22
  v22 := Try.zeroValue22
  t25 := Try.underlying63
  a25 := Try.isAgg63
  z25 := Try.sizeOf63
  v25 := Try.zeroValue63
  t39 := Try.underlying69
  a39 := Try.isAgg69
  z39 := Try.sizeOf69
  v39 := Try.zeroValue69
  t45 := Try.underlying88
  a45 := Try.isAgg88
  z45 := Try.sizeOf88
  v45 := Try.zeroValue88
  t46 := Try.underlying89
  a46 := Try.isAgg89
  z46 := Try.sizeOf89
  v46 := Try.zeroValue89
  t50 := Try.underlying93
  a50 := Try.isAgg93
  z50 := Try.sizeOf93
  v50 := Try.zeroValue93
  t53 := Try.underlying96
  a53 := Try.isAgg96
  z53 := Try.sizeOf96
  v53 := Try.zeroValue96
  t55 := Try.underlying98
  a55 := Try.isAgg98
  z55 := Try.sizeOf98
  v55 := Try.zeroValue98
  t66 := Try.underlying110
  a66 := Try.isAgg110
  z66 := Try.sizeOf110
  v66 := Try.zeroValue110
  t70 := Try.underlying114
  a70 := Try.isAgg114
  z70 := Try.sizeOf114
  v70 := Try.zeroValue114
  t76 := Try.underlying120
  a76 := Try.isAgg120
  z76 := Try.sizeOf120
  v76 := Try.zeroValue120
  t77 := Try.underlying121
  a77 := Try.isAgg121
  z77 := Try.sizeOf121
  v77 := Try.zeroValue121
theorem m_sort_api_Above_ok (hc : ∀ (x y : Int × Int) (r : Int), m_alphabet_compareAbove x y = some r → Pure Try.prog 54 [(.agg (c_api_Above x)), (.agg (c_api_Above y))] (.exact (.int .i64 r))) {w0 : Value} (a0 r : List (Int × Int)) (h : m_sortby m_alphabet_compareAbove a0 = some r) : Fun Try.prog 53 [.exact w0, .exact (.func (.func 54) #[] #[])] [vecT Try.prog 22 2 c_api_Above w0 a0] (fun a s => a = .tup [] ∧ s = [vecT Try.prog 22 2 c_api_Above w0 r]) :=
  m_sortbyK_ok (enc := (fun x : Int × Int => [(.int .i64 x.1), (.int .i64 x.2)])) lay0 Try.isAgg29 Try.sizeOf29 (fun _ => rfl) (fun _ => rfl) (fun x v hv => by simp at hv; rcases hv with rfl | rfl <;> rfl) 54 (fun args w => by exact enters_of Try.func54 (by kernel_rfl) rfl args w) 22 hc a0 r h
def lay1_ren : Go.Shelf.Ren := ⟨fun | 6 => 66 | 14 => 85 | 15 => 81 | 20 => 100 | 21 => 101 | 22 => 102 | 23 => 103 | 24 => 104 | 25 => 105 | 26 => 106 | 27 => 107 | 28 => 97 | 29 => 98 | 46 => 122 | 47 => 118 | 48 => 119 | 49 => 123 | 50 => 124 | 57 => 129 | n => n, fun | 0 => 0 | 3 => 3 | 4 => 4 | 5 => 5 | 9 => 9 | 22 => 44 | 24 => 48 | 25 => 71 | 39 => 69 | 45 => 88 | 46 => 89 | 50 => 93 | 53 => 96 | 55 => 98 | 66 => 110 | 70 => 114 | 76 => 120 | 77 => 121 | n => n, fun n => n⟩
theorem lay1 : Go.Proofs.SlLaysF0.n6 Try.prog lay1_ren where
  mixed := by kernel_rfl
  f6 := ⟨Try.f66.name, by kernel_rfl, Try.func66.trans (congrArg some (by kernel_rfl))⟩
  f14 := ⟨Try.f85.name, by kernel_rfl, Try.func85.trans (congrArg some (by kernel_rfl))⟩
  f15 := Try.func81.trans (congrArg some (by kernel_rfl))
  f20 := ⟨Try.f100.name, by kernel_rfl, Try.func100.trans (congrArg some (by kernel_rfl))⟩
  f21 := ⟨Try.f101.name, by kernel_rfl, Try.func101.trans (congrArg some (by kernel_rfl))⟩
  f22 := ⟨Try.f102.name, by kernel_rfl, Try.func102.trans (congrArg some (by kernel_rfl))⟩
  f23 := ⟨Try.f103.name, by kernel_rfl, Try.func103.trans (congrArg some (by kernel_rfl))⟩
  f24 := ⟨Try.f104.name, by kernel_rfl, Try.func104.trans (congrArg some (by kernel_rfl))⟩
  f25 := ⟨Try.f105.name, by kernel_rfl, Try.func105.trans (congrArg some (by kernel_rfl))⟩
  f26 := ⟨Try.f106.name, by kernel_rfl, Try.func106.trans (congrArg some (by kernel_rfl))⟩
  f27 := ⟨Try.f107.name, by kernel_rfl, Try.func107.trans (congrArg some (by kernel_rfl))⟩
  f28 := Try.func97.trans (congrArg some (by kernel_rfl))
  f29 := Try.func98.trans (congrArg some (by kernel_rfl))
  f46 := ⟨Try.f122.name, by kernel_rfl, Try.func122.trans (congrArg some (by kernel_rfl))⟩
  f47 := Try.func118.trans (congrArg some (by kernel_rfl))
  f48 := Try.func119.trans (congrArg some (by kernel_rfl))
  f49 := ⟨Try.f123.name, by kernel_rfl, Try.func123.trans (congrArg some (by kernel_rfl))⟩
  f50 := ⟨Try.f124.name, by kernel_rfl, Try.func124.trans (congrArg some (by kernel_rfl))⟩
  f57 := ⟨Try.f129.name, by kernel_rfl, Try.func129.trans (congrArg some (by kernel_rfl))⟩
  t0 := Try.underlying0
  a0 := Try.isAgg0
  z0 := Try.sizeOf0
  v0 := Try.zeroValue0
  t3 := Try.underlying3
  a3 := Try.isAgg3
  z3 := Try.sizeOf3
  v3 := Try.zeroValue3
  t4 := Try.underlying4
  a4 := Try.isAgg4
  z4 := Try.sizeOf4
  v4 := Try.zeroValue4
  t5 := Try.underlying5
  a5 := Try.isAgg5
  z5 := Try.sizeOf5
  v5 := Try.zeroValue5
  t9 := Try.underlying9
  a9 := Try.isAgg9
  z9 := Try.sizeOf9
  v9 := Try.zeroValue9
  t22 := Try.underlying44
  a22 := Try.isAgg44
  z22 := Try.sizeOf44
  v22 := Try.zeroValue44
  t25 := Try.underlying71
  a25 := Try.isAgg71
  z25 := Try.sizeOf71
  v25 := Try.zeroValue71
  t39 := Try.underlying69
  a39 := Try.isAgg69
  z39 := Try.sizeOf69
  v39 := Try.zeroValue69
  t45 := Try.underlying88
  a45 := Try.isAgg88
  z45 := Try.sizeOf88
  v45 := Try.zeroValue88
  t46 := Try.underlying89
  a46 := Try.isAgg89
  z46 := Try.sizeOf89
  v46 := Try.zeroValue89
  t50 := Try.underlying93
  a50 := Try.isAgg93
  z50 := Try.sizeOf93
  v50 := Try.zeroValue93
  t53 := Try.underlying96
  a53 := Try.isAgg96
  z53 := Try.sizeOf96
  v53 := Try.zeroValue96
  t55 := Try.underlying98
  a55 := Try.isAgg98
  z55 := Try.sizeOf98
  v55 := Try.zeroValue98
  t66 := Try.underlying110
  a66 := Try.isAgg110
  z66 := Try.sizeOf110
  v66 := Try.zeroValue110
  t70 := Try.underlying114
  a70 := Try.isAgg114
  z70 := Try.sizeOf114
  v70 := Try.zeroValue114
  t76 := Try.underlying120
  a76 := Try.isAgg120
  z76 := Try.sizeOf120
  v76 := Try.zeroValue120
  t77 := Try.underlying121
  a77 := Try.isAgg121
  z77 := Try.sizeOf121
  v77 := Try.zeroValue121
theorem m_sort_api_Pair_ok (hc : ∀ (x y : Int × Int) (r : Int), m_alphabet_comparePairs x y = some r → Pure Try.prog 67 [(.agg (c_api_Pair x)), (.agg (c_api_Pair y))] (.exact (.int .i64 r))) {w0 : Value} (a0 r : List (Int × Int)) (h : m_sortby m_alphabet_comparePairs a0 = some r) : Fun Try.prog 66 [.exact w0, .exact (.func (.func 67) #[] #[])] [vecT Try.prog 44 2 c_api_Pair w0 a0] (fun a s => a = .tup [] ∧ s = [vecT Try.prog 44 2 c_api_Pair w0 r]) :=
  m_sortbyK_ok (enc := (fun x : Int × Int => [(.int .i64 x.1), (.int .i64 x.2)])) lay1 Try.isAgg48 Try.sizeOf48 (fun _ => rfl) (fun _ => rfl) (fun x v hv => by simp at hv; rcases hv with rfl | rfl <;> rfl) 67 (fun args w => by exact enters_of Try.func67 (by kernel_rfl) rfl args w) 44 hc a0 r h
end Go.Proofs.Ytkbbeeeoogjknaa
/- The functions compute their models, by program. -/
namespace Go.Proofs.Ytkbbeeeoogjknaa
open Go.RowKit
attribute [local irreducible] AV.exact AV.top AV.row AV.ptr AV.agg AV.tup AV.eptr AV.fn AV.nilq AV.nilqn opA opB opM opR Quiet Loud Reads wpG awp den Sub SubU Pure Fun vecI vecT boxI CellsAll CellsOf OneC LEs LEss
set_option maxRecDepth 100000

set_option maxHeartbeats 4000000 in
theorem m_gen_New_ok (a0 : List Int) (r : ((List Int) × Int)) (h : m_gen_New a0 = some r) : Fun Try.prog 10 [(.row 1 c_int a0)] [] (fun a s => ∃ z0, a = pA z0 0 ∧ s = [boxI 58 z0 [.row 1 c_int r.1, .exact (.int .i64 r.2)]]) := by
  unfold m_gen_New at h
  refine fun_of_awp Try.func10 rfl Try.ntmps10 (by simp) rfl (res1 rfl) fun E hE => k_end ?_
  refine k_seq ?_
  refine k_reg .free hmixP (by kernel_rfl) ?_
  refine G_q rfl (op_assign (av := _) rfl ?_)
  refine G_nil ?_
  refine kC_normal ?_
  refine k_seq ?_
  refine k_reg .free hmixP (by kernel_rfl) ?_
  refine G_q rfl (op_move (av := .row 1 c_int a0) rfl ?_)
  refine G_q rfl (op_bld (c' := c_cspcheckgen_Choices (a0, 0)) (CellsAll.cons rfl CellsOf.row CellsAll.nil) rfl (LEs.cons (AV.le_eq rfl) (LEs.cons (AV.le_eq rfl) LEs.nil)) ?_)
  refine G_l rfl (op_boxI (c := [.row 1 c_int ((a0, 0).1), .exact (.int .i64 ((a0, 0).2))]) rfl CellsOf.agg (LEs.cons (AV.le_eq rfl) (LEs.cons (AV.le_eq rfl) LEs.nil)) (fun b1 => ?_))
  refine G_q rfl (op_assign (av := pA b1 0) rfl ?_)
  refine G_nil ?_
  refine kC_normal ?_
  refine k_ret ?_
  obtain rfl := Option.some.inj h
  refine kP_any (endN (af' := (AF.put AF0 (some 2) (pA b1 0))) (σ' := [boxI 58 b1 [.row 1 c_int ((a0, 0).1), .exact (.int .i64 ((a0, 0).2))]]) _ rfl ?_ ⟨b1, rfl, rfl⟩)
  exact Sub.of_le (AF.le_put (AV.le_eq rfl) (AF.le_top _))
set_option maxHeartbeats 4000000 in
theorem m_help_Mod_ok (a0 : Int) (a1 : Int) (r : Int) (h : m_help_Mod a0 a1 = some r) : Pure Try.prog 25 [(.exact (.int .i64 a0)), (.exact (.int .i64 a1))] (.exact (.int .i64 r)) := by
  unfold m_help_Mod at h
  refine Pure.ofFun (fun_of_awp Try.func25 rfl Try.ntmps25 (by simp) rfl (res1 rfl) fun E hE => k_end ?_)
  refine k_seq ?_
  refine k_reg .free hmixP (by kernel_rfl) ?_
  refine G_q rfl (op_assign (av := .exact (.int .i64 0)) rfl ?_)
  refine G_nil ?_
  refine kC_normal ?_
  refine k_seq ?_
  refine k_reg .free hmixP (by kernel_rfl) ?_
  refine G_q rfl (op_move (av := .exact (.int .i64 a0)) rfl ?_)
  refine G_q rfl (op_convInt (k := .u64) (by kernel_rfl) rfl rfl ?_)
  refine G_q rfl (op_move (av := .exact (.int .i64 a1)) rfl ?_)
  refine G_q rfl (op_convInt (k := .u64) (by kernel_rfl) rfl rfl ?_)
  obtain ⟨n1, h⟩ := need_some h
  refine G_q rfl (op_rem rfl rfl n1 rfl ?_)
  refine G_q rfl (op_convInt (k := .i64) (by kernel_rfl) rfl rfl ?_)
  refine G_q rfl (op_assign (av := .exact (.int .i64 (i64 (Int.tmod (IntKind.u64.wrap (a0)) (IntKind.u64.wrap (a1)))))) rfl ?_)
  refine G_nil ?_
  refine kC_normal ?_
  refine k_ret ?_
  obtain rfl := Option.some.inj h
  refine kP_any (endN (af' := (AF.put AF0 (some 4) (.exact (.int .i64 (i64 (Int.tmod (IntKind.u64.wrap (a0)) (IntKind.u64.wrap (a1)))))))) (σ' := []) _ rfl ?_ ⟨rfl, rfl⟩)
  exact Sub.of_le (AF.le_put (AV.le_eq rfl) (AF.le_top _))
set_option maxHeartbeats 4000000 in
theorem m_gen_Choices_Next_ok {w0 : Nat} (a0 : (List Int) × Int) (a1 : Int) (r : Int × ((List Int) × Int)) (h : m_gen_Choices_Next a0 a1 = some r) : Fun Try.prog 11 [(pA w0 0), (.exact (.int .i64 a1))] [boxI 58 w0 [.row 1 c_int a0.1, .exact (.int .i64 a0.2)]] (fun a s => a = .exact (.int .i64 r.1) ∧ s = [boxI 58 w0 [.row 1 c_int r.2.1, .exact (.int .i64 r.2.2)]]) := by
  unfold m_gen_Choices_Next at h
  refine fun_of_awp Try.func11 rfl Try.ntmps11 (by simp) rfl (res1 rfl) fun E hE => k_end ?_
  refine k_seq ?_
  refine k_reg .free hmixP (by kernel_rfl) ?_
  refine G_q rfl (op_assign (av := .exact (.int .i64 0)) rfl ?_)
  refine G_nil ?_
  refine kC_normal ?_
  refine k_seq ?_
  refine k_seq ?_
  refine k_plan [] [(0, 0), (0, 1), (0, 2), (0, 4), (0, 5), (0, 6), (1, 3), (1, 7), (0, 8), (0, 9)] hmixP (by kernel_rfl) ?_
  refine P_q no34_0 rfl (op_move (av := pA w0 0) rfl ?_)
  refine P_q no34_0 rfl (op_nilCheck rfl ?_)
  refine P_q no34_0 rfl (op_fieldAddr (o := 1) (by kernel_rfl) rfl ?_)
  refine P_q no34_0 rfl (op_move (av := pA w0 0) rfl ?_)
  refine P_q no34_0 rfl (op_nilCheck rfl ?_)
  refine P_q no34_0 rfl (op_fieldAddr (o := 0) (by kernel_rfl) rfl ?_)
  refine P_r rfl (op_load_box1 (a := .exact (.int .i64 a0.2)) (by kernel_rfl) rfl rfl ?_)
  refine P_r rfl (op_load_box1 (a := .row 1 c_int a0.1) (by kernel_rfl) rfl rfl ?_)
  refine P_q no34_0 rfl (op_len_row (by kernel_rfl) rfl ?_)
  refine P_q no34_0 rfl (op_geq rfl rfl ?_)
  refine P_nil ?_
  refine kC_normal ?_
  refine k_cond_d (p := (List.length a0.1 : Int) ≤ a0.2) rfl (fun hc => ?_) (fun hc => ?_)
  · replace h := ite_t h hc
    refine k_seq ?_
    refine k_reg .free hmixP (by kernel_rfl) ?_
    refine G_q rfl (op_assign (av := .exact (.int .i64 0)) rfl ?_)
    refine G_nil ?_
    refine kC_normal ?_
    refine k_ret ?_
    refine kC_ret ?_
    obtain rfl := Option.some.inj h
    refine kP_any (endN (af' := (AF.put AF0 (some 4) (.exact (.int .i64 0)))) (σ' := [boxI 58 w0 [.row 1 c_int a0.1, .exact (.int .i64 a0.2)]]) _ rfl ?_ ⟨rfl, rfl⟩)
    exact Sub.of_le (AF.le_put (AV.le_eq rfl) (AF.le_top _))
  · replace h := ite_f h hc
    refine k_skip ?_
    refine kC_normal ?_
    refine k_seq ?_
    refine k_reg .free hmixP (by kernel_rfl) ?_
    refine G_q rfl (op_move (av := pA w0 0) rfl ?_)
    refine G_q rfl (op_nilCheck rfl ?_)
    refine G_q rfl (op_fieldAddr (o := 1) (by kernel_rfl) rfl ?_)
    refine G_r rfl (op_load_box1 (a := .exact (.int .i64 a0.2)) (by kernel_rfl) rfl rfl ?_)
    refine G_q rfl (op_add rfl rfl rfl ?_)
    refine G_q rfl (op_nilCheck rfl ?_)
    refine G_q rfl (op_fieldAddr (o := 1) (by kernel_rfl) rfl ?_)
    refine G_l rfl (op_store_box (c' := [.exact (.int .i64 (i64 (a0.2 + 1)))]) (c3 := [.row 1 c_int a0.1, .exact (.int .i64 (i64 (a0.2 + 1)))]) rfl rfl CellsOf.int (LEs.cons (AV.le_eq rfl) LEs.nil) (OneC.int OneC.nil) (by kernel_rfl) (Nat.le_of_ble_eq_true rfl) rfl ?_)
    refine G_nil ?_
    refine kC_normal ?_
    refine k_seq ?_
    refine k_plan [] [(0, 0), (0, 1), (0, 2), (0, 4), (0, 5), (0, 6), (0, 11), (1, 3), (1, 7), (0, 8), (0, 9), (0, 10), (0, 12), (0, 13)] hmixP (by kernel_rfl) ?_
    refine P_q no34_0 rfl (op_move (av := pA w0 0) rfl ?_)
    refine P_q no34_0 rfl (op_nilCheck rfl ?_)
    refine P_q no34_0 rfl (op_fieldAddr (o := 0) (by kernel_rfl) rfl ?_)
    refine P_q no34_0 rfl (op_move (av := pA w0 0) rfl ?_)
    refine P_q no34_0 rfl (op_nilCheck rfl ?_)
    refine P_q no34_0 rfl (op_fieldAddr (o := 1) (by kernel_rfl) rfl ?_)
    refine P_q no34_0 rfl (op_move (av := .exact (.int .i64 a1)) rfl ?_)
    refine P_r rfl (op_load_box1 (a := .row 1 c_int a0.1) (by kernel_rfl) rfl rfl ?_)
    refine P_r rfl (op_load_box1 (a := .exact (.int .i64 (i64 (a0.2 + 1)))) (by kernel_rfl) rfl rfl ?_)
    refine P_q no34_0 rfl (op_sub rfl rfl rfl ?_)
    obtain ⟨n1, h⟩ := need_some h
    refine P_q no34_0 rfl (op_index_row (by kernel_rfl) rfl rfl n1.1 n1.2 ?_)
    refine P_q no34_0 rfl (op_load1p (a := .exact (.int .i64 (gi a0.1 (i64 ((i64 (a0.2 + 1)) - 1))))) (by kernel_rfl) rfl rfl ?_)
    obtain ⟨y2, hy2, h⟩ := bnd1_some h
    refine P_q no34_0 rfl (op_pure (m_help_Mod_ok _ _ _ hy2) Try.func25 (by kernel_rfl) (LEs.cons (AV.le_eq rfl) (LEs.cons (AV.le_eq rfl) LEs.nil)) ?_)
    refine P_q no34_0 rfl (op_assign (av := .exact (.int .i64 y2)) rfl ?_)
    refine P_nil ?_
    refine kC_normal ?_
    refine k_ret ?_
    obtain rfl := Option.some.inj h
    refine kP_any (endN (af' := (AF.put AF0 (some 4) (.exact (.int .i64 y2)))) (σ' := [boxI 58 w0 [.row 1 c_int a0.1, .exact (.int .i64 (i64 (a0.2 + 1)))]]) _ rfl ?_ ⟨rfl, rfl⟩)
    exact Sub.of_le (AF.le_put (AV.le_eq rfl) (AF.le_top _))
set_option maxHeartbeats 4000000 in
theorem m_gen_Choices_Event_ok {w0 : Nat} (a0 : (List Int) × Int) (r : Int × ((List Int) × Int)) (h : m_gen_Choices_Event a0 = some r) : Fun Try.prog 12 [(pA w0 0)] [boxI 58 w0 [.row 1 c_int a0.1, .exact (.int .i64 a0.2)]] (fun a s => a = .exact (.int .i64 r.1) ∧ s = [boxI 58 w0 [.row 1 c_int r.2.1, .exact (.int .i64 r.2.2)]]) := by
  unfold m_gen_Choices_Event at h
  refine fun_of_awp Try.func12 rfl Try.ntmps12 (by simp) rfl (res1 rfl) fun E hE => k_end ?_
  refine k_seq ?_
  refine k_reg .free hmixP (by kernel_rfl) ?_
  refine G_q rfl (op_assign (av := .exact (.int .i64 0)) rfl ?_)
  refine G_nil ?_
  refine kC_normal ?_
  refine k_seq ?_
  refine k_reg .free hmixP (by kernel_rfl) ?_
  refine G_q rfl (op_move (av := pA w0 0) rfl ?_)
  obtain ⟨y1, hy1, h⟩ := bnd1_some h
  refine G_l rfl (op_fun_1_0_1 (m_gen_Choices_Next_ok _ _ _ hy1) Try.func11 (by kernel_rfl) (LEs.cons (AV.le_eq rfl) (LEs.cons (AV.le_eq rfl) LEs.nil)) ?_)
  refine G_q rfl (op_add rfl rfl rfl ?_)
  refine G_q rfl (op_assign (av := .exact (.int .i64 (i64 (2 + y1.1)))) rfl ?_)
  refine G_nil ?_
  refine kC_normal ?_
  refine k_ret ?_
  obtain rfl := Option.some.inj h
  refine kP_any (endN (af' := (AF.put AF0 (some 2) (.exact (.int .i64 (i64 (2 + y1.1)))))) (σ' := [boxI 58 w0 [.row 1 c_int y1.2.1, .exact (.int .i64 y1.2.2)]]) _ rfl ?_ ⟨rfl, rfl⟩)
  exact Sub.of_le (AF.le_put (AV.le_eq rfl) (AF.le_top _))
set_option maxHeartbeats 4000000 in
theorem m_alphabet_visible_ok (a0 : Int) (r : Bool) (h : m_alphabet_visible a0 = some r) : Pure Try.prog 51 [(.exact (.int .i64 a0))] (.exact (.bool r)) := by
  unfold m_alphabet_visible at h
  refine Pure.ofFun (fun_of_awp Try.func51 rfl Try.ntmps51 (by simp) rfl (res1 rfl) fun E hE => k_end ?_)
  refine k_seq ?_
  refine k_reg .free hmixP (by kernel_rfl) ?_
  refine G_q rfl (op_assign (av := .exact (.bool false)) rfl ?_)
  refine G_nil ?_
  refine kC_normal ?_
  refine k_join1_0 h (fun (x2_j1 : Bool) => (AF.put AF0 (some 2) (.exact (.bool x2_j1)))) (fun (x2_j1 : Bool) => []) (fun k1 h => ?_) (fun x2_j1 h => ?_)
  · refine k_reg .free hmixP (by kernel_rfl) ?_
    refine G_q rfl (op_move (av := .exact (.int .i64 a0)) rfl ?_)
    refine G_q rfl (op_geq rfl rfl ?_)
    refine G_q rfl (op_move (av := .exact (.bool (decide (2 ≤ a0)))) rfl ?_)
    refine G_split (p := 2 ≤ a0) 5 rfl (fun hc => ?_) (fun hc => ?_)
    · replace h := ite_t h hc
      refine Gy_q rfl rfl rfl (op_move (av := .exact (.int .i64 a0)) rfl ?_)
      refine Gy_q rfl rfl rfl (op_lss rfl rfl ?_)
      refine G_q rfl (op_pick_t rfl (av := .exact (.bool (decide (a0 < 1026)))) rfl ?_)
      refine G_q rfl (op_assign (av := .exact (.bool (decide (a0 < 1026)))) rfl ?_)
      refine G_nil ?_
      refine kI_normal ⟨_, h, ?_⟩
      exact Sub.of_le (AF.le_put (AV.le_eq rfl) (AF.le_top _))
    · replace h := ite_f h hc
      refine G_n rfl rfl ?_
      refine G_n rfl rfl ?_
      refine G_q rfl (op_pick_f rfl (av := .exact (.bool false)) rfl ?_)
      refine G_q rfl (op_assign (av := .exact (.bool false)) rfl ?_)
      refine G_nil ?_
      refine kI_normal ⟨_, h, ?_⟩
      exact Sub.of_le (AF.le_put (AV.le_eq rfl) (AF.le_top _))
  · refine k_ret ?_
    obtain rfl := Option.some.inj h
    refine kP_any (endN (af' := (AF.put AF0 (some 2) (.exact (.bool x2_j1)))) (σ' := []) _ rfl ?_ ⟨rfl, rfl⟩)
    exact Sub.of_le (AF.le_put (AV.le_eq rfl) (AF.le_top _))
set_option maxHeartbeats 4000000 in
theorem m_cmp_isNaN_int_ok (a0 : Int) (r : Bool) (h : m_cmp_isNaN_int a0 = some r) : Pure Try.prog 99 [(.exact (.int .i64 a0))] (.exact (.bool r)) := by
  unfold m_cmp_isNaN_int at h
  refine Pure.ofFun (fun_of_awp Try.func99 rfl Try.ntmps99 (by simp) rfl (res1 rfl) fun E hE => k_end ?_)
  refine k_seq ?_
  refine k_reg .free hmixP (by kernel_rfl) ?_
  refine G_q rfl (op_assign (av := .exact (.bool false)) rfl ?_)
  refine G_nil ?_
  refine kC_normal ?_
  refine k_seq ?_
  refine k_reg .free hmixP (by kernel_rfl) ?_
  refine G_q rfl (op_move (av := .exact (.int .i64 a0)) rfl ?_)
  refine G_q rfl (op_move (av := .exact (.int .i64 a0)) rfl ?_)
  refine G_q rfl (op_neq rfl rfl ?_)
  refine G_q rfl (op_assign (av := .exact (.bool (decide (¬ a0 = a0)))) rfl ?_)
  refine G_nil ?_
  refine kC_normal ?_
  refine k_ret ?_
  obtain rfl := Option.some.inj h
  refine kP_any (endN (af' := (AF.put AF0 (some 2) (.exact (.bool (decide (¬ a0 = a0)))))) (σ' := []) _ rfl ?_ ⟨rfl, rfl⟩)
  exact Sub.of_le (AF.le_put (AV.le_eq rfl) (AF.le_top _))
set_option maxHeartbeats 4000000 in
theorem m_cmp_Compare_int_ok (a0 : Int) (a1 : Int) (r : Int) (h : m_cmp_Compare_int a0 a1 = some r) : Pure Try.prog 83 [(.exact (.int .i64 a0)), (.exact (.int .i64 a1))] (.exact (.int .i64 r)) := by
  unfold m_cmp_Compare_int at h
  refine Pure.ofFun (fun_of_awp Try.func83 rfl Try.ntmps83 (by simp) rfl (res1 rfl) fun E hE => k_end ?_)
  refine k_seq ?_
  refine k_reg .free hmixP (by kernel_rfl) ?_
  refine G_q rfl (op_assign (av := .exact (.int .i64 0)) rfl ?_)
  refine G_nil ?_
  refine kC_normal ?_
  refine k_seq ?_
  refine k_reg .free hmixP (by kernel_rfl) ?_
  refine G_q rfl (op_move (av := .exact (.int .i64 a0)) rfl ?_)
  obtain ⟨y1, hy1, h⟩ := bnd1_some h
  refine G_q rfl (op_pure (m_cmp_isNaN_int_ok _ _ hy1) Try.func99 (by kernel_rfl) (LEs.cons (AV.le_eq rfl) LEs.nil) ?_)
  refine G_q rfl (op_assign (av := .exact (.bool y1)) rfl ?_)
  refine G_nil ?_
  refine kC_normal ?_
  refine k_seq ?_
  refine k_reg .free hmixP (by kernel_rfl) ?_
  refine G_q rfl (op_move (av := .exact (.int .i64 a1)) rfl ?_)
  obtain ⟨y2, hy2, h⟩ := bnd1_some h
  refine G_q rfl (op_pure (m_cmp_isNaN_int_ok _ _ hy2) Try.func99 (by kernel_rfl) (LEs.cons (AV.le_eq rfl) LEs.nil) ?_)
  refine G_q rfl (op_assign (av := .exact (.bool y2)) rfl ?_)
  refine G_nil ?_
  refine kC_normal ?_
  refine k_seq ?_
  refine k_seq ?_
  refine k_reg .free hmixP (by kernel_rfl) ?_
  refine G_q rfl (op_move (av := .exact (.bool y1)) rfl ?_)
  refine G_nil ?_
  refine kC_normal ?_
  refine k_cond_b (c := y1) rfl (fun hc => ?_) (fun hc => ?_)
  · replace h := ite_t h hc
    refine k_seq ?_
    refine k_seq ?_
    refine k_reg .free hmixP (by kernel_rfl) ?_
    refine G_q rfl (op_move (av := .exact (.bool y2)) rfl ?_)
    refine G_nil ?_
    refine kC_normal ?_
    refine k_cond_b (c := y2) rfl (fun hc => ?_) (fun hc => ?_)
    · replace h := ite_t h hc
      refine k_seq ?_
      refine k_reg .free hmixP (by kernel_rfl) ?_
      refine G_q rfl (op_assign (av := .exact (.int .i64 0)) rfl ?_)
      refine G_nil ?_
      refine kC_normal ?_
      refine k_ret ?_
      refine kC_ret ?_
      refine kC_ret ?_
      obtain rfl := Option.some.inj h
      refine kP_any (endN (af' := (AF.put AF0 (some 4) (.exact (.int .i64 0)))) (σ' := []) _ rfl ?_ ⟨rfl, rfl⟩)
      exact Sub.of_le (AF.le_put (AV.le_eq rfl) (AF.le_top _))
    · replace h := ite_f h hc
      refine k_skip ?_
      refine kC_normal ?_
      refine k_seq ?_
      refine k_reg .free hmixP (by kernel_rfl) ?_
      refine G_q rfl (op_assign (av := .exact (.int .i64 (-1))) rfl ?_)
      refine G_nil ?_
      refine kC_normal ?_
      refine k_ret ?_
      refine kC_ret ?_
      obtain rfl := Option.some.inj h
      refine kP_any (endN (af' := (AF.put AF0 (some 4) (.exact (.int .i64 (-1))))) (σ' := []) _ rfl ?_ ⟨rfl, rfl⟩)
      exact Sub.of_le (AF.le_put (AV.le_eq rfl) (AF.le_top _))
  · replace h := ite_f h hc
    refine k_skip ?_
    refine kC_normal ?_
    refine k_seq ?_
    refine k_seq ?_
    refine k_reg .free hmixP (by kernel_rfl) ?_
    refine G_q rfl (op_move (av := .exact (.bool y2)) rfl ?_)
    refine G_nil ?_
    refine kC_normal ?_
    refine k_cond_b (c := y2) rfl (fun hc => ?_) (fun hc => ?_)
    · replace h := ite_t h hc
      refine k_seq ?_
      refine k_reg .free hmixP (by kernel_rfl) ?_
      refine G_q rfl (op_assign (av := .exact (.int .i64 1)) rfl ?_)
      refine G_nil ?_
      refine kC_normal ?_
      refine k_ret ?_
      refine kC_ret ?_
      obtain rfl := Option.some.inj h
      refine kP_any (endN (af' := (AF.put AF0 (some 4) (.exact (.int .i64 1)))) (σ' := []) _ rfl ?_ ⟨rfl, rfl⟩)
      exact Sub.of_le (AF.le_put (AV.le_eq rfl) (AF.le_top _))
    · replace h := ite_f h hc
      refine k_skip ?_
      refine kC_normal ?_
      refine k_seq ?_
      refine k_seq ?_
      refine k_reg .free hmixP (by kernel_rfl) ?_
      refine G_q rfl (op_move (av := .exact (.int .i64 a0)) rfl ?_)
      refine G_q rfl (op_move (av := .exact (.int .i64 a1)) rfl ?_)
      refine G_q rfl (op_lss rfl rfl ?_)
      refine G_nil ?_
      refine kC_normal ?_
      refine k_cond_d (p := a0 < a1) rfl (fun hc => ?_) (fun hc => ?_)
      · replace h := ite_t h hc
        refine k_seq ?_
        refine k_reg .free hmixP (by kernel_rfl) ?_
        refine G_q rfl (op_assign (av := .exact (.int .i64 (-1))) rfl ?_)
        refine G_nil ?_
        refine kC_normal ?_
        refine k_ret ?_
        refine kC_ret ?_
        obtain rfl := Option.some.inj h
        refine kP_any (endN (af' := (AF.put AF0 (some 4) (.exact (.int .i64 (-1))))) (σ' := []) _ rfl ?_ ⟨rfl, rfl⟩)
        exact Sub.of_le (AF.le_put (AV.le_eq rfl) (AF.le_top _))
      · replace h := ite_f h hc
        refine k_skip ?_
        refine kC_normal ?_
        refine k_seq ?_
        refine k_seq ?_
        refine k_reg .free hmixP (by kernel_rfl) ?_
        refine G_q rfl (op_move (av := .exact (.int .i64 a0)) rfl ?_)
        refine G_q rfl (op_move (av := .exact (.int .i64 a1)) rfl ?_)
        refine G_q rfl (op_gtr rfl rfl ?_)
        refine G_nil ?_
        refine kC_normal ?_
        refine k_cond_d (p := a1 < a0) rfl (fun hc => ?_) (fun hc => ?_)
        · replace h := ite_t h hc
          refine k_seq ?_
          refine k_reg .free hmixP (by kernel_rfl) ?_
          refine G_q rfl (op_assign (av := .exact (.int .i64 1)) rfl ?_)
          refine G_nil ?_
          refine kC_normal ?_
          refine k_ret ?_
          refine kC_ret ?_
          obtain rfl := Option.some.inj h
          refine kP_any (endN (af' := (AF.put AF0 (some 4) (.exact (.int .i64 1)))) (σ' := []) _ rfl ?_ ⟨rfl, rfl⟩)
          exact Sub.of_le (AF.le_put (AV.le_eq rfl) (AF.le_top _))
        · replace h := ite_f h hc
          refine k_skip ?_
          refine kC_normal ?_
          refine k_seq ?_
          refine k_reg .free hmixP (by kernel_rfl) ?_
          refine G_q rfl (op_assign (av := .exact (.int .i64 0)) rfl ?_)
          refine G_nil ?_
          refine kC_normal ?_
          refine k_ret ?_
          obtain rfl := Option.some.inj h
          refine kP_any (endN (af' := (AF.put AF0 (some 4) (.exact (.int .i64 0)))) (σ' := []) _ rfl ?_ ⟨rfl, rfl⟩)
          exact Sub.of_le (AF.le_put (AV.le_eq rfl) (AF.le_top _))
set_option maxHeartbeats 4000000 in
theorem m_cmp_Or_int_ok (a0 : List Int) (r : Int) (h : m_cmp_Or_int a0 = some r) : Pure Try.prog 82 [(.row 1 c_int a0)] (.exact (.int .i64 r)) := by
  unfold m_cmp_Or_int at h
  refine Pure.ofFun (fun_of_awp Try.func82 rfl Try.ntmps82 (by simp) rfl (res1 rfl) fun E hE => k_end ?_)
  refine k_seq ?_
  refine k_reg .free hmixP (by kernel_rfl) ?_
  refine G_q rfl (op_assign (av := .exact (.int .i64 0)) rfl ?_)
  refine G_nil ?_
  refine kC_normal ?_
  refine k_seq ?_
  refine k_reg .free hmixP (by kernel_rfl) ?_
  refine G_q rfl (op_assign (av := .exact (.int .i64 0)) rfl ?_)
  refine G_nil ?_
  refine kC_normal ?_
  refine k_join0_0 h ((AF.put AF0 (some 3) (.exact (.int .i64 0)))) ([]) (fun k1 h => ?_) (fun  h => ?_)
  · refine k_seq ?_
    refine k_reg .free hmixP (by kernel_rfl) ?_
    refine G_q rfl (op_move (av := .row 1 c_int a0) rfl ?_)
    refine G_q rfl (op_len_row (by kernel_rfl) rfl ?_)
    refine G_q rfl (op_move (av := .exact (.int .i64 0)) rfl ?_)
    refine G_nil ?_
    refine kC_normal ?_
    refine k_block ?_
    refine k_loop1_0 (m_cmp_Or_int_L2 a0 k1) (m_cmp_Or_int_B2 a0 k1) (fun _ => rfl) (fun m _ => rfl) h (fun (x8_l2 : Int) => (AF.put (AF.put (AF.put (AF.put AF0 (some 3) (.exact (.int .i64 0))) (some 6) (.row 1 c_int a0)) (some 7) (.exact (.int .i64 (List.length a0 : Int)))) (some 8) (.exact (.int .i64 x8_l2)))) (fun (x8_l2 : Int) => []) ?_ (fun rec2 x8_l2 h => ?_)
    · exact Sub.of_le (AF.le_put (AV.le_eq rfl) (AF.le_put (AV.le_eq rfl) (AF.le_put (AV.le_eq rfl) (AF.le_put (AV.le_eq rfl) (AF.le_top _)))))
    · unfold m_cmp_Or_int_B2 at h
      refine k_seq ?_
      refine k_reg .free hmixP (by kernel_rfl) ?_
      refine G_q rfl (op_lss rfl rfl ?_)
      refine G_nil ?_
      refine kC_normal ?_
      refine k_seq ?_
      refine k_cond_d (p := x8_l2 < (List.length a0 : Int)) rfl (fun hc => ?_) (fun hc => ?_)
      · replace h := ite_t h hc
        refine k_skip ?_
        refine kC_normal ?_
        refine k_seq ?_
        refine k_block ?_
        refine k_seq ?_
        refine k_reg .free hmixP (by kernel_rfl) ?_
        obtain ⟨n8, h⟩ := need_some h
        refine G_q rfl (op_index_row (by kernel_rfl) rfl rfl n8.1 n8.2 ?_)
        refine G_q rfl (op_load1p (a := .exact (.int .i64 (gi a0 x8_l2))) (by kernel_rfl) rfl rfl ?_)
        refine G_q rfl (op_assign (av := .exact (.int .i64 (gi a0 x8_l2))) rfl ?_)
        refine G_nil ?_
        refine kC_normal ?_
        refine k_seq ?_
        refine k_reg .free hmixP (by kernel_rfl) ?_
        refine G_q rfl (op_move (av := .exact (.int .i64 (gi a0 x8_l2))) rfl ?_)
        refine G_q rfl (op_move (av := .exact (.int .i64 0)) rfl ?_)
        refine G_q rfl (op_neq rfl rfl ?_)
        refine G_nil ?_
        refine kC_normal ?_
        refine k_cond_d (p := ¬ (gi a0 x8_l2) = 0) rfl (fun hc => ?_) (fun hc => ?_)
        · replace h := ite_t h hc
          refine k_seq ?_
          refine k_reg .free hmixP (by kernel_rfl) ?_
          refine G_q rfl (op_move (av := .exact (.int .i64 (gi a0 x8_l2))) rfl ?_)
          refine G_q rfl (op_assign (av := .exact (.int .i64 (gi a0 x8_l2))) rfl ?_)
          refine G_nil ?_
          refine kC_normal ?_
          refine k_ret ?_
          refine kB_ret ?_
          refine kC_ret ?_
          refine kI_ret ?_
          refine kB_ret ?_
          refine kI_ret ?_
          obtain rfl := Option.some.inj h
          refine kP_any (endN (af' := (AF.put AF0 (some 2) (.exact (.int .i64 (gi a0 x8_l2))))) (σ' := []) _ rfl ?_ ⟨rfl, rfl⟩)
          exact Sub.of_le (AF.le_put (AV.le_eq rfl) (AF.le_top _))
        · replace h := ite_f h hc
          refine k_skip ?_
          refine kB_normal ?_
          refine kC_normal ?_
          refine k_reg .free hmixP (by kernel_rfl) ?_
          refine G_q rfl (op_add rfl rfl rfl ?_)
          refine G_q rfl (op_move (av := .exact (.int .i64 (i64 (x8_l2 + 1)))) rfl ?_)
          refine G_nil ?_
          refine kI_normal ⟨_, h, ?_⟩
          exact Sub.of_le (AF.le_put (AV.le_eq rfl) (AF.le_put (AV.le_eq rfl) (AF.le_put (AV.le_eq rfl) (AF.le_put (AV.le_eq rfl) (AF.le_top _)))))
      · replace h := ite_f h hc
        refine k_exit ?_
        refine kC_exit ?_
        refine kI_exit ?_
        refine kB_exit ?_
        refine kI_normal ⟨h, ?_⟩
        exact Sub.of_le (AF.le_put (AV.le_eq rfl) (AF.le_top _))
  · refine k_seq ?_
    refine k_reg .free hmixP (by kernel_rfl) ?_
    refine G_q rfl (op_move (av := .exact (.int .i64 0)) rfl ?_)
    refine G_q rfl (op_assign (av := .exact (.int .i64 0)) rfl ?_)
    refine G_nil ?_
    refine kC_normal ?_
    refine k_ret ?_
    obtain rfl := Option.some.inj h
    refine kP_any (endN (af' := (AF.put AF0 (some 2) (.exact (.int .i64 0)))) (σ' := []) _ rfl ?_ ⟨rfl, rfl⟩)
    exact Sub.of_le (AF.le_put (AV.le_eq rfl) (AF.le_top _))
set_option maxHeartbeats 4000000 in
theorem m_alphabet_compareAbove_ok (a0 : Int × Int) (a1 : Int × Int) (r : Int) (h : m_alphabet_compareAbove a0 a1 = some r) : Pure Try.prog 54 [(.agg (c_api_Above a0)), (.agg (c_api_Above a1))] (.exact (.int .i64 r)) := by
  unfold m_alphabet_compareAbove at h
  refine Pure.ofFun (fun_of_awp Try.func54 rfl Try.ntmps54 (by simp) rfl (res1 rfl) fun E hE => k_end ?_)
  refine k_seq ?_
  refine k_reg .free hmixP (by kernel_rfl) ?_
  refine G_q rfl (op_box (c := c_api_Above a0) rfl CellsOf.agg ?_)
  refine G_q rfl (op_box (c := c_api_Above a1) rfl CellsOf.agg ?_)
  refine G_q rfl (op_assign (av := .exact (.int .i64 0)) rfl ?_)
  refine G_nil ?_
  refine kC_normal ?_
  refine k_seq ?_
  refine k_plan [] [(0, 0), (0, 1), (0, 2), (0, 3), (0, 4), (0, 5), (0, 6), (0, 7), (0, 8), (0, 9), (0, 10), (0, 11), (0, 12)] hmixP (by kernel_rfl) ?_
  refine P_q no34_0 rfl (op_fieldAddr_ptr (o := 0) (c' := (List.drop 0 (c_api_Above a0))) (by kernel_rfl) rfl rfl ?_)
  refine P_q no34_0 rfl (op_load1p (a := .exact (.int .i64 a0.1)) (by kernel_rfl) rfl rfl ?_)
  refine P_q no34_0 rfl (op_fieldAddr_ptr (o := 0) (c' := (List.drop 0 (c_api_Above a1))) (by kernel_rfl) rfl rfl ?_)
  refine P_q no34_0 rfl (op_load1p (a := .exact (.int .i64 a1.1)) (by kernel_rfl) rfl rfl ?_)
  obtain ⟨y1, hy1, h⟩ := bnd1_some h
  refine P_q no34_0 rfl (op_pure (m_cmp_Compare_int_ok _ _ _ hy1) Try.func83 (by kernel_rfl) (LEs.cons (AV.le_eq rfl) (LEs.cons (AV.le_eq rfl) LEs.nil)) ?_)
  refine P_q no34_0 rfl (op_fieldAddr_ptr (o := 1) (c' := (List.drop 1 (c_api_Above a0))) (by kernel_rfl) rfl rfl ?_)
  refine P_q no34_0 rfl (op_load1p (a := .exact (.int .i64 a0.2)) (by kernel_rfl) rfl rfl ?_)
  refine P_q no34_0 rfl (op_fieldAddr_ptr (o := 1) (c' := (List.drop 1 (c_api_Above a1))) (by kernel_rfl) rfl rfl ?_)
  refine P_q no34_0 rfl (op_load1p (a := .exact (.int .i64 a1.2)) (by kernel_rfl) rfl rfl ?_)
  obtain ⟨y2, hy2, h⟩ := bnd1_some h
  refine P_q no34_0 rfl (op_pure (m_cmp_Compare_int_ok _ _ _ hy2) Try.func83 (by kernel_rfl) (LEs.cons (AV.le_eq rfl) (LEs.cons (AV.le_eq rfl) LEs.nil)) ?_)
  refine P_q no34_0 rfl (op_litT (n := 1) (enc := c_int) [y1, y2] (CellsAll.cons rfl CellsOf.int (CellsAll.cons rfl CellsOf.int CellsAll.nil)) rfl (by kernel_rfl) (LEss.cons (LEs.cons (AV.le_eq rfl) LEs.nil) (LEss.cons (LEs.cons (AV.le_eq rfl) LEs.nil) LEss.nil)) ?_)
  obtain ⟨y3, hy3, h⟩ := bnd1_some h
  refine P_q no34_0 rfl (op_pure (m_cmp_Or_int_ok _ _ hy3) Try.func82 (by kernel_rfl) (LEs.cons (AV.le_eq rfl) LEs.nil) ?_)
  refine P_q no34_0 rfl (op_assign (av := .exact (.int .i64 y3)) rfl ?_)
  refine P_nil ?_
  refine kC_normal ?_
  refine k_ret ?_
  obtain rfl := Option.some.inj h
  refine kP_any (endN (af' := (AF.put AF0 (some 4) (.exact (.int .i64 y3)))) (σ' := []) _ rfl ?_ ⟨rfl, rfl⟩)
  exact Sub.of_le (AF.le_put (AV.le_eq rfl) (AF.le_top _))
set_option maxHeartbeats 4000000 in
theorem m_slices_Clip_L_api_Above_api_Above_ok {w0 : Value} (a0 : List (Int × Int)) (r : (List (Int × Int))) (h : m_slices_Clip_L_api_Above_api_Above a0 = some r) : Fun Try.prog 55 [(.exact w0)] [vecT Try.prog 22 2 c_api_Above w0 a0] (fun a s => a = .row 2 c_api_Above r ∧ s = []) := by
  unfold m_slices_Clip_L_api_Above_api_Above at h
  refine fun_of_awp Try.func55 rfl Try.ntmps55 (by simp) rfl (res1 rfl) fun E hE => k_end ?_
  refine k_seq ?_
  refine k_reg .free hmixP (by kernel_rfl) ?_
  refine G_q rfl (op_assign (av := .exact (.slice none 0 0)) rfl ?_)
  refine G_nil ?_
  refine kC_normal ?_
  refine k_seq ?_
  refine k_reg .free hmixP (by kernel_rfl) ?_
  refine G_q rfl (op_move (av := .exact w0) rfl ?_)
  refine G_q rfl (op_move (av := .exact w0) rfl ?_)
  refine G_r rfl (op_len_vec (by kernel_rfl) rfl ?_)
  refine G_q rfl (op_move (av := .exact w0) rfl ?_)
  refine G_r rfl (op_len_vec (by kernel_rfl) rfl ?_)
  refine G_sub rfl (SubU.freezeT3 (s1 := 4) (s2 := 6) (s3 := 3) rfl rfl rfl len_c_api_Above) ?_
  obtain ⟨n1, h⟩ := need_some h
  refine G_q rfl (op_slice_row3 (by kernel_rfl) rfl bnd_none rfl rfl (Int.le_refl 0) n1 (Int.le_refl _) (Int.le_refl _) ?_)
  refine G_q rfl (op_assign (av := .row 2 c_api_Above (List.take (Int.toNat (List.length a0 : Int)) a0)) rfl ?_)
  refine G_nil ?_
  refine kC_normal ?_
  refine k_ret ?_
  obtain rfl := Option.some.inj h
  refine kP_any (endN (af' := (AF.put AF0 (some 2) (.row 2 c_api_Above (List.take (Int.toNat (List.length a0 : Int)) a0)))) (σ' := []) _ rfl ?_ ⟨rfl, rfl⟩)
  exact Sub.of_le (AF.le_put (AV.le_eq rfl) (AF.le_top _))
set_option maxHeartbeats 4000000 in
theorem m_slices_Clone_L_int_int_ok (a0 : List Int) (r : (List Int)) (h : m_slices_Clone_L_int_int a0 = some r) : Fun Try.prog 60 [(.row 1 c_int a0)] [] (fun a s => ∃ z0, a = .exact z0 ∧ s = [vecT Try.prog 23 1 c_int z0 r]) := by
  unfold m_slices_Clone_L_int_int at h
  refine fun_of_awp Try.func60 rfl Try.ntmps60 (by simp) rfl (res1 rfl) fun E hE => k_end ?_
  refine k_seq ?_
  refine k_reg .free hmixP (by kernel_rfl) ?_
  refine G_q rfl (op_assign (av := .exact (.slice none 0 0)) rfl ?_)
  refine G_nil ?_
  refine kC_normal ?_
  refine k_seq ?_
  refine k_seq ?_
  refine k_reg .free hmixP (by kernel_rfl) ?_
  refine G_q rfl (op_move (av := .row 1 c_int a0) rfl ?_)
  refine G_q rfl (op_eqnil_row (by kernel_rfl) rfl ?_)
  refine G_nil ?_
  refine kC_normal ?_
  obtain ⟨h1, h⟩ := nilc_some h
  refine k_cond_u (p := a0 = []) rfl (fun hc => ?_) ?_
  · replace h := h1 hc
    refine k_seq ?_
    refine k_reg .free hmixP (by kernel_rfl) ?_
    refine G_q rfl (op_assign (av := .exact (.slice none 0 0)) rfl ?_)
    refine G_nil ?_
    refine kC_normal ?_
    refine k_ret ?_
    refine kC_ret ?_
    obtain rfl := Option.some.inj h
    refine kP_any (endN (af' := (AF.put AF0 (some 2) (.exact (.slice none 0 0)))) (σ' := [vecT Try.prog 23 1 c_int (.slice none 0 0) []]) _ rfl ?_ ⟨(.slice none 0 0), rfl, rfl⟩)
    refine Sub.trans (SubU.to (SubU.nilT (P := Try.prog) (t := 23) (n := 1) (enc := c_int))) ?_
    exact Sub.of_le (AF.le_put (AV.le_eq rfl) (AF.le_top _))
  · refine k_skip ?_
    refine kC_normal ?_
    refine k_seq ?_
    refine k_reg .free hmixP (by kernel_rfl) ?_
    refine G_l rfl (op_lit0I (enc := c_int) (n := 1) (by kernel_rfl) (fun v1 => ?_))
    refine G_q rfl (op_move (av := .row 1 c_int a0) rfl ?_)
    obtain ⟨n2, h⟩ := need_some h
    refine G_l rfl (op_appT (by kernel_rfl) rfl rfl oc_c_int n2 (fun v3 => ?_))
    refine G_q rfl (op_assign (av := .exact v3) rfl ?_)
    refine G_nil ?_
    refine kC_normal ?_
    refine k_ret ?_
    obtain rfl := Option.some.inj h
    refine kP_any (endN (af' := (AF.put AF0 (some 2) (.exact v3))) (σ' := [vecT Try.prog 23 1 c_int v3 (([] : List Int) ++ a0)]) _ rfl ?_ ⟨v3, rfl, rfl⟩)
    exact Sub.of_le (AF.le_put (AV.le_eq rfl) (AF.le_top _))
end Go.Proofs.Ytkbbeeeoogjknaa

/- The walk of alphabet.reach: breadth first over a map of rows. -/
namespace Go.Proofs.Ytkbbeeeoogjknaa
open Go.RowKit Go.Maps
attribute [local irreducible] AV.exact AV.top AV.row AV.ptr AV.agg AV.tup AV.eptr AV.fn AV.nilq AV.nilqn AV.eptrO opA opB opM opR Quiet Loud Reads wpG awp den Sub SubU Pure Fun vecI vecT vecO mapS itS boxI CellsAll CellsOf OneC LEs LEss
set_option maxRecDepth 100000

theorem cVis_wf {k : Int} (h : cVis k) : (Lit.int .i64 k).wf = true := by
  unfold cVis at h
  simp [Lit.wf, IntKind.min, IntKind.max, IntKind.signed, IntKind.bits]
  omega
theorem clone_nil (xs : List Int) (h : xs.length ≤ 137438953472) : m_slices_Clone_L_int_int xs = some xs := by
  unfold m_slices_Clone_L_int_int
  rw [nilc_eq (fun e => by subst e; rw [need_pos (by simp)]; rfl), need_pos (by simpa using h), List.nil_append]
theorem zero_ints (w : World) : (zeroValue 23).run Try.prog w = .ok (.slice none 0 0) w := by kernel_rfl
theorem zero_bool (w : World) : (zeroValue 4).run Try.prog w = .ok (.bool false) w := by kernel_rfl
set_option maxHeartbeats 4000000 in
theorem reach_ok {it : Item} {σ0 : Items} {b N : Nat} {f : Int → Option Value} {R : List (Int × Value × List Int)} {G : Int → List Int} (hi : it ∈ σ0) (hL : MapLike Try.prog 3 b N f it) (hG : GCons f R G) (hR : ∀ x ∈ rowsI Try.prog 23 1 c_int R, x ∈ σ0)
    (hv : ∀ k x, x ∈ G k → cVis x) (k : Int) (hk : cVis k) (hl : (G k).length ≤ 137438953472) (r : List Int) (h : cReach G FU [] (G k) = some r) :
    Fun Try.prog 52 [.exact (.map (some b)), .exact (.int .i64 k)] σ0 (fun a s => ∃ z, a = .exact z ∧ s = vecT Try.prog 23 1 c_int z r :: σ0) := by
  refine fun_of_awp Try.func52 rfl Try.ntmps52 (by simp) rfl (res1 rfl) fun E hE => k_end ?_
  refine k_seq ?_
  refine k_reg .free hmixP (by kernel_rfl) ?_
  refine G_q rfl (op_assign (av := .exact (.slice none 0 0)) rfl ?_)
  refine G_nil ?_
  refine kC_normal ?_
  refine k_seq ?_
  refine k_reg .free hmixP (by kernel_rfl) ?_
  refine G_l rfl (op_makeSet (P := Try.prog) (kt := 3) (fun b1 => ?_))
  refine G_q rfl (op_assign (av := .exact (.map (some b1))) rfl ?_)
  refine G_nil ?_
  refine kC_normal ?_
  refine k_seq ?_
  refine k_reg .free hmixP (by kernel_rfl) ?_
  refine G_q rfl (op_move (av := .exact (.map (some b))) rfl ?_)
  refine G_q rfl (op_move (av := .exact (.int .i64 k)) rfl ?_)
  refine G_r rfl (op_lookupM (List.mem_cons_of_mem _ hi) hL Try.underlying59 Try.underlying3 zero_ints rfl rfl (cVis_wf hk) ?_)
  refine G_l rfl (op_fun_bor (m_slices_Clone_L_int_int_ok _ _ (clone_nil (G k) hl)) Try.func60 (by kernel_rfl) rfl (gcons_row hG (fun x hx => List.mem_cons_of_mem _ (hR x hx)) k) len_c_int (fun y => ⟨[.int .i64 y], rfl⟩) (fun z => ?_))
  refine G_q rfl (op_assign (av := .exact z) rfl ?_)
  refine G_nil ?_
  refine kC_normal ?_
  refine k_seq ?_
  refine k_reg .free hmixP (by kernel_rfl) ?_
  refine G_q rfl (op_assign (av := .exact (.slice none 0 0)) rfl ?_)
  refine G_nil ?_
  refine kC_normal ?_
  refine k_seq ?_
  refine k_block ?_
  refine k_loop (α := Nat × List Int × List Int × Value × Value) (fun x => AF.put (AF.put (AF.put (AF.put AF0 (some 0) (.exact (.map (some b)))) (some 5) (.exact (.map (some b1)))) (some 6) (.exact x.2.2.2.2)) (some 7) (.exact x.2.2.2.1)) (fun x => vecT Try.prog 23 1 c_int x.2.2.2.1 x.2.1 :: vecO Try.prog 23 1 c_int x.2.2.2.2 x.2.2.1 :: setS Try.prog 3 b1 x.2.1.reverse :: σ0) (fun x => cReach G x.1 x.2.1 x.2.2.1 = some r ∧ ∀ y ∈ x.2.2.1, cVis y) (fun x => x.1) (FU, [], G k, .slice none 0 0, z) ⟨h, fun y hy => hv k y hy⟩ ?_ (fun x hx => ?_)
  · refine Sub.trans (SubU.to SubU.toO) ?_
    refine Sub.trans (SubU.to (SubU.nilT (P := Try.prog) (t := 23) (n := 1) (enc := c_int))) ?_
    exact Sub.of_le (AF.le_put (AV.le_eq rfl) (AF.le_put (AV.le_eq rfl) (AF.le_put (AV.le_eq rfl) (AF.le_put (AV.le_eq rfl) (AF.le_top _)))))
  obtain ⟨n, out, q, v7, v6⟩ := x
  obtain ⟨hx, hq⟩ := hx
  dsimp only at hx hq ⊢
  cases n with
  | zero => cases hx
  | succ n =>
  refine k_seq ?_
  refine k_seq ?_
  refine k_reg .free hmixP (by kernel_rfl) ?_
  refine G_q rfl (op_move (av := .exact v6) rfl ?_)
  refine G_r rfl (opR_f1 (op_len_O (by kernel_rfl) rfl ?_))
  refine G_q rfl (op_gtr rfl rfl ?_)
  refine G_nil ?_
  refine kC_normal ?_
  refine k_cond_d (p := (0 : Int) < (q.length : Int)) rfl (fun hc => ?_) (fun hc => ?_)
  · cases q with
    | nil => simp at hc
    | cons e q =>
    refine k_skip ?_
    refine kC_normal ?_
    refine k_block ?_
    refine k_seq ?_
    refine k_reg .free hmixP (by kernel_rfl) ?_
    refine G_q rfl (op_move (av := .exact v6) rfl ?_)
    refine G_r rfl (opR_f1 (op_index_O (i := 0) (by kernel_rfl) rfl rfl (by omega) (by simp) ?_))
    refine G_r rfl (opR_f1 (op_load_O1 (i := 0) (a := .exact (.int .i64 e)) (by kernel_rfl) len_c_int rfl (by omega) (by simp) rfl ?_))
    refine G_q rfl (op_assign (av := .exact (.int .i64 e)) rfl ?_)
    refine G_nil ?_
    refine kC_normal ?_
    refine k_seq ?_
    refine k_reg .free hmixP (by kernel_rfl) ?_
    refine G_q rfl (op_move (av := .exact v6) rfl ?_)
    refine G_l rfl (opB_f1 (op_slice1_O (i := 1) (by kernel_rfl) len_c_int rfl rfl (by omega) (by simp; omega) (fun v6' => ?_)))
    refine G_q rfl (op_assign (av := .exact v6') rfl ?_)
    refine G_nil ?_
    refine kC_normal ?_
    refine k_seq ?_
    refine k_seq ?_
    refine k_reg .free hmixP (by kernel_rfl) ?_
    refine G_q rfl (op_move (av := .exact (.map (some b1))) rfl ?_)
    refine G_q rfl (op_move (av := .exact (.int .i64 e)) rfl ?_)
    refine G_r rfl (opR_f2 (op_lookSet Try.underlying78 Try.underlying3 zero_bool rfl rfl (cVis_wf (hq e List.mem_cons_self)) ?_))
    refine G_nil ?_
    refine kC_normal ?_
    refine k_cond_d (p := e ∈ out.reverse) rfl (fun hm => ?_) (fun hm => ?_)
    · refine k_exit ?_
      refine kC_exit ?_
      refine kB_exit ?_
      refine kI_normal ⟨(n, out, q, v7, v6'), ⟨?_, fun y hy => hq y (List.mem_cons_of_mem _ hy)⟩, Nat.lt_succ_self n, ?_⟩
      · have h0 := hx
        rw [cReach, if_pos (List.mem_reverse.1 hm)] at h0
        exact h0
      · refine Sub.trans (SubU.to SubU.f1) ?_
        exact Sub.of_le (AF.le_put (AV.le_eq rfl) (AF.le_put (AV.le_eq rfl) (AF.le_put (AV.le_eq rfl) (AF.le_put (AV.le_eq rfl) (AF.le_top _)))))
    · rw [cReach, if_neg (fun h => hm (List.mem_reverse.2 h))] at hx
      obtain ⟨⟨n1, n2⟩, hx⟩ := need_some hx
      refine k_skip ?_
      refine kC_normal ?_
      refine k_seq ?_
      refine k_reg .free hmixP (by kernel_rfl) ?_
      refine G_q rfl (op_move (av := .exact (.map (some b1))) rfl ?_)
      refine G_q rfl (op_move (av := .exact (.int .i64 e)) rfl ?_)
      refine G_l rfl (opB_f2 (op_updSet Try.underlying78 Try.underlying3 rfl rfl rfl (cVis_wf (hq e List.mem_cons_self)) (by simp only [List.length_reverse, maxLen]; omega) ?_))
      refine G_nil ?_
      refine kC_normal ?_
      refine k_seq ?_
      refine k_reg .free hmixP (by kernel_rfl) ?_
      refine G_q rfl (op_move (av := .exact v7) rfl ?_)
      refine G_q rfl (op_move (av := .exact (.int .i64 e)) rfl ?_)
      refine G_q rfl (op_litT (n := 1) (enc := c_int) [e] (CellsAll.cons rfl CellsOf.int CellsAll.nil) rfl (by kernel_rfl) (LEss.cons (LEs.cons (AV.le_eq rfl) LEs.nil) LEss.nil) ?_)
      refine G_l rfl (opB_f2 (op_appT (by kernel_rfl) rfl rfl oc_c_int n2 (fun v7' => ?_)))
      refine G_q rfl (op_assign (av := .exact v7') rfl ?_)
      refine G_nil ?_
      refine kC_normal ?_
      refine k_reg .free hmixP (by kernel_rfl) ?_
      refine G_q rfl (op_move (av := .exact v6') rfl ?_)
      refine G_q rfl (op_move (av := .exact (.map (some b))) rfl ?_)
      refine G_q rfl (op_move (av := .exact (.int .i64 e)) rfl ?_)
      refine G_r rfl (op_lookupM (List.mem_cons_of_mem _ (List.mem_cons_of_mem _ (List.mem_cons_of_mem _ hi))) hL Try.underlying59 Try.underlying3 zero_ints rfl rfl (cVis_wf (hq e List.mem_cons_self)) ?_)
      refine G_l rfl (opB_f2 (op_appOL (ys := G e) (by kernel_rfl) rfl (BorL.grow hG (fun x hx => List.mem_cons_of_mem _ (List.mem_cons_of_mem _ (List.mem_cons_of_mem _ (hR x hx)))) len_c_int e) oc_c_int n1 (fun v6'' => ?_)))
      refine G_q rfl (op_assign (av := .exact v6'') rfl ?_)
      refine G_nil ?_
      refine kB_normal ?_
      refine kI_normal ⟨(n, out ++ [e], q ++ G e, v7', v6''), ⟨hx, fun y hy => ?_⟩, Nat.lt_succ_self n, ?_⟩
      · rcases List.mem_append.1 hy with hy | hy
        · exact hq y (List.mem_cons_of_mem _ hy)
        · exact hv e y hy
      · refine Sub.trans (SubU.to SubU.f1) ?_
        have e1 : (out ++ [e]).reverse = e :: out.reverse := by simp
        dsimp only
        rw [e1]
        exact Sub.of_le (AF.le_put (AV.le_eq rfl) (AF.le_put (AV.le_eq rfl) (AF.le_put (AV.le_eq rfl) (AF.le_put (AV.le_eq rfl) (AF.le_top _)))))
  · refine k_exit ?_
    refine kC_exit ?_
    refine kI_exit ?_
    refine kB_exit ?_
    have hq0 : q = [] := by cases q with
      | nil => rfl
      | cons e q => simp at hc
    subst hq0
    have hr : out = r := by cases hx; rfl
    subst hr
    refine kC_normal ?_
    refine k_seq ?_
    refine k_reg .free hmixP (by kernel_rfl) ?_
    refine G_q rfl (op_move (av := .exact v7) rfl ?_)
    refine G_q rfl (op_assign (av := .exact v7) rfl ?_)
    refine G_nil ?_
    refine kC_normal ?_
    refine k_ret ?_
    refine kP_any (endN (af' := (AF.put AF0 (some 4) (.exact v7))) (σ' := vecT Try.prog 23 1 c_int v7 out :: σ0) _ rfl ?_ ⟨v7, rfl, rfl⟩)
    refine Sub.trans (SubU.to SubU.f1) ?_
    refine Sub.trans (SubU.to SubU.drop) ?_
    refine Sub.trans (SubU.to SubU.f1) ?_
    refine Sub.trans (SubU.to SubU.drop) ?_
    exact Sub.of_le (AF.le_put (AV.le_eq rfl) (AF.le_top _))
end Go.Proofs.Ytkbbeeeoogjknaa
/- The walk of alphabet.Close. -/
namespace Go.Proofs.Ytkbbeeeoogjknaa
open Go.RowKit Go.Maps

theorem op_extractX {P : Program} {af : AF} {d : Option Tmp} {ty : TypeId} {pos : String} {after : Array Edge} {g : Option (Nat × Bool)} {K : AF → Prop} {x : Operand} {vs : Array Value} {i : Nat} {v : Value} (hx : af.ev x = .exact (.tuple vs)) (hl : vs[i]? = some v) (hk : K (af.put d (.exact v))) : opA P ⟨d, .extract x i, ty, pos, after, g⟩ af K := by
  refine ⟨_, fun M w ev _ h => ?_, hk⟩
  have e1 := opnd h (x := x) (by simp [Op.operands]) hx
  simp [execOp, Instr.extract, e1, hl, go_sem, UponQ]
  exact ⟨Keeps.refl _ _, rfl⟩
theorem cG_app (a : List (Int × Int)) (p : Int × Int) : cG (a ++ [p]) = fun j => if j = p.1 then cG a p.1 ++ [p.2] else cG a j := by
  funext j
  unfold cG
  rw [List.filter_append, List.map_append]
  by_cases h : j = p.1
  · subst h; simp
  · have : ¬ p.1 = j := fun e => h e.symm
    simp [h, this]
theorem cG_vis {l : List (Int × Int)} (hv : ∀ p ∈ l, cVis p.1 ∧ cVis p.2) (k x : Int) (h : x ∈ cG l k) : cVis x := by
  unfold cG at h
  obtain ⟨p, hp, rfl⟩ := List.mem_map.1 h
  exact (hv p (List.mem_filter.1 hp).1).2
theorem cG_len (l : List (Int × Int)) (k : Int) : (cG l k).length ≤ l.length := by
  unfold cG
  rw [List.length_map]
  exact List.length_filter_le _ _
theorem cQ_snoc (l : List (Int × Int)) (ks : List Int) (k : Int) : cQ l (ks ++ [k]) = cQ l ks ++ (cRd l k).map (fun e => (k, e)) := by
  unfold cQ; rw [List.flatMap_append]; simp
theorem cRd_emp {l : List (Int × Int)} {k : Int} (h : cG l k = []) : cRd l k = [] := by
  unfold cRd cR
  have : ∃ n, FU = n + 1 := ⟨FU - 1, by have := FU_ge; omega⟩
  obtain ⟨n, hn⟩ := this
  rw [h, hn]
  rfl
theorem cQ_sub {l : List (Int × Int)} {ks : List Int} (hn : ks.Nodup) (hv : ∀ k ∈ ks, cVis k) : (cQ l ks).length ≤ (cP l).length :=
  nodup_leZ (cQ_nodup l hn) (fun p hp => by
    have := cQ_mem.1 hp
    exact (cQ_mem (ks := cKeys)).2 ⟨cKeys_mem.2 (hv _ this.1), this.2⟩)

attribute [local irreducible] AV.exact AV.top AV.row AV.ptr AV.agg AV.tup AV.eptr AV.fn AV.nilq AV.nilqn AV.eptrO opA opB opM opR Quiet Loud Reads wpG awp den Sub SubU Pure Fun vecI vecT vecO mapS itS boxI CellsAll CellsOf OneC LEs LEss FU
set_option maxRecDepth 100000

set_option maxHeartbeats 4000000 in
theorem m_close_ok (l : List (Int × Int)) (r : List (Int × Int) × Int) (h : m_close l = some r) : Pure Try.prog 13 [.row 2 c_api_Above l] (.tup [.row 2 c_api_Above r.1, .exact (.int .i64 r.2)]) := by
  have hl : l.length ≤ 137438953472 := Classical.byContradiction fun hc => by unfold m_close at h; rw [if_neg hc] at h; cases h
  have hbad : (∃ p ∈ l, ¬ (cVis p.1 ∧ cVis p.2)) → r = ([], 1) := fun hb => by
    unfold m_close at h; rw [if_pos hl, if_pos hb] at h; cases h; rfl
  have hrest : (∀ p ∈ l, cVis p.1 ∧ cVis p.2) → (∀ k, (cR l k).isSome = true) ∧ (cP l).length ≤ 137438953472 ∧ ((∃ k, k ∈ cRd l k) → r = ([], 14)) ∧ ((¬ ∃ k, k ∈ cRd l k) → r = (sortC pcmp (cP l), 0)) := fun hv => by
    unfold m_close at h
    rw [if_pos hl, if_neg (by rintro ⟨p, hp, hn⟩; exact hn (hv p hp))] at h
    split at h
    · rename_i h1
      refine ⟨h1.1, h1.2, fun hk => ?_, fun hk => ?_⟩
      · rw [if_pos hk] at h; cases h; rfl
      · rw [if_neg hk] at h; cases h; rfl
    · cases h
  clear h
  refine Pure.ofFun (fun_of_awp Try.func13 rfl Try.ntmps13 (by simp) rfl (res2 rfl) fun E hE => k_end ?_)
  refine k_seq ?_
  refine k_reg .free hmixP (by kernel_rfl) ?_
  refine G_q rfl (op_assign (av := .exact (.slice none 0 0)) rfl ?_)
  refine G_q rfl (op_assign (av := .exact (.int .i64 0)) rfl ?_)
  refine G_nil ?_
  refine kC_normal ?_
  refine k_seq ?_
  refine k_reg .free hmixP (by kernel_rfl) ?_
  refine G_l rfl (op_makeMap (P := Try.prog) (kt := 3) (fun b => ?_))
  refine G_q rfl (op_assign (av := .exact (.map (some b))) rfl ?_)
  refine G_nil ?_
  refine kC_normal ?_
  refine k_seq ?_
  refine k_seq ?_
  refine k_reg .free hmixP (by kernel_rfl) ?_
  refine G_q rfl (op_move (av := .row 2 c_api_Above l) rfl ?_)
  refine G_q rfl (op_len_row (by kernel_rfl) rfl ?_)
  refine G_q rfl (op_move (av := .exact (.int .i64 0)) rfl ?_)
  refine G_nil ?_
  refine kC_normal ?_
  refine k_block ?_
  refine k_loop (α := Nat × (Int → Option Value) × List (Int × Value × List Int)) (fun x => AF.put (AF.put (AF.put (AF.put AF0 (some 4) (.exact (.map (some b)))) (some 12) (.row 2 c_api_Above l)) (some 13) (.exact (.int .i64 (l.length : Int)))) (some 14) (.exact (.int .i64 (x.1 : Int)))) (fun x => mapS Try.prog 3 b x.1 x.2.1 :: rowsI Try.prog 23 1 c_int x.2.2) (fun x => x.1 ≤ l.length ∧ GCons x.2.1 x.2.2 (cG (l.take x.1)) ∧ (∀ p ∈ l.take x.1, cVis p.1 ∧ cVis p.2) ∧ ∀ k, (x.2.1 k).isSome = true → cVis k) (fun x => l.length - x.1) (0, fun _ => none, []) ⟨Nat.zero_le _, gcons_emp, fun p hp => by (rw [List.take_zero] at hp; cases hp), fun k hk => by (cases hk)⟩ ?_ (fun x hx => ?_)
  · exact Sub.of_le (AF.le_put (AV.le_eq rfl) (AF.le_put (AV.le_eq rfl) (AF.le_put (AV.le_eq rfl) (AF.le_put (AV.le_eq rfl) (AF.le_top _)))))
  obtain ⟨i, f, R⟩ := x
  obtain ⟨hi, hG, hv, hfv⟩ := hx
  dsimp only at hi hG hv hfv ⊢
  refine k_seq ?_
  refine k_reg .free hmixP (by kernel_rfl) ?_
  refine G_q rfl (op_lss rfl rfl ?_)
  refine G_nil ?_
  refine kC_normal ?_
  refine k_seq ?_
  refine k_cond_d (p := (i : Int) < (l.length : Int)) rfl (fun hc => ?_) (fun hc => ?_)
  · have hil : i < l.length := by omega
    have hp := gi_get (xs := l) (i := (i : Int)) (by omega) (by omega)
    simp only [Int.toNat_natCast] at hp
    have hpm : gi l (i : Int) ∈ l := List.mem_of_getElem? hp
    have htk : l.take (i + 1) = l.take i ++ [gi l (i : Int)] := by rw [List.take_add_one, hp]; rfl
    generalize hpe : gi l (i : Int) = p at *
    refine k_skip ?_
    refine kC_normal ?_
    refine k_seq ?_
    refine k_block ?_
    refine k_seq ?_
    refine k_reg .free hmixP (by kernel_rfl) ?_
    refine G_q rfl (op_index_row (by kernel_rfl) rfl rfl (by omega) (by omega) ?_)
    refine G_q rfl (op_loadNp (m := 2) (c' := c_api_Above (gi l (i : Int))) (by kernel_rfl) rfl rfl rfl ?_)
    rw [hpe]
    refine G_l rfl (op_alloc (c := [.exact (.int .i64 (((0 : Int), (0 : Int)).1)), .exact (.int .i64 (((0 : Int), (0 : Int)).2))]) rfl (LEs.cons (AV.le_eq rfl) (LEs.cons (AV.le_eq rfl) LEs.nil)) (fun b1 => ?_))
    refine G_l rfl (op_store_box (c' := [.exact (.int .i64 p.1), .exact (.int .i64 p.2)]) (c3 := [.exact (.int .i64 p.1), .exact (.int .i64 p.2)]) rfl rfl CellsOf.agg (LEs.cons (AV.le_eq rfl) (LEs.cons (AV.le_eq rfl) LEs.nil)) (oc_c_api_Above _) (by kernel_rfl) (Nat.le_of_ble_eq_true rfl) rfl ?_)
    refine G_nil ?_
    refine kC_normal ?_
    refine awp_sub (SubU.to (SubU.freezeBox (s := 6) rfl)) ?_
    refine k_seq ?_
    refine k_seq ?_
    refine k_reg .free hmixP (by kernel_rfl) ?_
    refine G_q rfl (op_fieldAddr_ptr (o := 0) (c' := (List.drop 0 (c_api_Above p))) (by kernel_rfl) rfl rfl ?_)
    refine G_q rfl (op_load1p (a := .exact (.int .i64 p.1)) (by kernel_rfl) rfl rfl ?_)
    refine G_q rfl (op_pure (m_alphabet_visible_ok _ _ (visZ p.1)) Try.func51 (by kernel_rfl) (LEs.cons (AV.le_eq rfl) LEs.nil) ?_)
    refine G_q rfl (op_not_d (p := cVis p.1) rfl ?_)
    refine G_q rfl (op_move (av := .exact (.bool (decide (¬ cVis p.1)))) rfl ?_)
    refine G_split (p := ¬ cVis p.1) 22 rfl (fun hv1 => ?_) (fun hv1 => ?_)
    · have hrr := hbad ⟨p, hpm, fun h => hv1 h.1⟩
      subst hrr
      refine G_n rfl rfl ?_
      refine G_n rfl rfl ?_
      refine G_n rfl rfl ?_
      refine G_n rfl rfl ?_
      refine G_q rfl (op_pick_t rfl (av := .exact (.bool true)) rfl ?_)
      refine G_nil ?_
      refine kC_normal ?_
      refine k_cond_t rfl ?_
      refine k_seq ?_
      refine k_reg .free hmixP (by kernel_rfl) ?_
      refine G_q rfl (op_assign (av := .exact (.slice none 0 0)) rfl ?_)
      refine G_q rfl (op_assign (av := .exact (.int .i64 1)) rfl ?_)
      refine G_nil ?_
      refine kC_normal ?_
      refine k_ret ?_
      repeat (first | refine kC_ret ?_ | refine kB_ret ?_ | refine kI_ret ?_)
      refine kP_any (endN (af' := AF.put (AF.put AF0 (some 2) (.row 2 c_api_Above [])) (some 3) (.exact (.int .i64 1))) (σ' := []) _ rfl ?_ ⟨rfl, rfl⟩)
      refine Sub.trans (SubU.to SubU.dropAll) ?_
      exact Sub.of_le (AF.le_put (AV.le_eq rfl) (AF.le_put (row_nil (by omega)) (AF.le_top _)))
    · have hv1' : cVis p.1 := Classical.not_not.1 hv1
      refine Gy_q rfl rfl rfl (op_fieldAddr_ptr (o := 1) (c' := (List.drop 1 (c_api_Above p))) (by kernel_rfl) rfl rfl ?_)
      refine Gy_q rfl rfl rfl (op_load1p (a := .exact (.int .i64 p.2)) (by kernel_rfl) rfl rfl ?_)
      refine Gy_q rfl rfl rfl (op_pure (m_alphabet_visible_ok _ _ (visZ p.2)) Try.func51 (by kernel_rfl) (LEs.cons (AV.le_eq rfl) LEs.nil) ?_)
      refine Gy_q rfl rfl rfl (op_not_d (p := cVis p.2) rfl ?_)
      refine G_q rfl (op_pick_f rfl (av := .exact (.bool (decide (¬ cVis p.2)))) rfl ?_)
      refine G_nil ?_
      refine kC_normal ?_
      refine k_cond_d (p := ¬ cVis p.2) rfl (fun hv2 => ?_) (fun hv2 => ?_)
      · have hrr := hbad ⟨p, hpm, fun h => hv2 h.2⟩
        subst hrr
        refine k_seq ?_
        refine k_reg .free hmixP (by kernel_rfl) ?_
        refine G_q rfl (op_assign (av := .exact (.slice none 0 0)) rfl ?_)
        refine G_q rfl (op_assign (av := .exact (.int .i64 1)) rfl ?_)
        refine G_nil ?_
        refine kC_normal ?_
        refine k_ret ?_
        repeat (first | refine kC_ret ?_ | refine kB_ret ?_ | refine kI_ret ?_)
        refine kP_any (endN (af' := AF.put (AF.put AF0 (some 2) (.row 2 c_api_Above [])) (some 3) (.exact (.int .i64 1))) (σ' := []) _ rfl ?_ ⟨rfl, rfl⟩)
        refine Sub.trans (SubU.to SubU.dropAll) ?_
        exact Sub.of_le (AF.le_put (AV.le_eq rfl) (AF.le_put (row_nil (by omega)) (AF.le_top _)))
      · have hv2' : cVis p.2 := Classical.not_not.1 hv2
        refine k_skip ?_
        refine kC_normal ?_
        obtain ⟨R0, hsub, hG'⟩ := rows_split (P := Try.prog) (kt := 3) (t := 23) (n := 1) (enc := c_int) (b := b) (N := i) hG p.1
        refine awp_sub (SubU.to (hsub _)) ?_
        refine k_plan [] [(0, 0), (0, 1), (0, 2), (0, 3), (0, 4), (0, 5), (0, 7), (0, 8), (0, 9), (1, 6), (2, 10), (2, 11)] hmixP (by kernel_rfl) ?_
        refine P_q no34_0 rfl (op_move (av := .exact (.map (some b))) rfl ?_)
        refine P_q no34_0 rfl (op_fieldAddr_ptr (o := 0) (c' := (List.drop 0 (c_api_Above p))) (by kernel_rfl) rfl rfl ?_)
        refine P_q no34_0 rfl (op_load1p (a := .exact (.int .i64 p.1)) (by kernel_rfl) rfl rfl ?_)
        refine P_q no34_0 rfl (op_move (av := .exact (.map (some b))) rfl ?_)
        refine P_q no34_0 rfl (op_fieldAddr_ptr (o := 0) (c' := (List.drop 0 (c_api_Above p))) (by kernel_rfl) rfl rfl ?_)
        refine P_q no34_0 rfl (op_load1p (a := .exact (.int .i64 p.1)) (by kernel_rfl) rfl rfl ?_)
        refine P_q no34_0 rfl (op_fieldAddr_ptr (o := 1) (c' := (List.drop 1 (c_api_Above p))) (by kernel_rfl) rfl rfl ?_)
        refine P_q no34_0 rfl (op_load1p (a := .exact (.int .i64 p.2)) (by kernel_rfl) rfl rfl ?_)
        refine P_q no34_0 rfl (op_litT (n := 1) (enc := c_int) [p.2] (CellsAll.cons rfl CellsOf.int CellsAll.nil) rfl (by kernel_rfl) (LEss.cons (LEs.cons (AV.le_eq rfl) LEs.nil) LEss.nil) ?_)
        refine P_r rfl (opR_f1 (op_lookup Try.underlying59 Try.underlying3 zero_ints rfl rfl (cVis_wf hv1') ?_))
        have hgl : (cG (l.take i) p.1).length + [p.2].length ≤ 137438953472 := by
          have := cG_len (l.take i) p.1
          simp only [List.length_take, List.length_cons, List.length_nil] at *
          omega
        refine P_l rfl (op_appT (by kernel_rfl) rfl rfl oc_c_int hgl (fun v' => ?_))
        refine P_l rfl (opB_f1 (op_mapUpdate (v := v') Try.underlying59 Try.underlying3 rfl rfl rfl (cVis_wf hv1') (by simp only [maxLen]; omega) ?_))
        refine P_nil ?_
        refine kB_normal ?_
        refine kC_normal ?_
        refine k_reg .free hmixP (by kernel_rfl) ?_
        refine G_q rfl (op_add (r := ((i + 1 : Nat) : Int)) rfl rfl (by rw [wrap_i64 _ (by omega)]; omega) ?_)
        refine G_q rfl (op_move (av := .exact (.int .i64 ((i + 1 : Nat) : Int))) rfl ?_)
        refine G_nil ?_
        have hG2 := hG' v' (cG (l.take i) p.1 ++ [p.2])
        have hG3 : GCons (updM f p.1 v') ((p.1, v', cG (l.take i) p.1 ++ [p.2]) :: R0) (cG (l.take (i + 1))) := by
          rw [htk, cG_app]; exact hG2
        refine kI_normal ⟨(i + 1, updM f p.1 v', (p.1, v', cG (l.take i) p.1 ++ [p.2]) :: R0), ⟨by dsimp only; omega, hG3, fun q hq => ?_, fun k hk => ?_⟩, by dsimp only; omega, ?_⟩
        · dsimp only at hq
          rw [htk] at hq
          rcases List.mem_append.1 hq with hq | hq
          · exact hv q hq
          · simp only [List.mem_singleton] at hq
            subst hq; exact ⟨hv1', hv2'⟩
        · dsimp only [updM] at hk
          by_cases hkp : k = p.1
          · rw [hkp]; exact hv1'
          · rw [if_neg hkp] at hk; exact hfv k hk
        · exact Sub.of_le (AF.le_put (AV.le_eq rfl) (AF.le_put (AV.le_eq rfl) (AF.le_put (AV.le_eq rfl) (AF.le_put (AV.le_eq rfl) (AF.le_top _)))))
  · obtain rfl : i = l.length := by omega
    rw [List.take_length] at hG hv
    obtain ⟨hall, htot, hcyc, hnc⟩ := hrest hv
    refine k_exit ?_
    repeat (first | refine kC_exit ?_ | refine kI_exit ?_)
    refine kB_exit ?_
    refine kC_normal ?_
    refine k_seq ?_
    refine k_reg .free hmixP (by kernel_rfl) ?_
    refine G_q rfl (op_assign (av := .exact (.slice none 0 0)) rfl ?_)
    refine G_nil ?_
    refine kC_normal ?_
    repeat (refine k_seq ?_)
    refine k_reg .free hmixP (by kernel_rfl) ?_
    refine G_q rfl (op_move (av := .exact (.map (some b))) rfl ?_)
    refine G_l rfl (op_range (left := R.map (fun x => x.1)) Try.underlying59 Try.underlying3 rfl (fun k => ?_) (fun rr => ?_))
    · constructor
      · intro hk
        obtain ⟨v, hv'⟩ := Option.isSome_iff_exists.1 hk
        exact List.mem_map.2 ⟨_, hG.at_ k v hv', rfl⟩
      · intro hk
        obtain ⟨x, hx, rfl⟩ := List.mem_map.1 hk
        rw [(hG.keys x hx).1]; rfl
    refine G_nil ?_
    refine kC_normal ?_
    repeat (first | refine k_seq ?_ | refine k_block ?_)
    refine k_loop (α := List Int × Option (Int × Value) × List Int × Value) (fun x => AF.put (AF.put (AF.put AF0 (some 4) (.exact (.map (some b)))) (some 7) (.exact x.2.2.2)) (some 41) (pA rr 0)) (fun x => vecT Try.prog 22 2 c_api_Above x.2.2.2 (cQ l x.2.2.1) :: itS Try.prog 3 b rr l.length f x.1 x.2.1 :: rowsI Try.prog 23 1 c_int R) (fun x => x.2.2.1.Nodup ∧ (∀ k ∈ x.2.2.1, k ∉ x.1) ∧ (∀ k, (f k).isSome = true ↔ k ∈ x.2.2.1 ∨ k ∈ x.1) ∧ ∀ k ∈ x.2.2.1, k ∉ cRd l k) (fun x => x.1.length) (R.map (fun x => x.1), none, [], .slice none 0 0) ⟨List.nodup_nil, fun k hk => by (cases hk), fun k => ?_, fun k hk => by (cases hk)⟩ ?_ (fun x hx => ?_)
    · constructor
      · intro hk
        obtain ⟨v, hv'⟩ := Option.isSome_iff_exists.1 hk
        exact .inr (List.mem_map.2 ⟨_, hG.at_ k v hv', rfl⟩)
      · rintro (hk | hk)
        · cases hk
        · obtain ⟨x, hx, rfl⟩ := List.mem_map.1 hk
          rw [(hG.keys x hx).1]; rfl
    · refine Sub.trans (SubU.to (SubU.nilT (P := Try.prog) (t := 22) (n := 2) (enc := c_api_Above))) ?_
      exact Sub.of_le (AF.le_put (AV.le_eq rfl) (AF.le_put (AV.le_eq rfl) (AF.le_put (AV.le_eq rfl) (AF.le_top _))))
    obtain ⟨left, lst, ks, v7⟩ := x
    obtain ⟨hkn, hkl, hkf, hkc⟩ := hx
    dsimp only at hkn hkl hkf hkc ⊢
    have hkv : ∀ k ∈ ks, cVis k := fun k hk => hfv k ((hkf k).2 (.inl hk))
    repeat (refine k_seq ?_)
    refine k_reg .free hmixP (by kernel_rfl) ?_
    refine G_l rfl (opB_f1 (op_next Try.underlying3 rfl (fun hle => ?_) (fun k v left' hk hfk hlf hln hkw => ?_)))
    · refine G_q rfl (op_extractX (v := .bool false) rfl rfl ?_)
      refine G_nil ?_
      refine kC_normal ?_
      repeat (refine k_seq ?_)
      refine k_cond_f rfl ?_
      refine k_exit ?_
      repeat (first | refine kC_exit ?_ | refine kI_exit ?_)
      refine kB_exit ?_
      refine kC_normal ?_
      have hf0 : ∀ k, k ∉ ks → cRd l k = [] := fun k hk => by
        refine cRd_emp (hG.none k ?_)
        cases hf : f k with
        | none => rfl
        | some v =>
          rcases (hkf k).1 (by rw [hf]; rfl) with h | h
          · exact absurd h hk
          · rw [hle] at h; cases h
      have hno : ¬ ∃ k, k ∈ cRd l k := by
        rintro ⟨k, hk⟩
        by_cases hm : k ∈ ks
        · exact hkc k hm hk
        · rw [hf0 k hm] at hk; cases hk
      have hrr := hnc hno
      subst hrr
      have hperm : (cQ l ks).Perm (cP l) := perm_of_nodupZ (cQ_nodup l hkn) (cQ_nodup l cKeys_nodup) (fun p => by
        show p ∈ cQ l ks ↔ p ∈ cQ l cKeys
        rw [cQ_mem, cQ_mem]
        constructor
        · rintro ⟨h1, h2⟩; exact ⟨cKeys_mem.2 (hkv _ h1), h2⟩
        · rintro ⟨h1, h2⟩
          refine ⟨Classical.byContradiction fun hn => ?_, h2⟩
          rw [hf0 _ hn] at h2; cases h2)
      have hsort : m_sortby m_alphabet_compareAbove (cQ l ks) = some (sortC pcmp (cP l)) := by
        rw [cmpAbove, m_sortby_eq (by have := cQ_sub (l := l) hkn hkv; omega) pcmp_ok, sortC_pcmp_perm hperm]
      refine k_seq ?_
      refine k_reg .free hmixP (by kernel_rfl) ?_
      refine G_q rfl (op_move (av := .exact v7) rfl ?_)
      refine G_l rfl (opB_f1 (op_fun_1_0_1 (m_sort_api_Above_ok m_alphabet_compareAbove_ok _ _ hsort) Try.func53 (by kernel_rfl) (LEs.cons (AV.le_eq rfl) (LEs.cons (AV.le_eq rfl) LEs.nil)) ?_))
      refine G_nil ?_
      refine kC_normal ?_
      refine k_seq ?_
      refine k_reg .free hmixP (by kernel_rfl) ?_
      refine G_q rfl (op_move (av := .exact v7) rfl ?_)
      refine G_l rfl (op_fun_1_0_0 (m_slices_Clip_L_api_Above_api_Above_ok _ _ (clipZ _)) Try.func55 (by kernel_rfl) (LEs.cons (AV.le_eq rfl) LEs.nil) ?_)
      refine G_q rfl (op_assign (av := .row 2 c_api_Above (sortC pcmp (cP l))) rfl ?_)
      refine G_q rfl (op_assign (av := .exact (.int .i64 0)) rfl ?_)
      refine G_nil ?_
      refine kC_normal ?_
      refine k_ret ?_
      refine kP_any (endN (af' := AF.put (AF.put AF0 (some 2) (.row 2 c_api_Above (sortC pcmp (cP l)))) (some 3) (.exact (.int .i64 0))) (σ' := []) _ rfl ?_ ⟨rfl, rfl⟩)
      refine Sub.trans (SubU.to SubU.dropAll) ?_
      exact Sub.of_le (AF.le_put (AV.le_eq rfl) (AF.le_put (AV.le_eq rfl) (AF.le_top _)))
    · have hkvis : cVis k := hfv k (by rw [hfk]; rfl)
      have hknk : k ∉ ks := fun h => hkl k h hk
      obtain ⟨Rk, hRk⟩ := Option.isSome_iff_exists.1 (hall k)
      have hRd : cRd l k = Rk := by unfold cRd; rw [hRk]; rfl
      refine G_q rfl (op_extractX (v := .bool true) rfl rfl ?_)
      refine G_nil ?_
      refine kC_normal ?_
      repeat (refine k_seq ?_)
      refine k_cond_t rfl ?_
      refine k_skip ?_
      refine kC_normal ?_
      repeat (first | refine k_seq ?_ | refine k_block ?_)
      refine k_reg .free hmixP (by kernel_rfl) ?_
      refine G_r rfl (op_entry rfl ?_)
      refine G_q rfl (op_extractX (v := .int .i64 k) rfl rfl ?_)
      refine G_q rfl (op_assign (av := .exact (.int .i64 k)) rfl ?_)
      refine G_nil ?_
      refine kC_normal ?_
      repeat (refine k_seq ?_)
      refine k_reg .free hmixP (by kernel_rfl) ?_
      refine G_q rfl (op_move (av := .exact (.map (some b))) rfl ?_)
      refine G_q rfl (op_move (av := .exact (.int .i64 k)) rfl ?_)
      refine G_l rfl (op_fun (reach_ok (R := R) (G := cG l) List.mem_cons_self MapLike.it hG (fun x hx => List.mem_cons_of_mem _ (List.mem_cons_of_mem _ hx)) (cG_vis hv) k hkvis (Nat.le_trans (cG_len l k) hl) Rk hRk) Try.func52 (by kernel_rfl) (LEs.cons (AV.le_eq rfl) (LEs.cons (AV.le_eq rfl) LEs.nil)) ?_)
      rintro av s ⟨z, rfl, rfl⟩
      refine G_r rfl (op_len_vec (by kernel_rfl) rfl ?_)
      refine G_q rfl (op_move (av := .exact (.int .i64 0)) rfl ?_)
      refine G_nil ?_
      refine kC_normal ?_
      refine awp_sub (SubU.to (SubU.freezeT (s := 48) rfl len_c_int)) ?_
      repeat (first | refine k_seq ?_ | refine k_block ?_)
      refine k_loop (α := Nat × Value) (fun x => AF.put (AF.put (AF.put (AF.put (AF.put (AF.put (AF.put AF0 (some 4) (.exact (.map (some b)))) (some 7) (.exact x.2)) (some 8) (.exact (.int .i64 k))) (some 41) (pA rr 0)) (some 48) (.row 1 c_int Rk)) (some 49) (.exact (.int .i64 (Rk.length : Int)))) (some 50) (.exact (.int .i64 (x.1 : Int)))) (fun x => vecT Try.prog 22 2 c_api_Above x.2 (cQ l ks ++ (Rk.take x.1).map (fun e => (k, e))) :: itS Try.prog 3 b rr l.length f left' (some (k, v)) :: rowsI Try.prog 23 1 c_int R) (fun x => x.1 ≤ Rk.length ∧ ∀ e ∈ Rk.take x.1, e ≠ k) (fun x => Rk.length - x.1) (0, v7) ⟨Nat.zero_le _, fun e he => by (rw [List.take_zero] at he; cases he)⟩ ?_ (fun x hx => ?_)
      · refine Sub.trans (SubU.to SubU.f1) ?_
        dsimp only
        rw [List.take_zero, List.map_nil, List.append_nil]
        exact Sub.of_le (AF.le_put (AV.le_eq rfl) (AF.le_put (AV.le_eq rfl) (AF.le_put (AV.le_eq rfl) (AF.le_put (AV.le_eq rfl) (AF.le_put (AV.le_eq rfl) (AF.le_put (AV.le_eq rfl) (AF.le_put (AV.le_eq rfl) (AF.le_top _))))))))
      obtain ⟨j, v8⟩ := x
      obtain ⟨hj, hje⟩ := hx
      dsimp only at hj hje ⊢
      have hks' : (ks ++ [k]).Nodup := by
        rw [List.nodup_append]
        refine ⟨hkn, by simp, fun a ha c hc' => ?_⟩
        simp at hc'; subst hc'
        exact fun e => hknk (e ▸ ha)
      have hkv' : ∀ k' ∈ ks ++ [k], cVis k' := fun k' hk' => by
        rcases List.mem_append.1 hk' with h | h
        · exact hkv _ h
        · simp only [List.mem_singleton] at h; rw [h]; exact hkvis
      have htot' : (cQ l ks).length + Rk.length ≤ 137438953472 := by
        have := cQ_sub (l := l) hks' hkv'
        rw [cQ_snoc, hRd] at this
        simp only [List.length_append, List.length_map] at this
        omega
      repeat (refine k_seq ?_)
      refine k_reg .free hmixP (by kernel_rfl) ?_
      refine G_q rfl (op_lss rfl rfl ?_)
      refine G_nil ?_
      refine kC_normal ?_
      repeat (refine k_seq ?_)
      refine k_cond_d (p := (j : Int) < (Rk.length : Int)) rfl (fun hc => ?_) (fun hc => ?_)
      · have hp := gi_get (xs := Rk) (i := (j : Int)) (by omega) (by omega)
        simp only [Int.toNat_natCast] at hp
        have hem : gi Rk (j : Int) ∈ Rk := List.mem_of_getElem? hp
        have htk : Rk.take (j + 1) = Rk.take j ++ [gi Rk (j : Int)] := by rw [List.take_add_one, hp]; rfl
        refine k_skip ?_
        refine kC_normal ?_
        repeat (first | refine k_seq ?_ | refine k_block ?_)
        refine k_reg .free hmixP (by kernel_rfl) ?_
        refine G_q rfl (op_index_row (by kernel_rfl) rfl rfl (by omega) (by omega) ?_)
        refine G_q rfl (op_load1p (a := .exact (.int .i64 (gi Rk (j : Int)))) (by kernel_rfl) rfl rfl ?_)
        refine G_q rfl (op_assign (av := .exact (.int .i64 (gi Rk (j : Int)))) rfl ?_)
        refine G_nil ?_
        refine kC_normal ?_
        generalize hee : gi Rk (j : Int) = e at *
        repeat (refine k_seq ?_)
        refine k_reg .free hmixP (by kernel_rfl) ?_
        refine G_q rfl (op_move (av := .exact (.int .i64 e)) rfl ?_)
        refine G_q rfl (op_move (av := .exact (.int .i64 k)) rfl ?_)
        refine G_q rfl (op_eql rfl rfl ?_)
        refine G_nil ?_
        refine kC_normal ?_
        repeat (refine k_seq ?_)
        refine k_cond_d (p := e = k) rfl (fun hek => ?_) (fun hek => ?_)
        · have hrr := hcyc ⟨k, by rw [hRd, ← hek]; exact hem⟩
          subst hrr
          refine k_seq ?_
          refine k_reg .free hmixP (by kernel_rfl) ?_
          refine G_q rfl (op_assign (av := .exact (.slice none 0 0)) rfl ?_)
          refine G_q rfl (op_assign (av := .exact (.int .i64 14)) rfl ?_)
          refine G_nil ?_
          refine kC_normal ?_
          refine k_ret ?_
          repeat (first | refine kC_ret ?_ | refine kB_ret ?_ | refine kI_ret ?_)
          refine kP_any (endN (af' := AF.put (AF.put AF0 (some 2) (.row 2 c_api_Above [])) (some 3) (.exact (.int .i64 14))) (σ' := []) _ rfl ?_ ⟨rfl, rfl⟩)
          refine Sub.trans (SubU.to SubU.dropAll) ?_
          exact Sub.of_le (AF.le_put (AV.le_eq rfl) (AF.le_put (row_nil (by omega)) (AF.le_top _)))
        · refine k_skip ?_
          refine kC_normal ?_
          repeat (refine k_seq ?_)
          refine k_reg .free hmixP (by kernel_rfl) ?_
          refine G_q rfl (op_move (av := .exact v8) rfl ?_)
          refine G_q rfl (op_move (av := .exact (.int .i64 k)) rfl ?_)
          refine G_q rfl (op_move (av := .exact (.int .i64 e)) rfl ?_)
          refine G_q rfl (op_bld (c' := c_api_Above (k, e)) (CellsAll.cons rfl CellsOf.int (CellsAll.cons rfl CellsOf.int CellsAll.nil)) rfl (LEs.cons (AV.le_eq rfl) (LEs.cons (AV.le_eq rfl) LEs.nil)) ?_)
          refine G_q rfl (op_litT (n := 2) (enc := c_api_Above) [(k, e)] (CellsAll.cons rfl CellsOf.agg CellsAll.nil) rfl (by kernel_rfl) (LEss.cons (LEs.cons (AV.le_eq rfl) (LEs.cons (AV.le_eq rfl) LEs.nil)) LEss.nil) ?_)
          have hlen : (cQ l ks ++ (Rk.take j).map (fun e => (k, e))).length + [(k, e)].length ≤ 137438953472 := by
            simp only [List.length_append, List.length_map, List.length_take, List.length_cons, List.length_nil]; omega
          refine G_l rfl (op_appT (by kernel_rfl) rfl rfl oc_c_api_Above hlen (fun v8' => ?_))
          refine G_q rfl (op_assign (av := .exact v8') rfl ?_)
          refine G_nil ?_
          refine kB_normal ?_
          refine kC_normal ?_
          refine k_reg .free hmixP (by kernel_rfl) ?_
          refine G_q rfl (op_add (r := ((j + 1 : Nat) : Int)) rfl rfl (by rw [wrap_i64 _ (by omega)]; omega) ?_)
          refine G_q rfl (op_move (av := .exact (.int .i64 ((j + 1 : Nat) : Int))) rfl ?_)
          refine G_nil ?_
          refine kI_normal ⟨(j + 1, v8'), ⟨by dsimp only; omega, fun e' he' => ?_⟩, by dsimp only; omega, ?_⟩
          · dsimp only at he'
            rw [htk] at he'
            rcases List.mem_append.1 he' with h | h
            · exact hje _ h
            · simp only [List.mem_singleton] at h
              rw [h]; exact hek
          · dsimp only
            rw [htk, List.map_append, ← List.append_assoc]
            exact Sub.of_le (AF.le_put (AV.le_eq rfl) (AF.le_put (AV.le_eq rfl) (AF.le_put (AV.le_eq rfl) (AF.le_put (AV.le_eq rfl) (AF.le_put (AV.le_eq rfl) (AF.le_put (AV.le_eq rfl) (AF.le_put (AV.le_eq rfl) (AF.le_top _))))))))
      · obtain rfl : j = Rk.length := by omega
        rw [List.take_length] at hje ⊢
        refine k_exit ?_
        repeat (first | refine kC_exit ?_ | refine kI_exit ?_)
        refine kB_exit ?_
        repeat (first | refine kB_normal ?_ | refine kC_normal ?_)
        refine kI_normal ⟨(left', some (k, v), ks ++ [k], v8), ⟨hks', fun k' hk' => ?_, fun k' => ?_, fun k' hk' => ?_⟩, hln, ?_⟩
        · dsimp only at hk' ⊢
          rcases List.mem_append.1 hk' with h | h
          · exact fun hm => hkl k' h ((hlf k').1 hm).1
          · simp only [List.mem_singleton] at h
            rw [h]; exact fun hm => ((hlf k).1 hm).2 rfl
        · dsimp only
          rw [hkf k', List.mem_append, List.mem_singleton, hlf k']
          constructor
          · rintro (h | h)
            · exact .inl (.inl h)
            · by_cases e : k' = k
              · exact .inl (.inr e)
              · exact .inr ⟨h, e⟩
          · rintro ((h | h) | h)
            · exact .inl h
            · exact .inr (h ▸ hk)
            · exact .inr h.1
        · dsimp only at hk'
          rcases List.mem_append.1 hk' with h | h
          · exact hkc _ h
          · simp only [List.mem_singleton] at h
            rw [h, hRd]; exact fun hm => hje _ hm rfl
        · dsimp only
          rw [cQ_snoc, hRd]
          exact Sub.of_le (AF.le_put (AV.le_eq rfl) (AF.le_put (AV.le_eq rfl) (AF.le_put (AV.le_eq rfl) (AF.le_top _))))
end Go.Proofs.Ytkbbeeeoogjknaa
/- The functions compute their models, by program. -/
namespace Go.Proofs.Ytkbbeeeoogjknaa
open Go.RowKit
attribute [local irreducible] AV.exact AV.top AV.row AV.ptr AV.agg AV.tup AV.eptr AV.fn AV.nilq AV.nilqn opA opB opM opR Quiet Loud Reads wpG awp den Sub SubU Pure Fun vecI vecT boxI CellsAll CellsOf OneC LEs LEss
set_option maxRecDepth 100000

end Go.Proofs.Ytkbbeeeoogjknaa

/- The walk of the reference's Close. -/
namespace Go.Proofs.Ytkbbeeeoogjknaa
open Go.RowKit

attribute [local irreducible] AV.exact AV.top AV.row AV.ptr AV.agg AV.tup AV.eptr AV.fn AV.nilq AV.nilqn AV.eptrO opA opB opM opR Quiet Loud Reads wpG awp den Sub SubU Pure Fun vecI vecT vecO vecA boxI CellsAll CellsOf OneC LEs LEss FU
set_option maxRecDepth 100000

end Go.Proofs.Ytkbbeeeoogjknaa
/- The functions compute their models, by program. -/
namespace Go.Proofs.Ytkbbeeeoogjknaa
open Go.RowKit
attribute [local irreducible] AV.exact AV.top AV.row AV.ptr AV.agg AV.tup AV.eptr AV.fn AV.nilq AV.nilqn opA opB opM opR Quiet Loud Reads wpG awp den Sub SubU Pure Fun vecI vecT boxI CellsAll CellsOf OneC LEs LEss
set_option maxRecDepth 100000

set_option maxHeartbeats 4000000 in
theorem m_help_Equal_api_Above_ok (a0 : List (Int × Int)) (a1 : List (Int × Int)) (r : Bool) (h : m_help_Equal_api_Above a0 a1 = some r) : Pure Try.prog 15 [(.row 2 c_api_Above a0), (.row 2 c_api_Above a1)] (.exact (.bool r)) := by
  unfold m_help_Equal_api_Above at h
  refine Pure.ofFun (fun_of_awp Try.func15 rfl Try.ntmps15 (by simp) rfl (res1 rfl) fun E hE => k_end ?_)
  refine k_seq ?_
  refine k_reg .free hmixP (by kernel_rfl) ?_
  refine G_q rfl (op_assign (av := .exact (.bool false)) rfl ?_)
  refine G_nil ?_
  refine kC_normal ?_
  refine k_seq ?_
  refine k_seq ?_
  refine k_reg .free hmixP (by kernel_rfl) ?_
  refine G_q rfl (op_move (av := .row 2 c_api_Above a0) rfl ?_)
  refine G_q rfl (op_len_row (by kernel_rfl) rfl ?_)
  refine G_q rfl (op_move (av := .row 2 c_api_Above a1) rfl ?_)
  refine G_q rfl (op_len_row (by kernel_rfl) rfl ?_)
  refine G_q rfl (op_neq rfl rfl ?_)
  refine G_nil ?_
  refine kC_normal ?_
  refine k_cond_d (p := ¬ (List.length a0 : Int) = (List.length a1 : Int)) rfl (fun hc => ?_) (fun hc => ?_)
  · replace h := ite_t h hc
    refine k_seq ?_
    refine k_reg .free hmixP (by kernel_rfl) ?_
    refine G_q rfl (op_assign (av := .exact (.bool false)) rfl ?_)
    refine G_nil ?_
    refine kC_normal ?_
    refine k_ret ?_
    refine kC_ret ?_
    obtain rfl := Option.some.inj h
    refine kP_any (endN (af' := (AF.put AF0 (some 4) (.exact (.bool false)))) (σ' := []) _ rfl ?_ ⟨rfl, rfl⟩)
    exact Sub.of_le (AF.le_put (AV.le_eq rfl) (AF.le_top _))
  · replace h := ite_f h hc
    refine k_skip ?_
    refine kC_normal ?_
    refine k_join0_0 h (AF0) ([]) (fun k1 h => ?_) (fun  h => ?_)
    · refine k_seq ?_
      refine k_reg .free hmixP (by kernel_rfl) ?_
      refine G_q rfl (op_assign (av := .exact (.int .i64 0)) rfl ?_)
      refine G_nil ?_
      refine kC_normal ?_
      refine k_block ?_
      refine k_loop1_0 (m_help_Equal_api_Above_L2 a0 a1 k1) (m_help_Equal_api_Above_B2 a0 a1 k1) (fun _ => rfl) (fun m _ => rfl) h (fun (x5_l2 : Int) => (AF.put (AF.put (AF.put AF0 (some 0) (.row 2 c_api_Above a0)) (some 1) (.row 2 c_api_Above a1)) (some 5) (.exact (.int .i64 x5_l2)))) (fun (x5_l2 : Int) => []) ?_ (fun rec2 x5_l2 h => ?_)
      · exact Sub.of_le (AF.le_put (AV.le_eq rfl) (AF.le_put (AV.le_eq rfl) (AF.le_put (AV.le_eq rfl) (AF.le_top _))))
      · unfold m_help_Equal_api_Above_B2 at h
        refine k_seq ?_
        refine k_seq ?_
        refine k_reg .free hmixP (by kernel_rfl) ?_
        refine G_q rfl (op_move (av := .exact (.int .i64 x5_l2)) rfl ?_)
        refine G_q rfl (op_move (av := .row 2 c_api_Above a0) rfl ?_)
        refine G_q rfl (op_len_row (by kernel_rfl) rfl ?_)
        refine G_q rfl (op_lss rfl rfl ?_)
        refine G_nil ?_
        refine kC_normal ?_
        refine k_cond_d (p := x5_l2 < (List.length a0 : Int)) rfl (fun hc => ?_) (fun hc => ?_)
        · replace h := ite_t h hc
          refine k_skip ?_
          refine kC_normal ?_
          refine k_seq ?_
          refine k_block ?_
          refine k_seq ?_
          refine k_plan [] [(0, 0), (0, 1), (0, 2), (0, 3), (0, 4), (0, 5), (0, 6), (0, 7), (0, 8)] hmixP (by kernel_rfl) ?_
          refine P_q no34_0 rfl (op_move (av := .row 2 c_api_Above a0) rfl ?_)
          refine P_q no34_0 rfl (op_move (av := .exact (.int .i64 x5_l2)) rfl ?_)
          obtain ⟨n13, h⟩ := need_some h
          refine P_q no34_0 rfl (op_index_row (by kernel_rfl) rfl rfl n13.1 n13.2 ?_)
          refine P_q no34_0 rfl (op_loadNp (m := 2) (c' := c_api_Above (gi a0 x5_l2)) (by kernel_rfl) rfl rfl rfl ?_)
          refine P_q no34_0 rfl (op_move (av := .row 2 c_api_Above a1) rfl ?_)
          refine P_q no34_0 rfl (op_move (av := .exact (.int .i64 x5_l2)) rfl ?_)
          obtain ⟨n14, h⟩ := need_some h
          refine P_q no34_0 rfl (op_index_row (by kernel_rfl) rfl rfl n14.1 n14.2 ?_)
          refine P_q no34_0 rfl (op_loadNp (m := 2) (c' := c_api_Above (gi a1 x5_l2)) (by kernel_rfl) rfl rfl rfl ?_)
          refine P_q no34_0 rfl (op_neqA (a := (gi a0 x5_l2)) (b := (gi a1 x5_l2)) (by kernel_rfl) (eq_c_api_Above _ _) rfl rfl ?_)
          refine P_nil ?_
          refine kC_normal ?_
          refine k_cond_d (p := ¬ (gi a0 x5_l2) = (gi a1 x5_l2)) rfl (fun hc => ?_) (fun hc => ?_)
          · replace h := ite_t h hc
            refine k_seq ?_
            refine k_reg .free hmixP (by kernel_rfl) ?_
            refine G_q rfl (op_assign (av := .exact (.bool false)) rfl ?_)
            refine G_nil ?_
            refine kC_normal ?_
            refine k_ret ?_
            refine kB_ret ?_
            refine kC_ret ?_
            refine kI_ret ?_
            refine kB_ret ?_
            refine kI_ret ?_
            obtain rfl := Option.some.inj h
            refine kP_any (endN (af' := (AF.put AF0 (some 4) (.exact (.bool false)))) (σ' := []) _ rfl ?_ ⟨rfl, rfl⟩)
            exact Sub.of_le (AF.le_put (AV.le_eq rfl) (AF.le_top _))
          · replace h := ite_f h hc
            refine k_skip ?_
            refine kB_normal ?_
            refine kC_normal ?_
            refine k_reg .free hmixP (by kernel_rfl) ?_
            refine G_q rfl (op_move (av := .exact (.int .i64 x5_l2)) rfl ?_)
            refine G_q rfl (op_add rfl rfl rfl ?_)
            refine G_q rfl (op_assign (av := .exact (.int .i64 (i64 (x5_l2 + 1)))) rfl ?_)
            refine G_nil ?_
            refine kI_normal ⟨_, h, ?_⟩
            exact Sub.of_le (AF.le_put (AV.le_eq rfl) (AF.le_put (AV.le_eq rfl) (AF.le_put (AV.le_eq rfl) (AF.le_top _))))
        · replace h := ite_f h hc
          refine k_exit ?_
          refine kC_exit ?_
          refine kI_exit ?_
          refine kB_exit ?_
          refine kI_normal ⟨h, ?_⟩
          exact Sub.of_le (AF.le_top _)
    · refine k_seq ?_
      refine k_reg .free hmixP (by kernel_rfl) ?_
      refine G_q rfl (op_assign (av := .exact (.bool true)) rfl ?_)
      refine G_nil ?_
      refine kC_normal ?_
      refine k_ret ?_
      obtain rfl := Option.some.inj h
      refine kP_any (endN (af' := (AF.put AF0 (some 4) (.exact (.bool true)))) (σ' := []) _ rfl ?_ ⟨rfl, rfl⟩)
      exact Sub.of_le (AF.le_put (AV.le_eq rfl) (AF.le_top _))
set_option maxHeartbeats 4000000 in
theorem m_slices_Equal_L_api_Above_api_Above_ok (a0 : List (Int × Int)) (a1 : List (Int × Int)) (r : Bool) (h : m_slices_Equal_L_api_Above_api_Above a0 a1 = some r) : Pure Try.prog 57 [(.row 2 c_api_Above a0), (.row 2 c_api_Above a1)] (.exact (.bool r)) := by
  unfold m_slices_Equal_L_api_Above_api_Above at h
  refine Pure.ofFun (fun_of_awp Try.func57 rfl Try.ntmps57 (by simp) rfl (res1 rfl) fun E hE => k_end ?_)
  refine k_seq ?_
  refine k_reg .free hmixP (by kernel_rfl) ?_
  refine G_q rfl (op_assign (av := .exact (.bool false)) rfl ?_)
  refine G_nil ?_
  refine kC_normal ?_
  refine k_seq ?_
  refine k_seq ?_
  refine k_reg .free hmixP (by kernel_rfl) ?_
  refine G_q rfl (op_move (av := .row 2 c_api_Above a0) rfl ?_)
  refine G_q rfl (op_len_row (by kernel_rfl) rfl ?_)
  refine G_q rfl (op_move (av := .row 2 c_api_Above a1) rfl ?_)
  refine G_q rfl (op_len_row (by kernel_rfl) rfl ?_)
  refine G_q rfl (op_neq rfl rfl ?_)
  refine G_nil ?_
  refine kC_normal ?_
  refine k_cond_d (p := ¬ (List.length a0 : Int) = (List.length a1 : Int)) rfl (fun hc => ?_) (fun hc => ?_)
  · replace h := ite_t h hc
    refine k_seq ?_
    refine k_reg .free hmixP (by kernel_rfl) ?_
    refine G_q rfl (op_assign (av := .exact (.bool false)) rfl ?_)
    refine G_nil ?_
    refine kC_normal ?_
    refine k_ret ?_
    refine kC_ret ?_
    obtain rfl := Option.some.inj h
    refine kP_any (endN (af' := (AF.put AF0 (some 4) (.exact (.bool false)))) (σ' := []) _ rfl ?_ ⟨rfl, rfl⟩)
    exact Sub.of_le (AF.le_put (AV.le_eq rfl) (AF.le_top _))
  · replace h := ite_f h hc
    refine k_skip ?_
    refine kC_normal ?_
    refine k_join0_0 h (AF0) ([]) (fun k1 h => ?_) (fun  h => ?_)
    · refine k_seq ?_
      refine k_reg .free hmixP (by kernel_rfl) ?_
      refine G_q rfl (op_move (av := .row 2 c_api_Above a0) rfl ?_)
      refine G_q rfl (op_len_row (by kernel_rfl) rfl ?_)
      refine G_q rfl (op_move (av := .exact (.int .i64 0)) rfl ?_)
      refine G_nil ?_
      refine kC_normal ?_
      refine k_block ?_
      refine k_loop1_0 (m_slices_Equal_L_api_Above_api_Above_L2 a0 a1 k1) (m_slices_Equal_L_api_Above_api_Above_B2 a0 a1 k1) (fun _ => rfl) (fun m _ => rfl) h (fun (x13_l2 : Int) => (AF.put (AF.put (AF.put (AF.put AF0 (some 0) (.row 2 c_api_Above a0)) (some 1) (.row 2 c_api_Above a1)) (some 12) (.exact (.int .i64 (List.length a0 : Int)))) (some 13) (.exact (.int .i64 x13_l2)))) (fun (x13_l2 : Int) => []) ?_ (fun rec2 x13_l2 h => ?_)
      · exact Sub.of_le (AF.le_put (AV.le_eq rfl) (AF.le_put (AV.le_eq rfl) (AF.le_put (AV.le_eq rfl) (AF.le_put (AV.le_eq rfl) (AF.le_top _)))))
      · unfold m_slices_Equal_L_api_Above_api_Above_B2 at h
        refine k_seq ?_
        refine k_reg .free hmixP (by kernel_rfl) ?_
        refine G_q rfl (op_lss rfl rfl ?_)
        refine G_nil ?_
        refine kC_normal ?_
        refine k_seq ?_
        refine k_cond_d (p := x13_l2 < (List.length a0 : Int)) rfl (fun hc => ?_) (fun hc => ?_)
        · replace h := ite_t h hc
          refine k_skip ?_
          refine kC_normal ?_
          refine k_seq ?_
          refine k_block ?_
          refine k_seq ?_
          refine k_reg .free hmixP (by kernel_rfl) ?_
          refine G_q rfl (op_move (av := .exact (.int .i64 x13_l2)) rfl ?_)
          refine G_q rfl (op_assign (av := .exact (.int .i64 x13_l2)) rfl ?_)
          refine G_nil ?_
          refine kC_normal ?_
          refine k_seq ?_
          refine k_plan [] [(0, 0), (0, 1), (0, 2), (0, 3), (0, 4), (0, 5), (0, 6), (0, 7), (0, 8)] hmixP (by kernel_rfl) ?_
          refine P_q no34_0 rfl (op_move (av := .row 2 c_api_Above a0) rfl ?_)
          refine P_q no34_0 rfl (op_move (av := .exact (.int .i64 x13_l2)) rfl ?_)
          obtain ⟨n13, h⟩ := need_some h
          refine P_q no34_0 rfl (op_index_row (by kernel_rfl) rfl rfl n13.1 n13.2 ?_)
          refine P_q no34_0 rfl (op_loadNp (m := 2) (c' := c_api_Above (gi a0 x13_l2)) (by kernel_rfl) rfl rfl rfl ?_)
          refine P_q no34_0 rfl (op_move (av := .row 2 c_api_Above a1) rfl ?_)
          refine P_q no34_0 rfl (op_move (av := .exact (.int .i64 x13_l2)) rfl ?_)
          obtain ⟨n14, h⟩ := need_some h
          refine P_q no34_0 rfl (op_index_row (by kernel_rfl) rfl rfl n14.1 n14.2 ?_)
          refine P_q no34_0 rfl (op_loadNp (m := 2) (c' := c_api_Above (gi a1 x13_l2)) (by kernel_rfl) rfl rfl rfl ?_)
          refine P_q no34_0 rfl (op_neqA (a := (gi a0 x13_l2)) (b := (gi a1 x13_l2)) (by kernel_rfl) (eq_c_api_Above _ _) rfl rfl ?_)
          refine P_nil ?_
          refine kC_normal ?_
          refine k_cond_d (p := ¬ (gi a0 x13_l2) = (gi a1 x13_l2)) rfl (fun hc => ?_) (fun hc => ?_)
          · replace h := ite_t h hc
            refine k_seq ?_
            refine k_reg .free hmixP (by kernel_rfl) ?_
            refine G_q rfl (op_assign (av := .exact (.bool false)) rfl ?_)
            refine G_nil ?_
            refine kC_normal ?_
            refine k_ret ?_
            refine kB_ret ?_
            refine kC_ret ?_
            refine kI_ret ?_
            refine kB_ret ?_
            refine kI_ret ?_
            obtain rfl := Option.some.inj h
            refine kP_any (endN (af' := (AF.put AF0 (some 4) (.exact (.bool false)))) (σ' := []) _ rfl ?_ ⟨rfl, rfl⟩)
            exact Sub.of_le (AF.le_put (AV.le_eq rfl) (AF.le_top _))
          · replace h := ite_f h hc
            refine k_skip ?_
            refine kB_normal ?_
            refine kC_normal ?_
            refine k_reg .free hmixP (by kernel_rfl) ?_
            refine G_q rfl (op_add rfl rfl rfl ?_)
            refine G_q rfl (op_move (av := .exact (.int .i64 (i64 (x13_l2 + 1)))) rfl ?_)
            refine G_nil ?_
            refine kI_normal ⟨_, h, ?_⟩
            exact Sub.of_le (AF.le_put (AV.le_eq rfl) (AF.le_put (AV.le_eq rfl) (AF.le_put (AV.le_eq rfl) (AF.le_put (AV.le_eq rfl) (AF.le_top _)))))
        · replace h := ite_f h hc
          refine k_exit ?_
          refine kC_exit ?_
          refine kI_exit ?_
          refine kB_exit ?_
          refine kI_normal ⟨h, ?_⟩
          exact Sub.of_le (AF.le_top _)
    · refine k_seq ?_
      refine k_reg .free hmixP (by kernel_rfl) ?_
      refine G_q rfl (op_assign (av := .exact (.bool true)) rfl ?_)
      refine G_nil ?_
      refine kC_normal ?_
      refine k_ret ?_
      obtain rfl := Option.some.inj h
      refine kP_any (endN (af' := (AF.put AF0 (some 4) (.exact (.bool true)))) (σ' := []) _ rfl ?_ ⟨rfl, rfl⟩)
      exact Sub.of_le (AF.le_put (AV.le_eq rfl) (AF.le_top _))
set_option maxHeartbeats 4000000 in
theorem m_alphabet_ValidOrder_ok (a0 : List (Int × Int)) (r : Bool) (h : m_alphabet_ValidOrder a0 = some r) : Pure Try.prog 16 [(.row 2 c_api_Above a0)] (.exact (.bool r)) := by
  unfold m_alphabet_ValidOrder at h
  refine Pure.ofFun (fun_of_awp Try.func16 rfl Try.ntmps16 (by simp) rfl (res1 rfl) fun E hE => k_end ?_)
  refine k_seq ?_
  refine k_reg .free hmixP (by kernel_rfl) ?_
  refine G_q rfl (op_assign (av := .exact (.bool false)) rfl ?_)
  refine G_nil ?_
  refine kC_normal ?_
  refine k_seq ?_
  refine k_reg .free hmixP (by kernel_rfl) ?_
  refine G_q rfl (op_move (av := .row 2 c_api_Above a0) rfl ?_)
  obtain ⟨y1, hy1, h⟩ := bnd1_some h
  refine G_q rfl (op_pure (m_close_ok _ _ hy1) Try.func13 (by kernel_rfl) (LEs.cons (AV.le_eq rfl) LEs.nil) ?_)
  refine G_q rfl (op_move (av := .tup [.row 2 c_api_Above y1.1, .exact (.int .i64 y1.2)]) rfl ?_)
  refine G_q rfl (op_extract (av := .row 2 c_api_Above y1.1) rfl rfl ?_)
  refine G_q rfl (op_extract (av := .exact (.int .i64 y1.2)) rfl rfl ?_)
  refine G_q rfl (op_assign (av := .row 2 c_api_Above y1.1) rfl ?_)
  refine G_q rfl (op_assign (av := .exact (.int .i64 y1.2)) rfl ?_)
  refine G_nil ?_
  refine kC_normal ?_
  refine k_join1_0 h (fun (x2_j2 : Bool) => (AF.put AF0 (some 2) (.exact (.bool x2_j2)))) (fun (x2_j2 : Bool) => []) (fun k2 h => ?_) (fun x2_j2 h => ?_)
  · refine k_reg .free hmixP (by kernel_rfl) ?_
    refine G_q rfl (op_move (av := .exact (.int .i64 y1.2)) rfl ?_)
    refine G_q rfl (op_eql rfl rfl ?_)
    refine G_q rfl (op_move (av := .exact (.bool (decide (y1.2 = 0)))) rfl ?_)
    refine G_split (p := y1.2 = 0) 12 rfl (fun hc => ?_) (fun hc => ?_)
    · replace h := ite_t h hc
      refine Gy_q rfl rfl rfl (op_move (av := .row 2 c_api_Above a0) rfl ?_)
      refine Gy_q rfl rfl rfl (op_move (av := .row 2 c_api_Above y1.1) rfl ?_)
      obtain ⟨y4, hy4, h⟩ := bnd1_some h
      refine Gy_q rfl rfl rfl (op_pure (m_slices_Equal_L_api_Above_api_Above_ok _ _ _ hy4) Try.func57 (by kernel_rfl) (LEs.cons (AV.le_eq rfl) (LEs.cons (AV.le_eq rfl) LEs.nil)) ?_)
      refine G_q rfl (op_pick_t rfl (av := .exact (.bool y4)) rfl ?_)
      refine G_q rfl (op_assign (av := .exact (.bool y4)) rfl ?_)
      refine G_nil ?_
      refine kI_normal ⟨_, h, ?_⟩
      exact Sub.of_le (AF.le_put (AV.le_eq rfl) (AF.le_top _))
    · replace h := ite_f h hc
      refine G_n rfl rfl ?_
      refine G_n rfl rfl ?_
      refine G_n rfl rfl ?_
      refine G_q rfl (op_pick_f rfl (av := .exact (.bool false)) rfl ?_)
      refine G_q rfl (op_assign (av := .exact (.bool false)) rfl ?_)
      refine G_nil ?_
      refine kI_normal ⟨_, h, ?_⟩
      exact Sub.of_le (AF.le_put (AV.le_eq rfl) (AF.le_top _))
  · refine k_ret ?_
    obtain rfl := Option.some.inj h
    refine kP_any (endN (af' := (AF.put AF0 (some 2) (.exact (.bool x2_j2)))) (σ' := []) _ rfl ?_ ⟨rfl, rfl⟩)
    exact Sub.of_le (AF.le_put (AV.le_eq rfl) (AF.le_top _))
set_option maxHeartbeats 4000000 in
theorem m_slices_Index_L_int_int_ok (a0 : List Int) (a1 : Int) (r : Int) (h : m_slices_Index_L_int_int a0 a1 = some r) : Pure Try.prog 87 [(.row 1 c_int a0), (.exact (.int .i64 a1))] (.exact (.int .i64 r)) := by
  unfold m_slices_Index_L_int_int at h
  refine Pure.ofFun (fun_of_awp Try.func87 rfl Try.ntmps87 (by simp) rfl (res1 rfl) fun E hE => k_end ?_)
  refine k_seq ?_
  refine k_reg .free hmixP (by kernel_rfl) ?_
  refine G_q rfl (op_assign (av := .exact (.int .i64 0)) rfl ?_)
  refine G_nil ?_
  refine kC_normal ?_
  refine k_join0_0 h (AF0) ([]) (fun k1 h => ?_) (fun  h => ?_)
  · refine k_seq ?_
    refine k_reg .free hmixP (by kernel_rfl) ?_
    refine G_q rfl (op_move (av := .row 1 c_int a0) rfl ?_)
    refine G_q rfl (op_len_row (by kernel_rfl) rfl ?_)
    refine G_q rfl (op_move (av := .exact (.int .i64 0)) rfl ?_)
    refine G_nil ?_
    refine kC_normal ?_
    refine k_block ?_
    refine k_loop1_0 (m_slices_Index_L_int_int_L2 a0 a1 k1) (m_slices_Index_L_int_int_B2 a0 a1 k1) (fun _ => rfl) (fun m _ => rfl) h (fun (x8_l2 : Int) => (AF.put (AF.put (AF.put (AF.put AF0 (some 0) (.row 1 c_int a0)) (some 1) (.exact (.int .i64 a1))) (some 7) (.exact (.int .i64 (List.length a0 : Int)))) (some 8) (.exact (.int .i64 x8_l2)))) (fun (x8_l2 : Int) => []) ?_ (fun rec2 x8_l2 h => ?_)
    · exact Sub.of_le (AF.le_put (AV.le_eq rfl) (AF.le_put (AV.le_eq rfl) (AF.le_put (AV.le_eq rfl) (AF.le_put (AV.le_eq rfl) (AF.le_top _)))))
    · unfold m_slices_Index_L_int_int_B2 at h
      refine k_seq ?_
      refine k_reg .free hmixP (by kernel_rfl) ?_
      refine G_q rfl (op_lss rfl rfl ?_)
      refine G_nil ?_
      refine kC_normal ?_
      refine k_seq ?_
      refine k_cond_d (p := x8_l2 < (List.length a0 : Int)) rfl (fun hc => ?_) (fun hc => ?_)
      · replace h := ite_t h hc
        refine k_skip ?_
        refine kC_normal ?_
        refine k_seq ?_
        refine k_block ?_
        refine k_seq ?_
        refine k_reg .free hmixP (by kernel_rfl) ?_
        refine G_q rfl (op_move (av := .exact (.int .i64 x8_l2)) rfl ?_)
        refine G_q rfl (op_assign (av := .exact (.int .i64 x8_l2)) rfl ?_)
        refine G_nil ?_
        refine kC_normal ?_
        refine k_seq ?_
        refine k_reg .free hmixP (by kernel_rfl) ?_
        refine G_q rfl (op_move (av := .exact (.int .i64 a1)) rfl ?_)
        refine G_q rfl (op_move (av := .row 1 c_int a0) rfl ?_)
        refine G_q rfl (op_move (av := .exact (.int .i64 x8_l2)) rfl ?_)
        obtain ⟨n8, h⟩ := need_some h
        refine G_q rfl (op_index_row (by kernel_rfl) rfl rfl n8.1 n8.2 ?_)
        refine G_q rfl (op_load1p (a := .exact (.int .i64 (gi a0 x8_l2))) (by kernel_rfl) rfl rfl ?_)
        refine G_q rfl (op_eql rfl rfl ?_)
        refine G_nil ?_
        refine kC_normal ?_
        refine k_cond_d (p := a1 = (gi a0 x8_l2)) rfl (fun hc => ?_) (fun hc => ?_)
        · replace h := ite_t h hc
          refine k_seq ?_
          refine k_reg .free hmixP (by kernel_rfl) ?_
          refine G_q rfl (op_move (av := .exact (.int .i64 x8_l2)) rfl ?_)
          refine G_q rfl (op_assign (av := .exact (.int .i64 x8_l2)) rfl ?_)
          refine G_nil ?_
          refine kC_normal ?_
          refine k_ret ?_
          refine kB_ret ?_
          refine kC_ret ?_
          refine kI_ret ?_
          refine kB_ret ?_
          refine kI_ret ?_
          obtain rfl := Option.some.inj h
          refine kP_any (endN (af' := (AF.put AF0 (some 4) (.exact (.int .i64 x8_l2)))) (σ' := []) _ rfl ?_ ⟨rfl, rfl⟩)
          exact Sub.of_le (AF.le_put (AV.le_eq rfl) (AF.le_top _))
        · replace h := ite_f h hc
          refine k_skip ?_
          refine kB_normal ?_
          refine kC_normal ?_
          refine k_reg .free hmixP (by kernel_rfl) ?_
          refine G_q rfl (op_add rfl rfl rfl ?_)
          refine G_q rfl (op_move (av := .exact (.int .i64 (i64 (x8_l2 + 1)))) rfl ?_)
          refine G_nil ?_
          refine kI_normal ⟨_, h, ?_⟩
          exact Sub.of_le (AF.le_put (AV.le_eq rfl) (AF.le_put (AV.le_eq rfl) (AF.le_put (AV.le_eq rfl) (AF.le_put (AV.le_eq rfl) (AF.le_top _)))))
      · replace h := ite_f h hc
        refine k_exit ?_
        refine kC_exit ?_
        refine kI_exit ?_
        refine kB_exit ?_
        refine kI_normal ⟨h, ?_⟩
        exact Sub.of_le (AF.le_top _)
  · refine k_seq ?_
    refine k_reg .free hmixP (by kernel_rfl) ?_
    refine G_q rfl (op_assign (av := .exact (.int .i64 (-1))) rfl ?_)
    refine G_nil ?_
    refine kC_normal ?_
    refine k_ret ?_
    obtain rfl := Option.some.inj h
    refine kP_any (endN (af' := (AF.put AF0 (some 4) (.exact (.int .i64 (-1))))) (σ' := []) _ rfl ?_ ⟨rfl, rfl⟩)
    exact Sub.of_le (AF.le_put (AV.le_eq rfl) (AF.le_top _))
set_option maxHeartbeats 4000000 in
theorem m_slices_Contains_L_int_int_ok (a0 : List Int) (a1 : Int) (r : Bool) (h : m_slices_Contains_L_int_int a0 a1 = some r) : Pure Try.prog 76 [(.row 1 c_int a0), (.exact (.int .i64 a1))] (.exact (.bool r)) := by
  unfold m_slices_Contains_L_int_int at h
  refine Pure.ofFun (fun_of_awp Try.func76 rfl Try.ntmps76 (by simp) rfl (res1 rfl) fun E hE => k_end ?_)
  refine k_seq ?_
  refine k_reg .free hmixP (by kernel_rfl) ?_
  refine G_q rfl (op_assign (av := .exact (.bool false)) rfl ?_)
  refine G_nil ?_
  refine kC_normal ?_
  refine k_seq ?_
  refine k_reg .free hmixP (by kernel_rfl) ?_
  refine G_q rfl (op_move (av := .row 1 c_int a0) rfl ?_)
  refine G_q rfl (op_move (av := .exact (.int .i64 a1)) rfl ?_)
  obtain ⟨y1, hy1, h⟩ := bnd1_some h
  refine G_q rfl (op_pure (m_slices_Index_L_int_int_ok _ _ _ hy1) Try.func87 (by kernel_rfl) (LEs.cons (AV.le_eq rfl) (LEs.cons (AV.le_eq rfl) LEs.nil)) ?_)
  refine G_q rfl (op_geq rfl rfl ?_)
  refine G_q rfl (op_assign (av := .exact (.bool (decide (0 ≤ y1)))) rfl ?_)
  refine G_nil ?_
  refine kC_normal ?_
  refine k_ret ?_
  obtain rfl := Option.some.inj h
  refine kP_any (endN (af' := (AF.put AF0 (some 4) (.exact (.bool (decide (0 ≤ y1)))))) (σ' := []) _ rfl ?_ ⟨rfl, rfl⟩)
  exact Sub.of_le (AF.le_put (AV.le_eq rfl) (AF.le_top _))
set_option maxHeartbeats 4000000 in
theorem m_alphabet_beaten_ok (a0 : List (Int × Int)) (a1 : List Int) (a2 : Int) (r : Bool) (h : m_alphabet_beaten a0 a1 a2 = some r) : Pure Try.prog 63 [(.row 2 c_api_Above a0), (.row 1 c_int a1), (.exact (.int .i64 a2))] (.exact (.bool r)) := by
  unfold m_alphabet_beaten at h
  refine Pure.ofFun (fun_of_awp Try.func63 rfl Try.ntmps63 (by simp) rfl (res1 rfl) fun E hE => k_end ?_)
  refine k_seq ?_
  refine k_reg .free hmixP (by kernel_rfl) ?_
  refine G_q rfl (op_assign (av := .exact (.bool false)) rfl ?_)
  refine G_nil ?_
  refine kC_normal ?_
  refine k_join1_0 h (fun (x7_j1 : Bool) => (AF.put (AF.put (AF.put (AF.put AF0 (some 0) (.row 2 c_api_Above a0)) (some 1) (.row 1 c_int a1)) (some 2) (.exact (.int .i64 a2))) (some 7) (.exact (.bool x7_j1)))) (fun (x7_j1 : Bool) => []) (fun k1 h => ?_) (fun x7_j1 h => ?_)
  · refine k_reg .free hmixP (by kernel_rfl) ?_
    refine G_q rfl (op_move (av := .row 1 c_int a1) rfl ?_)
    obtain ⟨y4, hy4, h⟩ := bnd1_some h
    refine G_q rfl (op_pure (m_slices_Contains_L_int_int_ok _ _ _ hy4) Try.func76 (by kernel_rfl) (LEs.cons (AV.le_eq rfl) (LEs.cons (AV.le_eq rfl) LEs.nil)) ?_)
    refine G_q rfl (op_move (av := .exact (.bool y4)) rfl ?_)
    refine G_splitB (c := y4) 12 rfl (fun hc => ?_) (fun hc => ?_)
    · replace h := ite_t h hc
      refine G_n rfl rfl ?_
      refine G_n rfl rfl ?_
      refine G_q rfl (op_pick_t rfl (av := .exact (.bool true)) rfl ?_)
      refine G_q rfl (op_assign (av := .exact (.bool true)) rfl ?_)
      refine G_nil ?_
      refine kI_normal ⟨_, h, ?_⟩
      exact Sub.of_le (AF.le_put (AV.le_eq rfl) (AF.le_put (AV.le_eq rfl) (AF.le_put (AV.le_eq rfl) (AF.le_put (AV.le_eq rfl) (AF.le_top _)))))
    · replace h := ite_f h hc
      refine Gy_q rfl rfl rfl (op_move (av := .row 1 c_int a1) rfl ?_)
      obtain ⟨y5, hy5, h⟩ := bnd1_some h
      refine Gy_q rfl rfl rfl (op_pure (m_slices_Contains_L_int_int_ok _ _ _ hy5) Try.func76 (by kernel_rfl) (LEs.cons (AV.le_eq rfl) (LEs.cons (AV.le_eq rfl) LEs.nil)) ?_)
      refine G_q rfl (op_pick_f rfl (av := .exact (.bool y5)) rfl ?_)
      refine G_q rfl (op_assign (av := .exact (.bool y5)) rfl ?_)
      refine G_nil ?_
      refine kI_normal ⟨_, h, ?_⟩
      exact Sub.of_le (AF.le_put (AV.le_eq rfl) (AF.le_put (AV.le_eq rfl) (AF.le_put (AV.le_eq rfl) (AF.le_put (AV.le_eq rfl) (AF.le_top _)))))
  · refine k_join0_0 h (AF0) ([]) (fun k6 h => ?_) (fun  h => ?_)
    · refine k_seq ?_
      refine k_reg .free hmixP (by kernel_rfl) ?_
      refine G_q rfl (op_move (av := .row 2 c_api_Above a0) rfl ?_)
      refine G_q rfl (op_len_row (by kernel_rfl) rfl ?_)
      refine G_q rfl (op_move (av := .exact (.int .i64 0)) rfl ?_)
      refine G_nil ?_
      refine kC_normal ?_
      refine k_block ?_
      refine k_loop1_0 (m_alphabet_beaten_L2 a0 a1 a2 x7_j1 k6) (m_alphabet_beaten_B2 a0 a1 a2 x7_j1 k6) (fun _ => rfl) (fun m _ => rfl) h (fun (x18_l2 : Int) => (AF.put (AF.put (AF.put (AF.put (AF.put (AF.put AF0 (some 1) (.row 1 c_int a1)) (some 2) (.exact (.int .i64 a2))) (some 7) (.exact (.bool x7_j1))) (some 16) (.row 2 c_api_Above a0)) (some 17) (.exact (.int .i64 (List.length a0 : Int)))) (some 18) (.exact (.int .i64 x18_l2)))) (fun (x18_l2 : Int) => []) ?_ (fun rec2 x18_l2 h => ?_)
      · exact Sub.of_le (AF.le_put (AV.le_eq rfl) (AF.le_put (AV.le_eq rfl) (AF.le_put (AV.le_eq rfl) (AF.le_put (AV.le_eq rfl) (AF.le_put (AV.le_eq rfl) (AF.le_put (AV.le_eq rfl) (AF.le_top _)))))))
      · unfold m_alphabet_beaten_B2 at h
        refine k_seq ?_
        refine k_reg .free hmixP (by kernel_rfl) ?_
        refine G_q rfl (op_lss rfl rfl ?_)
        refine G_nil ?_
        refine kC_normal ?_
        refine k_seq ?_
        refine k_cond_d (p := x18_l2 < (List.length a0 : Int)) rfl (fun hc => ?_) (fun hc => ?_)
        · replace h := ite_t h hc
          refine k_skip ?_
          refine kC_normal ?_
          refine k_seq ?_
          refine k_block ?_
          refine k_seq ?_
          refine k_reg .free hmixP (by kernel_rfl) ?_
          obtain ⟨n69, h⟩ := need_some h
          refine G_q rfl (op_index_row (by kernel_rfl) rfl rfl n69.1 n69.2 ?_)
          refine G_q rfl (op_loadNp (m := 2) (c' := c_api_Above (gi a0 x18_l2)) (by kernel_rfl) rfl rfl rfl ?_)
          refine G_l rfl (op_alloc (c := [.exact (.int .i64 ((0, 0).1)), .exact (.int .i64 ((0, 0).2))]) rfl (LEs.cons (AV.le_eq rfl) (LEs.cons (AV.le_eq rfl) LEs.nil)) (fun b70 => ?_))
          refine G_l rfl (op_store_box (c' := [.exact (.int .i64 ((gi a0 x18_l2).1)), .exact (.int .i64 ((gi a0 x18_l2).2))]) (c3 := [.exact (.int .i64 ((gi a0 x18_l2).1)), .exact (.int .i64 ((gi a0 x18_l2).2))]) rfl rfl CellsOf.agg (LEs.cons (AV.le_eq rfl) (LEs.cons (AV.le_eq rfl) LEs.nil)) (oc_c_api_Above _) (by kernel_rfl) (Nat.le_of_ble_eq_true rfl) rfl ?_)
          refine G_nil ?_
          refine kC_normal ?_
          refine k_join1_0 h (fun (x34_j71 : Bool) => (AF.put (AF.put (AF.put (AF.put (AF.put (AF.put (AF.put AF0 (some 1) (.row 1 c_int a1)) (some 2) (.exact (.int .i64 a2))) (some 7) (.exact (.bool x7_j1))) (some 16) (.row 2 c_api_Above a0)) (some 17) (.exact (.int .i64 (List.length a0 : Int)))) (some 18) (.exact (.int .i64 x18_l2))) (some 34) (.exact (.bool x34_j71)))) (fun (x34_j71 : Bool) => []) (fun k71 h => ?_) (fun x34_j71 h => ?_)
          · refine k_reg .free hmixP (by kernel_rfl) ?_
            refine G_q rfl (op_fieldAddr (o := 0) (by kernel_rfl) rfl ?_)
            refine G_r rfl (op_load_box1 (a := .exact (.int .i64 ((gi a0 x18_l2).1))) (by kernel_rfl) rfl rfl ?_)
            refine G_q rfl (op_move (av := .exact (.int .i64 a2)) rfl ?_)
            refine G_q rfl (op_eql rfl rfl ?_)
            refine G_q rfl (op_move (av := .exact (.bool (decide (((gi a0 x18_l2).1) = a2)))) rfl ?_)
            refine G_split (p := ((gi a0 x18_l2).1) = a2) 26 rfl (fun hc => ?_) (fun hc => ?_)
            · replace h := ite_t h hc
              refine Gy_q rfl rfl rfl (op_move (av := .exact (.bool x7_j1)) rfl ?_)
              refine Gy_q rfl rfl rfl (op_move (av := .exact (.bool x7_j1)) rfl ?_)
              refine G_splitB (c := x7_j1) 28 rfl (fun hc => ?_) (fun hc => ?_)
              · replace h := ite_t h hc
                refine G_n rfl rfl ?_
                refine G_n rfl rfl ?_
                refine G_n rfl rfl ?_
                refine G_n rfl rfl ?_
                refine Gy_q rfl rfl rfl (op_pick_t rfl (av := .exact (.bool true)) rfl ?_)
                refine G_q rfl (op_pick_t rfl (av := .exact (.bool true)) rfl ?_)
                refine G_nil ?_
                refine kI_normal ⟨_, h, ?_⟩
                refine Sub.trans (SubU.to SubU.drop) ?_
                exact Sub.of_le (AF.le_put (AV.le_eq rfl) (AF.le_put (AV.le_eq rfl) (AF.le_put (AV.le_eq rfl) (AF.le_put (AV.le_eq rfl) (AF.le_put (AV.le_eq rfl) (AF.le_put (AV.le_eq rfl) (AF.le_put (AV.le_eq rfl) (AF.le_top _))))))))
              · replace h := ite_f h hc
                refine Gy_q rfl rfl rfl (op_move (av := .row 1 c_int a1) rfl ?_)
                refine Gy_q rfl rfl rfl (op_fieldAddr (o := 1) (by kernel_rfl) rfl ?_)
                refine Gy_r rfl rfl rfl (op_load_box1 (a := .exact (.int .i64 ((gi a0 x18_l2).2))) (by kernel_rfl) rfl rfl ?_)
                obtain ⟨y73, hy73, h⟩ := bnd1_some h
                refine Gy_q rfl rfl rfl (op_pure (m_slices_Contains_L_int_int_ok _ _ _ hy73) Try.func76 (by kernel_rfl) (LEs.cons (AV.le_eq rfl) (LEs.cons (AV.le_eq rfl) LEs.nil)) ?_)
                refine Gy_q rfl rfl rfl (op_pick_f rfl (av := .exact (.bool y73)) rfl ?_)
                refine G_q rfl (op_pick_t rfl (av := .exact (.bool y73)) rfl ?_)
                refine G_nil ?_
                refine kI_normal ⟨_, h, ?_⟩
                refine Sub.trans (SubU.to SubU.drop) ?_
                exact Sub.of_le (AF.le_put (AV.le_eq rfl) (AF.le_put (AV.le_eq rfl) (AF.le_put (AV.le_eq rfl) (AF.le_put (AV.le_eq rfl) (AF.le_put (AV.le_eq rfl) (AF.le_put (AV.le_eq rfl) (AF.le_put (AV.le_eq rfl) (AF.le_top _))))))))
            · replace h := ite_f h hc
              refine G_n rfl rfl ?_
              refine G_n rfl rfl ?_
              refine G_u rfl rfl ?_
              refine G_u rfl rfl ?_
              refine G_u rfl rfl ?_
              refine G_u rfl rfl ?_
              refine G_n rfl rfl ?_
              refine G_q rfl (op_pick_f rfl (av := .exact (.bool false)) rfl ?_)
              refine G_nil ?_
              refine kI_normal ⟨_, h, ?_⟩
              refine Sub.trans (SubU.to SubU.drop) ?_
              exact Sub.of_le (AF.le_put (AV.le_eq rfl) (AF.le_put (AV.le_eq rfl) (AF.le_put (AV.le_eq rfl) (AF.le_put (AV.le_eq rfl) (AF.le_put (AV.le_eq rfl) (AF.le_put (AV.le_eq rfl) (AF.le_put (AV.le_eq rfl) (AF.le_top _))))))))
          · refine k_cond_b (c := x34_j71) rfl (fun hc => ?_) (fun hc => ?_)
            · replace h := ite_t h hc
              refine k_seq ?_
              refine k_reg .free hmixP (by kernel_rfl) ?_
              refine G_q rfl (op_assign (av := .exact (.bool true)) rfl ?_)
              refine G_nil ?_
              refine kC_normal ?_
              refine k_ret ?_
              refine kB_ret ?_
              refine kC_ret ?_
              refine kI_ret ?_
              refine kB_ret ?_
              refine kI_ret ?_
              obtain rfl := Option.some.inj h
              refine kP_any (endN (af' := (AF.put AF0 (some 6) (.exact (.bool true)))) (σ' := []) _ rfl ?_ ⟨rfl, rfl⟩)
              exact Sub.of_le (AF.le_put (AV.le_eq rfl) (AF.le_top _))
            · replace h := ite_f h hc
              refine k_skip ?_
              refine kB_normal ?_
              refine kC_normal ?_
              refine k_reg .free hmixP (by kernel_rfl) ?_
              refine G_q rfl (op_add rfl rfl rfl ?_)
              refine G_q rfl (op_move (av := .exact (.int .i64 (i64 (x18_l2 + 1)))) rfl ?_)
              refine G_nil ?_
              refine kI_normal ⟨_, h, ?_⟩
              exact Sub.of_le (AF.le_put (AV.le_eq rfl) (AF.le_put (AV.le_eq rfl) (AF.le_put (AV.le_eq rfl) (AF.le_put (AV.le_eq rfl) (AF.le_put (AV.le_eq rfl) (AF.le_put (AV.le_eq rfl) (AF.le_top _)))))))
        · replace h := ite_f h hc
          refine k_exit ?_
          refine kC_exit ?_
          refine kI_exit ?_
          refine kB_exit ?_
          refine kI_normal ⟨h, ?_⟩
          exact Sub.of_le (AF.le_top _)
    · refine k_seq ?_
      refine k_reg .free hmixP (by kernel_rfl) ?_
      refine G_q rfl (op_assign (av := .exact (.bool false)) rfl ?_)
      refine G_nil ?_
      refine kC_normal ?_
      refine k_ret ?_
      obtain rfl := Option.some.inj h
      refine kP_any (endN (af' := (AF.put AF0 (some 6) (.exact (.bool false)))) (σ' := []) _ rfl ?_ ⟨rfl, rfl⟩)
      exact Sub.of_le (AF.le_put (AV.le_eq rfl) (AF.le_top _))
set_option maxHeartbeats 4000000 in
theorem m_alphabet_Keep_1_ok (a0 : Int) (a1 : List (Int × Int)) (a2 : List Int) (r : Bool) (h : m_alphabet_Keep_1 a0 a1 a2 = some r) : Pure Try.prog 62 [(.exact (.int .i64 a0)), (.ptr [.row 2 c_api_Above a1]), (.ptr [.row 1 c_int a2])] (.exact (.bool r)) := by
  unfold m_alphabet_Keep_1 at h
  refine Pure.ofFun (fun_of_awp Try.func62 rfl Try.ntmps62 (by simp) rfl (res1 rfl) fun E hE => k_end ?_)
  refine k_seq ?_
  refine k_reg .free hmixP (by kernel_rfl) ?_
  refine G_q rfl (op_assign (av := .exact (.bool false)) rfl ?_)
  refine G_nil ?_
  refine kC_normal ?_
  refine k_seq ?_
  refine k_reg .free hmixP (by kernel_rfl) ?_
  refine G_q rfl (op_load1p (a := .row 2 c_api_Above a1) (by kernel_rfl) rfl rfl ?_)
  refine G_q rfl (op_load1p (a := .row 1 c_int a2) (by kernel_rfl) rfl rfl ?_)
  refine G_q rfl (op_move (av := .exact (.int .i64 a0)) rfl ?_)
  obtain ⟨y1, hy1, h⟩ := bnd1_some h
  refine G_q rfl (op_pure (m_alphabet_beaten_ok _ _ _ _ hy1) Try.func63 (by kernel_rfl) (LEs.cons (AV.le_eq rfl) (LEs.cons (AV.le_eq rfl) (LEs.cons (AV.le_eq rfl) LEs.nil))) ?_)
  refine G_q rfl (op_assign (av := .exact (.bool y1)) rfl ?_)
  refine G_nil ?_
  refine kC_normal ?_
  refine k_ret ?_
  obtain rfl := Option.some.inj h
  refine kP_any (endN (af' := (AF.put AF0 (some 4) (.exact (.bool y1)))) (σ' := []) _ rfl ?_ ⟨rfl, rfl⟩)
  exact Sub.of_le (AF.le_put (AV.le_eq rfl) (AF.le_top _))
set_option maxHeartbeats 4000000 in
theorem m_slices_IndexFunc_L_int_int_ok (a0 : List Int) (a1 : Int → Option Bool) (r : Int) (h : m_slices_IndexFunc_L_int_int a0 a1 = some r) : Pure Try.prog 84 [(.row 1 c_int a0), (.fn Try.prog (fun (i : Int) => [.exact (.int .i64 i)]) (fun (i : Int) => a1 i) (fun (r : Bool) => .exact (.bool r)))] (.exact (.int .i64 r)) := by
  unfold m_slices_IndexFunc_L_int_int at h
  refine Pure.ofFun (fun_of_awp Try.func84 rfl Try.ntmps84 (by simp) rfl (res1 rfl) fun E hE => k_end ?_)
  refine k_seq ?_
  refine k_reg .free hmixP (by kernel_rfl) ?_
  refine G_q rfl (op_assign (av := .exact (.int .i64 0)) rfl ?_)
  refine G_nil ?_
  refine kC_normal ?_
  refine k_join0_0 h (AF0) ([]) (fun k1 h => ?_) (fun  h => ?_)
  · refine k_seq ?_
    refine k_reg .free hmixP (by kernel_rfl) ?_
    refine G_q rfl (op_move (av := .row 1 c_int a0) rfl ?_)
    refine G_q rfl (op_len_row (by kernel_rfl) rfl ?_)
    refine G_q rfl (op_move (av := .exact (.int .i64 0)) rfl ?_)
    refine G_nil ?_
    refine kC_normal ?_
    refine k_block ?_
    refine k_loop1_0 (m_slices_IndexFunc_L_int_int_L2 a0 a1 k1) (m_slices_IndexFunc_L_int_int_B2 a0 a1 k1) (fun _ => rfl) (fun m _ => rfl) h (fun (x8_l2 : Int) => (AF.put (AF.put (AF.put (AF.put AF0 (some 0) (.row 1 c_int a0)) (some 1) (.fn Try.prog (fun (i : Int) => [.exact (.int .i64 i)]) (fun (i : Int) => a1 i) (fun (r : Bool) => .exact (.bool r)))) (some 7) (.exact (.int .i64 (List.length a0 : Int)))) (some 8) (.exact (.int .i64 x8_l2)))) (fun (x8_l2 : Int) => []) ?_ (fun rec2 x8_l2 h => ?_)
    · exact Sub.of_le (AF.le_put (AV.le_eq rfl) (AF.le_put (AV.le_eq rfl) (AF.le_put (AV.le_eq rfl) (AF.le_put (AV.le_eq rfl) (AF.le_top _)))))
    · unfold m_slices_IndexFunc_L_int_int_B2 at h
      refine k_seq ?_
      refine k_reg .free hmixP (by kernel_rfl) ?_
      refine G_q rfl (op_lss rfl rfl ?_)
      refine G_nil ?_
      refine kC_normal ?_
      refine k_seq ?_
      refine k_cond_d (p := x8_l2 < (List.length a0 : Int)) rfl (fun hc => ?_) (fun hc => ?_)
      · replace h := ite_t h hc
        refine k_skip ?_
        refine kC_normal ?_
        refine k_seq ?_
        refine k_block ?_
        refine k_seq ?_
        refine k_reg .free hmixP (by kernel_rfl) ?_
        refine G_q rfl (op_move (av := .exact (.int .i64 x8_l2)) rfl ?_)
        refine G_q rfl (op_assign (av := .exact (.int .i64 x8_l2)) rfl ?_)
        refine G_nil ?_
        refine kC_normal ?_
        refine k_seq ?_
        refine k_reg .free hmixP (by kernel_rfl) ?_
        refine G_q rfl (op_move (av := .fn Try.prog (fun (i : Int) => [.exact (.int .i64 i)]) (fun (i : Int) => a1 i) (fun (r : Bool) => .exact (.bool r))) rfl ?_)
        refine G_q rfl (op_move (av := .row 1 c_int a0) rfl ?_)
        refine G_q rfl (op_move (av := .exact (.int .i64 x8_l2)) rfl ?_)
        obtain ⟨n13, h⟩ := need_some h
        refine G_q rfl (op_index_row (by kernel_rfl) rfl rfl n13.1 n13.2 ?_)
        refine G_q rfl (op_load1p (a := .exact (.int .i64 (gi a0 x8_l2))) (by kernel_rfl) rfl rfl ?_)
        obtain ⟨y14, hy14, h⟩ := bnd1_some h
        refine G_q rfl (op_callfn (gi a0 x8_l2) rfl hy14 (LEs.cons (AV.le_eq rfl) LEs.nil) ?_)
        refine G_nil ?_
        refine kC_normal ?_
        refine k_cond_b (c := y14) rfl (fun hc => ?_) (fun hc => ?_)
        · replace h := ite_t h hc
          refine k_seq ?_
          refine k_reg .free hmixP (by kernel_rfl) ?_
          refine G_q rfl (op_move (av := .exact (.int .i64 x8_l2)) rfl ?_)
          refine G_q rfl (op_assign (av := .exact (.int .i64 x8_l2)) rfl ?_)
          refine G_nil ?_
          refine kC_normal ?_
          refine k_ret ?_
          refine kB_ret ?_
          refine kC_ret ?_
          refine kI_ret ?_
          refine kB_ret ?_
          refine kI_ret ?_
          obtain rfl := Option.some.inj h
          refine kP_any (endN (af' := (AF.put AF0 (some 4) (.exact (.int .i64 x8_l2)))) (σ' := []) _ rfl ?_ ⟨rfl, rfl⟩)
          exact Sub.of_le (AF.le_put (AV.le_eq rfl) (AF.le_top _))
        · replace h := ite_f h hc
          refine k_skip ?_
          refine kB_normal ?_
          refine kC_normal ?_
          refine k_reg .free hmixP (by kernel_rfl) ?_
          refine G_q rfl (op_add rfl rfl rfl ?_)
          refine G_q rfl (op_move (av := .exact (.int .i64 (i64 (x8_l2 + 1)))) rfl ?_)
          refine G_nil ?_
          refine kI_normal ⟨_, h, ?_⟩
          exact Sub.of_le (AF.le_put (AV.le_eq rfl) (AF.le_put (AV.le_eq rfl) (AF.le_put (AV.le_eq rfl) (AF.le_put (AV.le_eq rfl) (AF.le_top _)))))
      · replace h := ite_f h hc
        refine k_exit ?_
        refine kC_exit ?_
        refine kI_exit ?_
        refine kB_exit ?_
        refine kI_normal ⟨h, ?_⟩
        exact Sub.of_le (AF.le_top _)
  · refine k_seq ?_
    refine k_reg .free hmixP (by kernel_rfl) ?_
    refine G_q rfl (op_assign (av := .exact (.int .i64 (-1))) rfl ?_)
    refine G_nil ?_
    refine kC_normal ?_
    refine k_ret ?_
    obtain rfl := Option.some.inj h
    refine kP_any (endN (af' := (AF.put AF0 (some 4) (.exact (.int .i64 (-1))))) (σ' := []) _ rfl ?_ ⟨rfl, rfl⟩)
    exact Sub.of_le (AF.le_put (AV.le_eq rfl) (AF.le_top _))
set_option maxHeartbeats 4000000 in
theorem m_slices_DeleteFunc_L_int_int_ok {w0 : Value} (a0 : List Int) (a1 : Int → Option Bool) (r : (List Int)) (h : m_slices_DeleteFunc_L_int_int a0 a1 = some r) : Fun Try.prog 61 [(.exact w0), (.fn Try.prog (fun (i : Int) => [.exact (.int .i64 i)]) (fun (i : Int) => a1 i) (fun (r : Bool) => .exact (.bool r)))] [vecT Try.prog 23 1 c_int w0 a0] (fun a s => ∃ z0, a = .exact z0 ∧ s = [vecT Try.prog 23 1 c_int z0 r]) := by
  unfold m_slices_DeleteFunc_L_int_int at h
  refine fun_of_awp Try.func61 rfl Try.ntmps61 (by simp) rfl (res1 rfl) fun E hE => k_end ?_
  refine k_seq ?_
  refine k_reg .free hmixP (by kernel_rfl) ?_
  refine G_q rfl (op_assign (av := .exact (.slice none 0 0)) rfl ?_)
  refine G_nil ?_
  refine kC_normal ?_
  refine k_seq ?_
  refine k_reg .free hmixP (by kernel_rfl) ?_
  refine G_q rfl (op_move (av := .exact w0) rfl ?_)
  refine G_q rfl (op_move (av := .fn Try.prog (fun (i : Int) => [.exact (.int .i64 i)]) (fun (i : Int) => a1 i) (fun (r : Bool) => .exact (.bool r))) rfl ?_)
  obtain ⟨y1, hy1, h⟩ := bnd1_some h
  refine G_r rfl (op_borrow (m_slices_IndexFunc_L_int_int_ok _ _ _ hy1) Try.func84 (by kernel_rfl) MI.exact (Bors.cons (Bor.vec (List.Mem.head _) len_c_int) (Bors.cons (Bor.le (AV.le_eq rfl)) Bors.nil)) ?_)
  refine G_q rfl (op_assign (av := .exact (.int .i64 y1)) rfl ?_)
  refine G_nil ?_
  refine kC_normal ?_
  refine k_seq ?_
  refine k_seq ?_
  refine k_reg .free hmixP (by kernel_rfl) ?_
  refine G_q rfl (op_move (av := .exact (.int .i64 y1)) rfl ?_)
  refine G_q rfl (op_eql rfl rfl ?_)
  refine G_nil ?_
  refine kC_normal ?_
  refine k_cond_d (p := y1 = (-1)) rfl (fun hc => ?_) (fun hc => ?_)
  · replace h := ite_t h hc
    refine k_seq ?_
    refine k_reg .free hmixP (by kernel_rfl) ?_
    refine G_q rfl (op_move (av := .exact w0) rfl ?_)
    refine G_q rfl (op_assign (av := .exact w0) rfl ?_)
    refine G_nil ?_
    refine kC_normal ?_
    refine k_ret ?_
    refine kC_ret ?_
    obtain rfl := Option.some.inj h
    refine kP_any (endN (af' := (AF.put AF0 (some 4) (.exact w0))) (σ' := [vecT Try.prog 23 1 c_int w0 a0]) _ rfl ?_ ⟨w0, rfl, rfl⟩)
    exact Sub.of_le (AF.le_put (AV.le_eq rfl) (AF.le_top _))
  · replace h := ite_f h hc
    refine k_skip ?_
    refine kC_normal ?_
    refine k_join2_0 h (fun (x0_j2 : List Int) (x5_j2 : Int) => (AF.put (AF.put AF0 (some 0) (.exact w0)) (some 5) (.exact (.int .i64 x5_j2)))) (fun (x0_j2 : List Int) (x5_j2 : Int) => [vecT Try.prog 23 1 c_int w0 x0_j2]) (fun k2 h => ?_) (fun x0_j2 x5_j2 h => ?_)
    · refine k_seq ?_
      refine k_reg .free hmixP (by kernel_rfl) ?_
      refine G_q rfl (op_move (av := .exact (.int .i64 y1)) rfl ?_)
      refine G_q rfl (op_add rfl rfl rfl ?_)
      refine G_q rfl (op_assign (av := .exact (.int .i64 (i64 (y1 + 1)))) rfl ?_)
      refine G_nil ?_
      refine kC_normal ?_
      refine k_block ?_
      refine k_loop3_0 (m_slices_DeleteFunc_L_int_int_L2 a1 k2) (m_slices_DeleteFunc_L_int_int_B2 a1 k2) (fun _ _ _ => rfl) (fun m _ _ _ => rfl) h (fun (x0_l2 : List Int) (x5_l2 : Int) (x6_l2 : Int) => (AF.put (AF.put (AF.put (AF.put AF0 (some 0) (.exact w0)) (some 1) (.fn Try.prog (fun (i : Int) => [.exact (.int .i64 i)]) (fun (i : Int) => a1 i) (fun (r : Bool) => .exact (.bool r)))) (some 5) (.exact (.int .i64 x5_l2))) (some 6) (.exact (.int .i64 x6_l2)))) (fun (x0_l2 : List Int) (x5_l2 : Int) (x6_l2 : Int) => [vecT Try.prog 23 1 c_int w0 x0_l2]) ?_ (fun rec2 x0_l2 x5_l2 x6_l2 h => ?_)
      · exact Sub.of_le (AF.le_put (AV.le_eq rfl) (AF.le_put (AV.le_eq rfl) (AF.le_put (AV.le_eq rfl) (AF.le_put (AV.le_eq rfl) (AF.le_top _)))))
      · unfold m_slices_DeleteFunc_L_int_int_B2 at h
        refine k_seq ?_
        refine k_seq ?_
        refine k_reg .free hmixP (by kernel_rfl) ?_
        refine G_q rfl (op_move (av := .exact (.int .i64 x6_l2)) rfl ?_)
        refine G_q rfl (op_move (av := .exact w0) rfl ?_)
        refine G_r rfl (op_len_vec (by kernel_rfl) rfl ?_)
        refine G_q rfl (op_lss rfl rfl ?_)
        refine G_nil ?_
        refine kC_normal ?_
        refine k_cond_d (p := x6_l2 < (List.length x0_l2 : Int)) rfl (fun hc => ?_) (fun hc => ?_)
        · replace h := ite_t h hc
          refine k_skip ?_
          refine kC_normal ?_
          refine k_join2_0 h (fun (x0_j39 : List Int) (x5_j39 : Int) => (AF.put (AF.put (AF.put (AF.put AF0 (some 0) (.exact w0)) (some 1) (.fn Try.prog (fun (i : Int) => [.exact (.int .i64 i)]) (fun (i : Int) => a1 i) (fun (r : Bool) => .exact (.bool r)))) (some 5) (.exact (.int .i64 x5_j39))) (some 6) (.exact (.int .i64 x6_l2)))) (fun (x0_j39 : List Int) (x5_j39 : Int) => [vecT Try.prog 23 1 c_int w0 x0_j39]) (fun k39 h => ?_) (fun x0_j39 x5_j39 h => ?_)
          · refine k_block ?_
            refine k_seq ?_
            refine k_reg .free hmixP (by kernel_rfl) ?_
            refine G_q rfl (op_move (av := .exact w0) rfl ?_)
            refine G_q rfl (op_move (av := .exact (.int .i64 x6_l2)) rfl ?_)
            obtain ⟨n43, h⟩ := need_some h
            refine G_r rfl (op_index_vec (by kernel_rfl) rfl rfl n43.1 n43.2 ?_)
            refine G_r rfl (op_load_vec1 (i := x6_l2) (o := 0) (a := .exact (.int .i64 (gi x0_l2 x6_l2))) (by kernel_rfl) len_c_int rfl n43.1 n43.2 rfl ?_)
            refine G_q rfl (op_assign (av := .exact (.int .i64 (gi x0_l2 x6_l2))) rfl ?_)
            refine G_nil ?_
            refine kC_normal ?_
            refine k_seq ?_
            refine k_reg .free hmixP (by kernel_rfl) ?_
            refine G_q rfl (op_move (av := .fn Try.prog (fun (i : Int) => [.exact (.int .i64 i)]) (fun (i : Int) => a1 i) (fun (r : Bool) => .exact (.bool r))) rfl ?_)
            refine G_q rfl (op_move (av := .exact (.int .i64 (gi x0_l2 x6_l2))) rfl ?_)
            obtain ⟨y44, hy44, h⟩ := bnd1_some h
            refine G_q rfl (op_callfn (gi x0_l2 x6_l2) rfl hy44 (LEs.cons (AV.le_eq rfl) LEs.nil) ?_)
            refine G_q rfl (op_not rfl ?_)
            refine G_nil ?_
            refine kC_normal ?_
            refine k_cond_b (c := !y44) rfl (fun hc => ?_) (fun hc => ?_)
            · replace h := ite_t h hc
              refine k_seq ?_
              refine k_reg .free hmixP (by kernel_rfl) ?_
              refine G_q rfl (op_move (av := .exact w0) rfl ?_)
              refine G_q rfl (op_move (av := .exact (.int .i64 x5_l2)) rfl ?_)
              refine G_q rfl (op_move (av := .exact (.int .i64 (gi x0_l2 x6_l2))) rfl ?_)
              obtain ⟨n45, h⟩ := need_some h
              refine G_r rfl (op_index_vec (by kernel_rfl) rfl rfl n45.1 n45.2 ?_)
              refine G_l rfl (op_store_vec (i := x5_l2) (o := 0) (z := gi x0_l2 x6_l2) (c' := [.exact (.int .i64 (gi x0_l2 x6_l2))]) (by kernel_rfl) len_c_int rfl n45.1 n45.2 rfl CellsOf.int (LEs.cons (AV.le_eq rfl) LEs.nil) (OneC.int OneC.nil) (by kernel_rfl) (Nat.le_of_ble_eq_true rfl) rfl ?_)
              refine G_nil ?_
              refine kC_normal ?_
              refine k_reg .free hmixP (by kernel_rfl) ?_
              refine G_q rfl (op_move (av := .exact (.int .i64 x5_l2)) rfl ?_)
              refine G_q rfl (op_add rfl rfl rfl ?_)
              refine G_q rfl (op_assign (av := .exact (.int .i64 (i64 (x5_l2 + 1)))) rfl ?_)
              refine G_nil ?_
              refine kB_normal ?_
              refine kI_normal ⟨_, _, h, ?_⟩
              exact Sub.of_le (AF.le_put (AV.le_eq rfl) (AF.le_put (AV.le_eq rfl) (AF.le_put (AV.le_eq rfl) (AF.le_put (AV.le_eq rfl) (AF.le_top _)))))
            · replace h := ite_f h hc
              refine k_skip ?_
              refine kB_normal ?_
              refine kI_normal ⟨_, _, h, ?_⟩
              exact Sub.of_le (AF.le_put (AV.le_eq rfl) (AF.le_put (AV.le_eq rfl) (AF.le_put (AV.le_eq rfl) (AF.le_put (AV.le_eq rfl) (AF.le_top _)))))
          · refine k_reg .free hmixP (by kernel_rfl) ?_
            refine G_q rfl (op_move (av := .exact (.int .i64 x6_l2)) rfl ?_)
            refine G_q rfl (op_add rfl rfl rfl ?_)
            refine G_q rfl (op_assign (av := .exact (.int .i64 (i64 (x6_l2 + 1)))) rfl ?_)
            refine G_nil ?_
            refine kI_normal ⟨_, _, _, h, ?_⟩
            exact Sub.of_le (AF.le_put (AV.le_eq rfl) (AF.le_put (AV.le_eq rfl) (AF.le_put (AV.le_eq rfl) (AF.le_put (AV.le_eq rfl) (AF.le_top _)))))
        · replace h := ite_f h hc
          refine k_exit ?_
          refine kC_exit ?_
          refine kI_exit ?_
          refine kB_exit ?_
          refine kI_normal ⟨_, _, h, ?_⟩
          exact Sub.of_le (AF.le_put (AV.le_eq rfl) (AF.le_put (AV.le_eq rfl) (AF.le_top _)))
    · refine k_seq ?_
      refine k_reg .free hmixP (by kernel_rfl) ?_
      refine G_q rfl (op_move (av := .exact w0) rfl ?_)
      refine G_q rfl (op_move (av := .exact (.int .i64 x5_j2)) rfl ?_)
      obtain ⟨n46, h⟩ := need_some h
      refine G_r rfl (op_slice_vec (by kernel_rfl) rfl (bnd_some rfl) bnd_none n46.1 n46.2.1 n46.2.2 ?_)
      refine G_l rfl (op_clear (zr := 0) (by kernel_rfl) len_c_int oc_c_int rfl (by have := n46; omega) Try.zeroValue3 (fun _ _ => (Fit.ex Fit.nil0)) ?_)
      refine G_nil ?_
      refine kC_normal ?_
      refine k_seq ?_
      refine k_reg .free hmixP (by kernel_rfl) ?_
      refine G_q rfl (op_move (av := .exact w0) rfl ?_)
      refine G_q rfl (op_move (av := .exact (.int .i64 x5_j2)) rfl ?_)
      obtain ⟨n47, h⟩ := need_some h
      refine G_l rfl (op_trunc (by kernel_rfl) len_c_int rfl (bnd_some rfl) n47.1 n47.2 (fun v48 => ?_))
      refine G_q rfl (op_assign (av := .exact v48) rfl ?_)
      refine G_nil ?_
      refine kC_normal ?_
      refine k_ret ?_
      obtain rfl := Option.some.inj h
      refine kP_any (endN (af' := (AF.put AF0 (some 4) (.exact v48))) (σ' := [vecT Try.prog 23 1 c_int v48 (List.take (Int.toNat x5_j2) (List.take (Int.toNat x5_j2) x0_j2 ++ List.replicate (Int.toNat (List.length x0_j2 : Int) - Int.toNat x5_j2) (0 : Int) ++ List.drop (Int.toNat x5_j2 + (Int.toNat (List.length x0_j2 : Int) - Int.toNat x5_j2)) x0_j2))]) _ rfl ?_ ⟨v48, rfl, rfl⟩)
      exact Sub.of_le (AF.le_put (AV.le_eq rfl) (AF.le_top _))
set_option maxHeartbeats 4000000 in
theorem m_slices_Clip_L_int_int_ok (a0 : List Int) (r : (List Int)) (h : m_slices_Clip_L_int_int a0 = some r) : Pure Try.prog 64 [(.row 1 c_int a0)] (.row 1 c_int r) := by
  unfold m_slices_Clip_L_int_int at h
  refine Pure.ofFun (fun_of_awp Try.func64 rfl Try.ntmps64 (by simp) rfl (res1 rfl) fun E hE => k_end ?_)
  refine k_seq ?_
  refine k_reg .free hmixP (by kernel_rfl) ?_
  refine G_q rfl (op_assign (av := .exact (.slice none 0 0)) rfl ?_)
  refine G_nil ?_
  refine kC_normal ?_
  refine k_seq ?_
  refine k_reg .free hmixP (by kernel_rfl) ?_
  refine G_q rfl (op_move (av := .row 1 c_int a0) rfl ?_)
  refine G_q rfl (op_move (av := .row 1 c_int a0) rfl ?_)
  refine G_q rfl (op_len_row (by kernel_rfl) rfl ?_)
  refine G_q rfl (op_move (av := .row 1 c_int a0) rfl ?_)
  refine G_q rfl (op_len_row (by kernel_rfl) rfl ?_)
  obtain ⟨n1, h⟩ := need_some h
  refine G_q rfl (op_slice_row3 (by kernel_rfl) rfl bnd_none rfl rfl (Int.le_refl 0) n1 (Int.le_refl _) (Int.le_refl _) ?_)
  refine G_q rfl (op_assign (av := .row 1 c_int (List.take (Int.toNat (List.length a0 : Int)) a0)) rfl ?_)
  refine G_nil ?_
  refine kC_normal ?_
  refine k_ret ?_
  obtain rfl := Option.some.inj h
  refine kP_any (endN (af' := (AF.put AF0 (some 2) (.row 1 c_int (List.take (Int.toNat (List.length a0 : Int)) a0)))) (σ' := []) _ rfl ?_ ⟨rfl, rfl⟩)
  exact Sub.of_le (AF.le_put (AV.le_eq rfl) (AF.le_top _))
end Go.Proofs.Ytkbbeeeoogjknaa
/- The functions compute their models, by program. -/
namespace Go.Proofs.Ytkbbeeeoogjknaa
open Go.RowKit
attribute [local irreducible] AV.exact AV.top AV.row AV.ptr AV.agg AV.tup AV.eptr AV.fn AV.nilq AV.nilqn opA opB opM opR Quiet Loud Reads wpG awp den Sub SubU Pure Fun vecI vecT boxI CellsAll CellsOf OneC LEs LEss
set_option maxRecDepth 100000

set_option maxHeartbeats 4000000 in
theorem m_alphabet_Keep_ok (a0 : List (Int × Int)) (a1 : List Int) (r : (List Int)) (h : m_alphabet_Keep a0 a1 = some r) : Pure Try.prog 19 [(.row 2 c_api_Above a0), (.row 1 c_int a1)] (.row 1 c_int r) := by
  unfold m_alphabet_Keep at h
  refine Pure.ofFun (fun_of_awp Try.func19 rfl Try.ntmps19 (by simp) rfl (res1 rfl) fun E hE => k_end ?_)
  refine k_seq ?_
  refine k_reg .free hmixP (by kernel_rfl) ?_
  refine G_l rfl (op_boxI (c := [.row 2 c_api_Above a0]) rfl CellsOf.row (LEs.cons (AV.le_eq rfl) LEs.nil) (fun b1 => ?_))
  refine G_l rfl (op_boxI (c := [.row 1 c_int a1]) rfl CellsOf.row (LEs.cons (AV.le_eq rfl) LEs.nil) (fun b2 => ?_))
  refine G_q rfl (op_assign (av := .exact (.slice none 0 0)) rfl ?_)
  refine G_nil ?_
  refine kC_normal ?_
  refine k_seq ?_
  refine k_reg .free hmixP (by kernel_rfl) ?_
  refine G_r rfl (op_load_box1 (a := .row 1 c_int a1) (by kernel_rfl) rfl rfl ?_)
  obtain ⟨y3, hy3, h⟩ := bnd1_some h
  refine G_l rfl (op_fun_0_1_1 (m_slices_Clone_L_int_int_ok _ _ hy3) Try.func60 (by kernel_rfl) (LEs.cons (AV.le_eq rfl) LEs.nil) (fun v4 => ?_))
  refine G_q rfl (op_assign (av := .exact v4) rfl ?_)
  refine G_nil ?_
  refine kC_normal ?_
  refine k_join1_1 h (fun (x5_j5 : List Int) (v5_j5 : Value) => (AF.put AF0 (some 5) (.exact v5_j5))) (fun (x5_j5 : List Int) (v5_j5 : Value) => [vecT Try.prog 23 1 c_int v5_j5 x5_j5]) (fun k5 h => ?_) (fun x5_j5 v5_j5 h => ?_)
  · refine k_seq ?_
    refine k_reg .free hmixP (by kernel_rfl) ?_
    refine G_r rfl (opR_f2 (op_load_box1 (a := .row 2 c_api_Above a0) (by kernel_rfl) rfl rfl ?_))
    obtain ⟨y9, hy9, h⟩ := bnd1_some h
    refine G_q rfl (op_pure (m_alphabet_ValidOrder_ok _ _ hy9) Try.func16 (by kernel_rfl) (LEs.cons (AV.le_eq rfl) LEs.nil) ?_)
    refine G_nil ?_
    refine kC_normal ?_
    refine k_cond_b (c := y9) rfl (fun hc => ?_) (fun hc => ?_)
    · replace h := ite_t h hc
      refine k_reg .free hmixP (by kernel_rfl) ?_
      refine G_q rfl (op_move (av := .exact v4) rfl ?_)
      refine G_sub rfl (SubU.trans SubU.f2 (SubU.freezeBox (s := 2) rfl)) ?_
      refine G_sub rfl (SubU.trans SubU.f1 (SubU.freezeBox (s := 3) rfl)) ?_
      refine G_q rfl (op_makeFunc (args := (fun (i : Int) => [.exact (.int .i64 i)])) (f := (fun (i : Int) => (fun (x0 : Int) => m_alphabet_Keep_1 x0 a0 a1) i)) (res := (fun (r : Bool) => .exact (.bool r))) Try.func62 (by kernel_rfl) [.ptr [.row 2 c_api_Above a0], .ptr [.row 1 c_int a1]] (LEs.cons (AV.le_eq rfl) (LEs.cons (AV.le_eq rfl) LEs.nil)) (fun i r h => m_alphabet_Keep_1_ok i a0 a1 r h) ?_)
      obtain ⟨y10, hy10, h⟩ := bnd1_some h
      refine G_l rfl (op_fun_1_1_1 (m_slices_DeleteFunc_L_int_int_ok _ _ _ hy10) Try.func61 (by kernel_rfl) (LEs.cons (AV.le_eq rfl) (LEs.cons (AV.le_eq rfl) LEs.nil)) (fun v11 => ?_))
      refine G_q rfl (op_assign (av := .exact v11) rfl ?_)
      refine G_nil ?_
      refine kI_normal ⟨_, v11, h, ?_⟩
      exact Sub.of_le (AF.le_put (AV.le_eq rfl) (AF.le_top _))
    · replace h := ite_f h hc
      refine k_skip ?_
      refine kI_normal ⟨_, v4, h, ?_⟩
      refine Sub.trans (SubU.to SubU.f1) ?_
      refine Sub.trans (SubU.to SubU.drop) ?_
      refine Sub.trans (SubU.to SubU.f1) ?_
      refine Sub.trans (SubU.to SubU.drop) ?_
      exact Sub.of_le (AF.le_put (AV.le_eq rfl) (AF.le_top _))
  · refine k_seq ?_
    refine k_reg .free hmixP (by kernel_rfl) ?_
    refine G_q rfl (op_move (av := .exact v5_j5) rfl ?_)
    refine G_sub rfl (SubU.freezeT2 (s1 := 5) (s2 := 13) rfl rfl len_c_int) ?_
    obtain ⟨y12, hy12, h⟩ := bnd1_some h
    refine G_q rfl (op_pure (m_slices_Clip_L_int_int_ok _ _ hy12) Try.func64 (by kernel_rfl) (LEs.cons (AV.le_eq rfl) LEs.nil) ?_)
    refine G_q rfl (op_assign (av := .row 1 c_int y12) rfl ?_)
    refine G_nil ?_
    refine kC_normal ?_
    refine k_ret ?_
    obtain rfl := Option.some.inj h
    refine kP_any (endN (af' := (AF.put AF0 (some 4) (.row 1 c_int y12))) (σ' := []) _ rfl ?_ ⟨rfl, rfl⟩)
    exact Sub.of_le (AF.le_put (AV.le_eq rfl) (AF.le_top _))
set_option maxHeartbeats 4000000 in
theorem m_help_Equal_int_ok (a0 : List Int) (a1 : List Int) (r : Bool) (h : m_help_Equal_int a0 a1 = some r) : Pure Try.prog 18 [(.row 1 c_int a0), (.row 1 c_int a1)] (.exact (.bool r)) := by
  unfold m_help_Equal_int at h
  refine Pure.ofFun (fun_of_awp Try.func18 rfl Try.ntmps18 (by simp) rfl (res1 rfl) fun E hE => k_end ?_)
  refine k_seq ?_
  refine k_reg .free hmixP (by kernel_rfl) ?_
  refine G_q rfl (op_assign (av := .exact (.bool false)) rfl ?_)
  refine G_nil ?_
  refine kC_normal ?_
  refine k_seq ?_
  refine k_seq ?_
  refine k_reg .free hmixP (by kernel_rfl) ?_
  refine G_q rfl (op_move (av := .row 1 c_int a0) rfl ?_)
  refine G_q rfl (op_len_row (by kernel_rfl) rfl ?_)
  refine G_q rfl (op_move (av := .row 1 c_int a1) rfl ?_)
  refine G_q rfl (op_len_row (by kernel_rfl) rfl ?_)
  refine G_q rfl (op_neq rfl rfl ?_)
  refine G_nil ?_
  refine kC_normal ?_
  refine k_cond_d (p := ¬ (List.length a0 : Int) = (List.length a1 : Int)) rfl (fun hc => ?_) (fun hc => ?_)
  · replace h := ite_t h hc
    refine k_seq ?_
    refine k_reg .free hmixP (by kernel_rfl) ?_
    refine G_q rfl (op_assign (av := .exact (.bool false)) rfl ?_)
    refine G_nil ?_
    refine kC_normal ?_
    refine k_ret ?_
    refine kC_ret ?_
    obtain rfl := Option.some.inj h
    refine kP_any (endN (af' := (AF.put AF0 (some 4) (.exact (.bool false)))) (σ' := []) _ rfl ?_ ⟨rfl, rfl⟩)
    exact Sub.of_le (AF.le_put (AV.le_eq rfl) (AF.le_top _))
  · replace h := ite_f h hc
    refine k_skip ?_
    refine kC_normal ?_
    refine k_join0_0 h (AF0) ([]) (fun k1 h => ?_) (fun  h => ?_)
    · refine k_seq ?_
      refine k_reg .free hmixP (by kernel_rfl) ?_
      refine G_q rfl (op_assign (av := .exact (.int .i64 0)) rfl ?_)
      refine G_nil ?_
      refine kC_normal ?_
      refine k_block ?_
      refine k_loop1_0 (m_help_Equal_int_L2 a0 a1 k1) (m_help_Equal_int_B2 a0 a1 k1) (fun _ => rfl) (fun m _ => rfl) h (fun (x5_l2 : Int) => (AF.put (AF.put (AF.put AF0 (some 0) (.row 1 c_int a0)) (some 1) (.row 1 c_int a1)) (some 5) (.exact (.int .i64 x5_l2)))) (fun (x5_l2 : Int) => []) ?_ (fun rec2 x5_l2 h => ?_)
      · exact Sub.of_le (AF.le_put (AV.le_eq rfl) (AF.le_put (AV.le_eq rfl) (AF.le_put (AV.le_eq rfl) (AF.le_top _))))
      · unfold m_help_Equal_int_B2 at h
        refine k_seq ?_
        refine k_seq ?_
        refine k_reg .free hmixP (by kernel_rfl) ?_
        refine G_q rfl (op_move (av := .exact (.int .i64 x5_l2)) rfl ?_)
        refine G_q rfl (op_move (av := .row 1 c_int a0) rfl ?_)
        refine G_q rfl (op_len_row (by kernel_rfl) rfl ?_)
        refine G_q rfl (op_lss rfl rfl ?_)
        refine G_nil ?_
        refine kC_normal ?_
        refine k_cond_d (p := x5_l2 < (List.length a0 : Int)) rfl (fun hc => ?_) (fun hc => ?_)
        · replace h := ite_t h hc
          refine k_skip ?_
          refine kC_normal ?_
          refine k_seq ?_
          refine k_block ?_
          refine k_seq ?_
          refine k_plan [] [(0, 0), (0, 1), (0, 2), (0, 3), (0, 4), (0, 5), (0, 6), (0, 7), (0, 8)] hmixP (by kernel_rfl) ?_
          refine P_q no34_0 rfl (op_move (av := .row 1 c_int a0) rfl ?_)
          refine P_q no34_0 rfl (op_move (av := .exact (.int .i64 x5_l2)) rfl ?_)
          obtain ⟨n13, h⟩ := need_some h
          refine P_q no34_0 rfl (op_index_row (by kernel_rfl) rfl rfl n13.1 n13.2 ?_)
          refine P_q no34_0 rfl (op_load1p (a := .exact (.int .i64 (gi a0 x5_l2))) (by kernel_rfl) rfl rfl ?_)
          refine P_q no34_0 rfl (op_move (av := .row 1 c_int a1) rfl ?_)
          refine P_q no34_0 rfl (op_move (av := .exact (.int .i64 x5_l2)) rfl ?_)
          obtain ⟨n14, h⟩ := need_some h
          refine P_q no34_0 rfl (op_index_row (by kernel_rfl) rfl rfl n14.1 n14.2 ?_)
          refine P_q no34_0 rfl (op_load1p (a := .exact (.int .i64 (gi a1 x5_l2))) (by kernel_rfl) rfl rfl ?_)
          refine P_q no34_0 rfl (op_neq rfl rfl ?_)
          refine P_nil ?_
          refine kC_normal ?_
          refine k_cond_d (p := ¬ (gi a0 x5_l2) = (gi a1 x5_l2)) rfl (fun hc => ?_) (fun hc => ?_)
          · replace h := ite_t h hc
            refine k_seq ?_
            refine k_reg .free hmixP (by kernel_rfl) ?_
            refine G_q rfl (op_assign (av := .exact (.bool false)) rfl ?_)
            refine G_nil ?_
            refine kC_normal ?_
            refine k_ret ?_
            refine kB_ret ?_
            refine kC_ret ?_
            refine kI_ret ?_
            refine kB_ret ?_
            refine kI_ret ?_
            obtain rfl := Option.some.inj h
            refine kP_any (endN (af' := (AF.put AF0 (some 4) (.exact (.bool false)))) (σ' := []) _ rfl ?_ ⟨rfl, rfl⟩)
            exact Sub.of_le (AF.le_put (AV.le_eq rfl) (AF.le_top _))
          · replace h := ite_f h hc
            refine k_skip ?_
            refine kB_normal ?_
            refine kC_normal ?_
            refine k_reg .free hmixP (by kernel_rfl) ?_
            refine G_q rfl (op_move (av := .exact (.int .i64 x5_l2)) rfl ?_)
            refine G_q rfl (op_add rfl rfl rfl ?_)
            refine G_q rfl (op_assign (av := .exact (.int .i64 (i64 (x5_l2 + 1)))) rfl ?_)
            refine G_nil ?_
            refine kI_normal ⟨_, h, ?_⟩
            exact Sub.of_le (AF.le_put (AV.le_eq rfl) (AF.le_put (AV.le_eq rfl) (AF.le_put (AV.le_eq rfl) (AF.le_top _))))
        · replace h := ite_f h hc
          refine k_exit ?_
          refine kC_exit ?_
          refine kI_exit ?_
          refine kB_exit ?_
          refine kI_normal ⟨h, ?_⟩
          exact Sub.of_le (AF.le_top _)
    · refine k_seq ?_
      refine k_reg .free hmixP (by kernel_rfl) ?_
      refine G_q rfl (op_assign (av := .exact (.bool true)) rfl ?_)
      refine G_nil ?_
      refine kC_normal ?_
      refine k_ret ?_
      obtain rfl := Option.some.inj h
      refine kP_any (endN (af' := (AF.put AF0 (some 4) (.exact (.bool true)))) (σ' := []) _ rfl ?_ ⟨rfl, rfl⟩)
      exact Sub.of_le (AF.le_put (AV.le_eq rfl) (AF.le_top _))
set_option maxHeartbeats 4000000 in
theorem m_alphabet_comparePairs_ok (a0 : Int × Int) (a1 : Int × Int) (r : Int) (h : m_alphabet_comparePairs a0 a1 = some r) : Pure Try.prog 67 [(.agg (c_api_Pair a0)), (.agg (c_api_Pair a1))] (.exact (.int .i64 r)) := by
  unfold m_alphabet_comparePairs at h
  refine Pure.ofFun (fun_of_awp Try.func67 rfl Try.ntmps67 (by simp) rfl (res1 rfl) fun E hE => k_end ?_)
  refine k_seq ?_
  refine k_reg .free hmixP (by kernel_rfl) ?_
  refine G_q rfl (op_box (c := c_api_Pair a0) rfl CellsOf.agg ?_)
  refine G_q rfl (op_box (c := c_api_Pair a1) rfl CellsOf.agg ?_)
  refine G_q rfl (op_assign (av := .exact (.int .i64 0)) rfl ?_)
  refine G_nil ?_
  refine kC_normal ?_
  refine k_seq ?_
  refine k_plan [] [(0, 0), (0, 1), (0, 2), (0, 3), (0, 4), (0, 5), (0, 6), (0, 7), (0, 8), (0, 9), (0, 10), (0, 11), (0, 12)] hmixP (by kernel_rfl) ?_
  refine P_q no34_0 rfl (op_fieldAddr_ptr (o := 0) (c' := (List.drop 0 (c_api_Pair a0))) (by kernel_rfl) rfl rfl ?_)
  refine P_q no34_0 rfl (op_load1p (a := .exact (.int .i64 a0.1)) (by kernel_rfl) rfl rfl ?_)
  refine P_q no34_0 rfl (op_fieldAddr_ptr (o := 0) (c' := (List.drop 0 (c_api_Pair a1))) (by kernel_rfl) rfl rfl ?_)
  refine P_q no34_0 rfl (op_load1p (a := .exact (.int .i64 a1.1)) (by kernel_rfl) rfl rfl ?_)
  obtain ⟨y1, hy1, h⟩ := bnd1_some h
  refine P_q no34_0 rfl (op_pure (m_cmp_Compare_int_ok _ _ _ hy1) Try.func83 (by kernel_rfl) (LEs.cons (AV.le_eq rfl) (LEs.cons (AV.le_eq rfl) LEs.nil)) ?_)
  refine P_q no34_0 rfl (op_fieldAddr_ptr (o := 1) (c' := (List.drop 1 (c_api_Pair a0))) (by kernel_rfl) rfl rfl ?_)
  refine P_q no34_0 rfl (op_load1p (a := .exact (.int .i64 a0.2)) (by kernel_rfl) rfl rfl ?_)
  refine P_q no34_0 rfl (op_fieldAddr_ptr (o := 1) (c' := (List.drop 1 (c_api_Pair a1))) (by kernel_rfl) rfl rfl ?_)
  refine P_q no34_0 rfl (op_load1p (a := .exact (.int .i64 a1.2)) (by kernel_rfl) rfl rfl ?_)
  obtain ⟨y2, hy2, h⟩ := bnd1_some h
  refine P_q no34_0 rfl (op_pure (m_cmp_Compare_int_ok _ _ _ hy2) Try.func83 (by kernel_rfl) (LEs.cons (AV.le_eq rfl) (LEs.cons (AV.le_eq rfl) LEs.nil)) ?_)
  refine P_q no34_0 rfl (op_litT (n := 1) (enc := c_int) [y1, y2] (CellsAll.cons rfl CellsOf.int (CellsAll.cons rfl CellsOf.int CellsAll.nil)) rfl (by kernel_rfl) (LEss.cons (LEs.cons (AV.le_eq rfl) LEs.nil) (LEss.cons (LEs.cons (AV.le_eq rfl) LEs.nil) LEss.nil)) ?_)
  obtain ⟨y3, hy3, h⟩ := bnd1_some h
  refine P_q no34_0 rfl (op_pure (m_cmp_Or_int_ok _ _ hy3) Try.func82 (by kernel_rfl) (LEs.cons (AV.le_eq rfl) LEs.nil) ?_)
  refine P_q no34_0 rfl (op_assign (av := .exact (.int .i64 y3)) rfl ?_)
  refine P_nil ?_
  refine kC_normal ?_
  refine k_ret ?_
  obtain rfl := Option.some.inj h
  refine kP_any (endN (af' := (AF.put AF0 (some 4) (.exact (.int .i64 y3)))) (σ' := []) _ rfl ?_ ⟨rfl, rfl⟩)
  exact Sub.of_le (AF.le_put (AV.le_eq rfl) (AF.le_top _))
set_option maxHeartbeats 4000000 in
theorem m_slices_Compact_L_api_Pair_api_Pair_ok {w0 : Value} (a0 : List (Int × Int)) (r : (List (Int × Int))) (h : m_slices_Compact_L_api_Pair_api_Pair a0 = some r) : Fun Try.prog 69 [(.exact w0)] [vecT Try.prog 44 2 c_api_Pair w0 a0] (fun a s => a = .row 2 c_api_Pair r ∧ s = []) := by
  unfold m_slices_Compact_L_api_Pair_api_Pair at h
  refine fun_of_awp Try.func69 rfl Try.ntmps69 (by simp) rfl (res1 rfl) fun E hE => k_end ?_
  refine k_seq ?_
  refine k_reg .free hmixP (by kernel_rfl) ?_
  refine G_q rfl (op_assign (av := .exact (.slice none 0 0)) rfl ?_)
  refine G_nil ?_
  refine kC_normal ?_
  refine k_seq ?_
  refine k_seq ?_
  refine k_reg .free hmixP (by kernel_rfl) ?_
  refine G_q rfl (op_move (av := .exact w0) rfl ?_)
  refine G_r rfl (op_len_vec (by kernel_rfl) rfl ?_)
  refine G_q rfl (op_lss rfl rfl ?_)
  refine G_nil ?_
  refine kC_normal ?_
  refine k_cond_d (p := (List.length a0 : Int) < 2) rfl (fun hc => ?_) (fun hc => ?_)
  · replace h := ite_t h hc
    refine k_seq ?_
    refine k_reg .free hmixP (by kernel_rfl) ?_
    refine G_q rfl (op_move (av := .exact w0) rfl ?_)
    refine G_q rfl (op_assign (av := .exact w0) rfl ?_)
    refine G_nil ?_
    refine kC_normal ?_
    refine k_ret ?_
    refine kC_ret ?_
    obtain rfl := Option.some.inj h
    refine kP_any (endN (af' := (AF.put AF0 (some 2) (.row 2 c_api_Pair a0))) (σ' := []) _ rfl ?_ ⟨rfl, rfl⟩)
    refine Sub.trans (SubU.to (SubU.freezeT (s := 2) rfl len_c_api_Pair)) ?_
    exact Sub.of_le (AF.le_put (AV.le_eq rfl) (AF.le_top _))
  · replace h := ite_f h hc
    refine k_skip ?_
    refine kC_normal ?_
    refine k_join0_0 h ((AF.put AF0 (some 0) (.exact w0))) ([vecT Try.prog 44 2 c_api_Pair w0 a0]) (fun k1 h => ?_) (fun  h => ?_)
    · refine k_seq ?_
      refine k_reg .free hmixP (by kernel_rfl) ?_
      refine G_q rfl (op_assign (av := .exact (.int .i64 1)) rfl ?_)
      refine G_nil ?_
      refine kC_normal ?_
      refine k_block ?_
      refine k_loop1_0 (m_slices_Compact_L_api_Pair_api_Pair_L14 a0 k1) (m_slices_Compact_L_api_Pair_api_Pair_B14 a0 k1) (fun _ => rfl) (fun m _ => rfl) h (fun (x3_l14 : Int) => (AF.put (AF.put AF0 (some 0) (.exact w0)) (some 3) (.exact (.int .i64 x3_l14)))) (fun (x3_l14 : Int) => [vecT Try.prog 44 2 c_api_Pair w0 a0]) ?_ (fun rec14 x3_l14 h => ?_)
      · exact Sub.of_le (AF.le_put (AV.le_eq rfl) (AF.le_put (AV.le_eq rfl) (AF.le_top _)))
      · unfold m_slices_Compact_L_api_Pair_api_Pair_B14 at h
        refine k_seq ?_
        refine k_seq ?_
        refine k_reg .free hmixP (by kernel_rfl) ?_
        refine G_q rfl (op_move (av := .exact (.int .i64 x3_l14)) rfl ?_)
        refine G_q rfl (op_move (av := .exact w0) rfl ?_)
        refine G_r rfl (op_len_vec (by kernel_rfl) rfl ?_)
        refine G_q rfl (op_lss rfl rfl ?_)
        refine G_nil ?_
        refine kC_normal ?_
        refine k_cond_d (p := x3_l14 < (List.length a0 : Int)) rfl (fun hc => ?_) (fun hc => ?_)
        · replace h := ite_t h hc
          refine k_skip ?_
          refine kC_normal ?_
          refine k_join0_0 h ((AF.put (AF.put AF0 (some 0) (.exact w0)) (some 3) (.exact (.int .i64 x3_l14)))) ([vecT Try.prog 44 2 c_api_Pair w0 a0]) (fun k628 h => ?_) (fun  h => ?_)
          · refine k_block ?_
            refine k_seq ?_
            refine k_plan [] [(0, 0), (0, 1), (0, 4), (0, 5), (0, 6), (1, 2), (1, 3), (1, 7), (1, 8), (0, 9)] hmixP (by kernel_rfl) ?_
            refine P_q no34_0 rfl (op_move (av := .exact w0) rfl ?_)
            refine P_q no34_0 rfl (op_move (av := .exact (.int .i64 x3_l14)) rfl ?_)
            refine P_q no34_0 rfl (op_move (av := .exact w0) rfl ?_)
            refine P_q no34_0 rfl (op_move (av := .exact (.int .i64 x3_l14)) rfl ?_)
            refine P_q no34_0 rfl (op_sub rfl rfl rfl ?_)
            obtain ⟨n691, h⟩ := need_some h
            refine P_r rfl (op_index_vec (by kernel_rfl) rfl rfl n691.1 n691.2 ?_)
            refine P_r rfl (op_load_vecN (i := x3_l14) (o := 0) (m := 2) (c' := c_api_Pair (gi a0 x3_l14)) (by kernel_rfl) len_c_api_Pair rfl n691.1 n691.2 rfl rfl ?_)
            obtain ⟨n692, h⟩ := need_some h
            refine P_r rfl (op_index_vec (by kernel_rfl) rfl rfl n692.1 n692.2 ?_)
            refine P_r rfl (op_load_vecN (i := i64 (x3_l14 - 1)) (o := 0) (m := 2) (c' := c_api_Pair (gi a0 (i64 (x3_l14 - 1)))) (by kernel_rfl) len_c_api_Pair rfl n692.1 n692.2 rfl rfl ?_)
            refine P_q no34_0 rfl (op_eqlA (a := (gi a0 x3_l14)) (b := (gi a0 (i64 (x3_l14 - 1)))) (by kernel_rfl) (eq_c_api_Pair _ _) rfl rfl ?_)
            refine P_nil ?_
            refine kC_normal ?_
            refine k_cond_d (p := (gi a0 x3_l14) = (gi a0 (i64 (x3_l14 - 1)))) rfl (fun hc => ?_) (fun hc => ?_)
            · replace h := ite_t h hc
              refine k_seq ?_
              refine k_reg .free hmixP (by kernel_rfl) ?_
              refine G_q rfl (op_move (av := .exact w0) rfl ?_)
              refine G_q rfl (op_move (av := .exact (.int .i64 x3_l14)) rfl ?_)
              obtain ⟨n693, h⟩ := need_some h
              refine G_r rfl (op_slice_vec (by kernel_rfl) rfl (bnd_some rfl) bnd_none n693.1 n693.2.1 n693.2.2 ?_)
              refine G_q rfl (op_assign (av := .vsub w0 2 (Int.toNat x3_l14) (Int.toNat (List.length a0 : Int) - Int.toNat x3_l14)) rfl ?_)
              refine G_nil ?_
              refine kC_normal ?_
              refine k_join2_0 h (fun (x0_j694 : List (Int × Int)) (x3_j694 : Int) => (AF.put (AF.put AF0 (some 0) (.exact w0)) (some 3) (.exact (.int .i64 x3_j694)))) (fun (x0_j694 : List (Int × Int)) (x3_j694 : Int) => [vecT Try.prog 44 2 c_api_Pair w0 x0_j694]) (fun k694 h => ?_) (fun x0_j694 x3_j694 h => ?_)
              · refine k_seq ?_
                refine k_reg .free hmixP (by kernel_rfl) ?_
                refine G_q rfl (op_assign (av := .exact (.int .i64 1)) rfl ?_)
                refine G_nil ?_
                refine kC_normal ?_
                refine k_block ?_
                refine k_loop3_0 (m_slices_Compact_L_api_Pair_api_Pair_L26 a0 x3_l14 k694) (m_slices_Compact_L_api_Pair_api_Pair_B26 a0 x3_l14 k694) (fun _ _ _ => rfl) (fun m _ _ _ => rfl) h (fun (x0_l26 : List (Int × Int)) (x3_l26 : Int) (x5_l26 : Int) => (AF.put (AF.put (AF.put (AF.put AF0 (some 0) (.exact w0)) (some 3) (.exact (.int .i64 x3_l26))) (some 4) (.vsub w0 2 (Int.toNat x3_l14) (Int.toNat (List.length a0 : Int) - Int.toNat x3_l14))) (some 5) (.exact (.int .i64 x5_l26)))) (fun (x0_l26 : List (Int × Int)) (x3_l26 : Int) (x5_l26 : Int) => [vecT Try.prog 44 2 c_api_Pair w0 x0_l26]) ?_ (fun rec26 x0_l26 x3_l26 x5_l26 h => ?_)
                · exact Sub.of_le (AF.le_put (AV.le_eq rfl) (AF.le_put (AV.le_eq rfl) (AF.le_put (AV.le_eq rfl) (AF.le_put (AV.le_eq rfl) (AF.le_top _)))))
                · unfold m_slices_Compact_L_api_Pair_api_Pair_B26 at h
                  refine k_seq ?_
                  refine k_seq ?_
                  refine k_reg .free hmixP (by kernel_rfl) ?_
                  refine G_q rfl (op_move (av := .exact (.int .i64 x5_l26)) rfl ?_)
                  refine G_q rfl (op_move (av := .vsub w0 2 (Int.toNat x3_l14) (Int.toNat (List.length a0 : Int) - Int.toNat x3_l14)) rfl ?_)
                  refine G_q rfl (op_len_vsub (by kernel_rfl) rfl ?_)
                  refine G_q rfl (op_lss rfl rfl ?_)
                  refine G_nil ?_
                  refine kC_normal ?_
                  refine k_cond_d (p := x5_l26 < ((Int.toNat (List.length a0 : Int) - Int.toNat x3_l14 : Nat) : Int)) rfl (fun hc => ?_) (fun hc => ?_)
                  · replace h := ite_t h hc
                    refine k_skip ?_
                    refine kC_normal ?_
                    refine k_join2_0 h (fun (x0_j741 : List (Int × Int)) (x3_j741 : Int) => (AF.put (AF.put (AF.put (AF.put AF0 (some 0) (.exact w0)) (some 3) (.exact (.int .i64 x3_j741))) (some 4) (.vsub w0 2 (Int.toNat x3_l14) (Int.toNat (List.length a0 : Int) - Int.toNat x3_l14))) (some 5) (.exact (.int .i64 x5_l26)))) (fun (x0_j741 : List (Int × Int)) (x3_j741 : Int) => [vecT Try.prog 44 2 c_api_Pair w0 x0_j741]) (fun k741 h => ?_) (fun x0_j741 x3_j741 h => ?_)
                    · refine k_block ?_
                      refine k_seq ?_
                      refine k_plan [] [(0, 0), (0, 1), (0, 4), (0, 5), (0, 6), (1, 2), (1, 3), (1, 7), (1, 8), (0, 9)] hmixP (by kernel_rfl) ?_
                      refine P_q no34_0 rfl (op_move (av := .vsub w0 2 (Int.toNat x3_l14) (Int.toNat (List.length a0 : Int) - Int.toNat x3_l14)) rfl ?_)
                      refine P_q no34_0 rfl (op_move (av := .exact (.int .i64 x5_l26)) rfl ?_)
                      refine P_q no34_0 rfl (op_move (av := .vsub w0 2 (Int.toNat x3_l14) (Int.toNat (List.length a0 : Int) - Int.toNat x3_l14)) rfl ?_)
                      refine P_q no34_0 rfl (op_move (av := .exact (.int .i64 x5_l26)) rfl ?_)
                      refine P_q no34_0 rfl (op_sub rfl rfl rfl ?_)
                      obtain ⟨n746, h⟩ := need_some h
                      refine P_r rfl (op_index_vsub (j := (x3_l14 + x5_l26)) (by kernel_rfl) rfl rfl n746.2.1 (by have hh := n746; try simp only [i64] at *; omega) (by have hh := n746; try simp only [i64] at *; omega) (by have hh := n746; try simp only [i64] at *; omega) ?_)
                      refine P_r rfl (op_load_vecN (i := (x3_l14 + x5_l26)) (o := 0) (m := 2) (c' := c_api_Pair (gi x0_l26 (x3_l14 + x5_l26))) (by kernel_rfl) len_c_api_Pair rfl n746.2.2.2.1 n746.2.2.2.2 rfl rfl ?_)
                      obtain ⟨n747, h⟩ := need_some h
                      refine P_r rfl (op_index_vsub (j := (x3_l14 + (i64 (x5_l26 - 1)))) (by kernel_rfl) rfl rfl n747.2.1 (by have hh := n747; try simp only [i64] at *; omega) (by have hh := n747; try simp only [i64] at *; omega) (by have hh := n747; try simp only [i64] at *; omega) ?_)
                      refine P_r rfl (op_load_vecN (i := (x3_l14 + (i64 (x5_l26 - 1)))) (o := 0) (m := 2) (c' := c_api_Pair (gi x0_l26 (x3_l14 + (i64 (x5_l26 - 1))))) (by kernel_rfl) len_c_api_Pair rfl n747.2.2.2.1 n747.2.2.2.2 rfl rfl ?_)
                      refine P_q no34_0 rfl (op_neqA (a := (gi x0_l26 (x3_l14 + x5_l26))) (b := (gi x0_l26 (x3_l14 + (i64 (x5_l26 - 1))))) (by kernel_rfl) (eq_c_api_Pair _ _) rfl rfl ?_)
                      refine P_nil ?_
                      refine kC_normal ?_
                      refine k_cond_d (p := ¬ (gi x0_l26 (x3_l14 + x5_l26)) = (gi x0_l26 (x3_l14 + (i64 (x5_l26 - 1))))) rfl (fun hc => ?_) (fun hc => ?_)
                      · replace h := ite_t h hc
                        refine k_seq ?_
                        refine k_reg .free hmixP (by kernel_rfl) ?_
                        refine G_q rfl (op_move (av := .exact w0) rfl ?_)
                        refine G_q rfl (op_move (av := .exact (.int .i64 x3_l26)) rfl ?_)
                        refine G_q rfl (op_move (av := .vsub w0 2 (Int.toNat x3_l14) (Int.toNat (List.length a0 : Int) - Int.toNat x3_l14)) rfl ?_)
                        refine G_q rfl (op_move (av := .exact (.int .i64 x5_l26)) rfl ?_)
                        obtain ⟨n748, h⟩ := need_some h
                        refine G_r rfl (op_index_vsub (j := (x3_l14 + x5_l26)) (by kernel_rfl) rfl rfl n748.2.1 (by have hh := n748; try simp only [i64] at *; omega) (by have hh := n748; try simp only [i64] at *; omega) (by have hh := n748; try simp only [i64] at *; omega) ?_)
                        refine G_r rfl (op_load_vecN (i := (x3_l14 + x5_l26)) (o := 0) (m := 2) (c' := c_api_Pair (gi x0_l26 (x3_l14 + x5_l26))) (by kernel_rfl) len_c_api_Pair rfl n748.2.2.2.1 n748.2.2.2.2 rfl rfl ?_)
                        obtain ⟨n749, h⟩ := need_some h
                        refine G_r rfl (op_index_vec (by kernel_rfl) rfl rfl n749.1 n749.2 ?_)
                        refine G_l rfl (op_store_vec (i := x3_l26) (o := 0) (z := gi x0_l26 (x3_l14 + x5_l26)) (c' := [.exact (.int .i64 ((gi x0_l26 (x3_l14 + x5_l26)).1)), .exact (.int .i64 ((gi x0_l26 (x3_l14 + x5_l26)).2))]) (by kernel_rfl) len_c_api_Pair rfl n749.1 n749.2 rfl CellsOf.agg (LEs.cons (AV.le_eq rfl) (LEs.cons (AV.le_eq rfl) LEs.nil)) (oc_c_api_Pair _) (by kernel_rfl) (Nat.le_of_ble_eq_true rfl) rfl ?_)
                        refine G_nil ?_
                        refine kC_normal ?_
                        refine k_reg .free hmixP (by kernel_rfl) ?_
                        refine G_q rfl (op_move (av := .exact (.int .i64 x3_l26)) rfl ?_)
                        refine G_q rfl (op_add rfl rfl rfl ?_)
                        refine G_q rfl (op_assign (av := .exact (.int .i64 (i64 (x3_l26 + 1)))) rfl ?_)
                        refine G_nil ?_
                        refine kB_normal ?_
                        refine kI_normal ⟨_, _, h, ?_⟩
                        exact Sub.of_le (AF.le_put (AV.le_eq rfl) (AF.le_put (AV.le_eq rfl) (AF.le_put (AV.le_eq rfl) (AF.le_put (AV.le_eq rfl) (AF.le_top _)))))
                      · replace h := ite_f h hc
                        refine k_skip ?_
                        refine kB_normal ?_
                        refine kI_normal ⟨_, _, h, ?_⟩
                        exact Sub.of_le (AF.le_put (AV.le_eq rfl) (AF.le_put (AV.le_eq rfl) (AF.le_put (AV.le_eq rfl) (AF.le_put (AV.le_eq rfl) (AF.le_top _)))))
                    · refine k_reg .free hmixP (by kernel_rfl) ?_
                      refine G_q rfl (op_move (av := .exact (.int .i64 x5_l26)) rfl ?_)
                      refine G_q rfl (op_add rfl rfl rfl ?_)
                      refine G_q rfl (op_assign (av := .exact (.int .i64 (i64 (x5_l26 + 1)))) rfl ?_)
                      refine G_nil ?_
                      refine kI_normal ⟨_, _, _, h, ?_⟩
                      exact Sub.of_le (AF.le_put (AV.le_eq rfl) (AF.le_put (AV.le_eq rfl) (AF.le_put (AV.le_eq rfl) (AF.le_put (AV.le_eq rfl) (AF.le_top _)))))
                  · replace h := ite_f h hc
                    refine k_exit ?_
                    refine kC_exit ?_
                    refine kI_exit ?_
                    refine kB_exit ?_
                    refine kI_normal ⟨_, _, h, ?_⟩
                    exact Sub.of_le (AF.le_put (AV.le_eq rfl) (AF.le_put (AV.le_eq rfl) (AF.le_top _)))
              · refine k_seq ?_
                refine k_reg .free hmixP (by kernel_rfl) ?_
                refine G_q rfl (op_move (av := .exact w0) rfl ?_)
                refine G_q rfl (op_move (av := .exact (.int .i64 x3_j694)) rfl ?_)
                obtain ⟨n750, h⟩ := need_some h
                refine G_r rfl (op_slice_vec (by kernel_rfl) rfl (bnd_some rfl) bnd_none n750.1 n750.2.1 n750.2.2 ?_)
                refine G_l rfl (op_clear (zr := (0, 0)) (by kernel_rfl) len_c_api_Pair oc_c_api_Pair rfl (by have := n750; omega) Try.zeroValue48 (fun _ _ => (Fit.ex (Fit.ex Fit.nil0))) ?_)
                refine G_nil ?_
                refine kC_normal ?_
                refine k_seq ?_
                refine k_reg .free hmixP (by kernel_rfl) ?_
                refine G_q rfl (op_move (av := .exact w0) rfl ?_)
                refine G_q rfl (op_move (av := .exact (.int .i64 x3_j694)) rfl ?_)
                refine G_sub rfl (SubU.freezeT3 (s1 := 0) (s2 := 54) (s3 := 57) rfl rfl rfl len_c_api_Pair) ?_
                obtain ⟨n751, h⟩ := need_some h
                refine G_q rfl (op_slice_rowt (by kernel_rfl) rfl bnd_none (bnd_some rfl) (Int.le_refl 0) n751.1 n751.2 ?_)
                refine G_q rfl (op_assign (av := .row 2 c_api_Pair (List.take (Int.toNat x3_j694) (List.take (Int.toNat x3_j694) x0_j694 ++ List.replicate (Int.toNat (List.length x0_j694 : Int) - Int.toNat x3_j694) ((0, 0) : Int × Int) ++ List.drop (Int.toNat x3_j694 + (Int.toNat (List.length x0_j694 : Int) - Int.toNat x3_j694)) x0_j694))) rfl ?_)
                refine G_nil ?_
                refine kC_normal ?_
                refine k_ret ?_
                refine kB_ret ?_
                refine kI_ret ?_
                refine kI_ret ?_
                refine kB_ret ?_
                refine kI_ret ?_
                obtain rfl := Option.some.inj h
                refine kP_any (endN (af' := (AF.put AF0 (some 2) (.row 2 c_api_Pair (List.take (Int.toNat x3_j694) (List.take (Int.toNat x3_j694) x0_j694 ++ List.replicate (Int.toNat (List.length x0_j694 : Int) - Int.toNat x3_j694) ((0, 0) : Int × Int) ++ List.drop (Int.toNat x3_j694 + (Int.toNat (List.length x0_j694 : Int) - Int.toNat x3_j694)) x0_j694))))) (σ' := []) _ rfl ?_ ⟨rfl, rfl⟩)
                exact Sub.of_le (AF.le_put (AV.le_eq rfl) (AF.le_top _))
            · replace h := ite_f h hc
              refine k_skip ?_
              refine kB_normal ?_
              refine kI_normal ⟨h, ?_⟩
              exact Sub.of_le (AF.le_put (AV.le_eq rfl) (AF.le_put (AV.le_eq rfl) (AF.le_top _)))
          · refine k_reg .free hmixP (by kernel_rfl) ?_
            refine G_q rfl (op_move (av := .exact (.int .i64 x3_l14)) rfl ?_)
            refine G_q rfl (op_add rfl rfl rfl ?_)
            refine G_q rfl (op_assign (av := .exact (.int .i64 (i64 (x3_l14 + 1)))) rfl ?_)
            refine G_nil ?_
            refine kI_normal ⟨_, h, ?_⟩
            exact Sub.of_le (AF.le_put (AV.le_eq rfl) (AF.le_put (AV.le_eq rfl) (AF.le_top _)))
        · replace h := ite_f h hc
          refine k_exit ?_
          refine kC_exit ?_
          refine kI_exit ?_
          refine kB_exit ?_
          refine kI_normal ⟨h, ?_⟩
          exact Sub.of_le (AF.le_put (AV.le_eq rfl) (AF.le_top _))
    · refine k_seq ?_
      refine k_reg .free hmixP (by kernel_rfl) ?_
      refine G_q rfl (op_move (av := .exact w0) rfl ?_)
      refine G_q rfl (op_assign (av := .exact w0) rfl ?_)
      refine G_nil ?_
      refine kC_normal ?_
      refine k_ret ?_
      obtain rfl := Option.some.inj h
      refine kP_any (endN (af' := (AF.put AF0 (some 2) (.row 2 c_api_Pair a0))) (σ' := []) _ rfl ?_ ⟨rfl, rfl⟩)
      refine Sub.trans (SubU.to (SubU.freezeT (s := 2) rfl len_c_api_Pair)) ?_
      exact Sub.of_le (AF.le_put (AV.le_eq rfl) (AF.le_top _))
set_option maxHeartbeats 4000000 in
theorem m_slices_Clip_L_api_Pair_api_Pair_ok (a0 : List (Int × Int)) (r : (List (Int × Int))) (h : m_slices_Clip_L_api_Pair_api_Pair a0 = some r) : Pure Try.prog 68 [(.row 2 c_api_Pair a0)] (.row 2 c_api_Pair r) := by
  unfold m_slices_Clip_L_api_Pair_api_Pair at h
  refine Pure.ofFun (fun_of_awp Try.func68 rfl Try.ntmps68 (by simp) rfl (res1 rfl) fun E hE => k_end ?_)
  refine k_seq ?_
  refine k_reg .free hmixP (by kernel_rfl) ?_
  refine G_q rfl (op_assign (av := .exact (.slice none 0 0)) rfl ?_)
  refine G_nil ?_
  refine kC_normal ?_
  refine k_seq ?_
  refine k_reg .free hmixP (by kernel_rfl) ?_
  refine G_q rfl (op_move (av := .row 2 c_api_Pair a0) rfl ?_)
  refine G_q rfl (op_move (av := .row 2 c_api_Pair a0) rfl ?_)
  refine G_q rfl (op_len_row (by kernel_rfl) rfl ?_)
  refine G_q rfl (op_move (av := .row 2 c_api_Pair a0) rfl ?_)
  refine G_q rfl (op_len_row (by kernel_rfl) rfl ?_)
  obtain ⟨n1, h⟩ := need_some h
  refine G_q rfl (op_slice_row3 (by kernel_rfl) rfl bnd_none rfl rfl (Int.le_refl 0) n1 (Int.le_refl _) (Int.le_refl _) ?_)
  refine G_q rfl (op_assign (av := .row 2 c_api_Pair (List.take (Int.toNat (List.length a0 : Int)) a0)) rfl ?_)
  refine G_nil ?_
  refine kC_normal ?_
  refine k_ret ?_
  obtain rfl := Option.some.inj h
  refine kP_any (endN (af' := (AF.put AF0 (some 2) (.row 2 c_api_Pair (List.take (Int.toNat (List.length a0 : Int)) a0)))) (σ' := []) _ rfl ?_ ⟨rfl, rfl⟩)
  exact Sub.of_le (AF.le_put (AV.le_eq rfl) (AF.le_top _))
set_option maxHeartbeats 4000000 in
theorem m_alphabet_Relation_ok (a0 : List (Int × Int)) (r : (List (Int × Int))) (h : m_alphabet_Relation a0 = some r) : Pure Try.prog 30 [(.row 2 c_api_Pair a0)] (.row 2 c_api_Pair r) := by
  unfold m_alphabet_Relation at h
  refine Pure.ofFun (fun_of_awp Try.func30 rfl Try.ntmps30 (by simp) rfl (res1 rfl) fun E hE => k_end ?_)
  refine k_seq ?_
  refine k_reg .free hmixP (by kernel_rfl) ?_
  refine G_q rfl (op_assign (av := .exact (.slice none 0 0)) rfl ?_)
  refine G_nil ?_
  refine kC_normal ?_
  refine k_seq ?_
  refine k_reg .free hmixP (by kernel_rfl) ?_
  refine G_q rfl (op_assign (av := .exact (.slice none 0 0)) rfl ?_)
  refine G_nil ?_
  refine kC_normal ?_
  refine k_join1_1 h (fun (x3_j1 : List (Int × Int)) (v3_j1 : Value) => (AF.put AF0 (some 3) (.exact v3_j1))) (fun (x3_j1 : List (Int × Int)) (v3_j1 : Value) => [vecT Try.prog 44 2 c_api_Pair v3_j1 x3_j1]) (fun k1 h => ?_) (fun x3_j1 v3_j1 h => ?_)
  · refine k_seq ?_
    refine k_reg .free hmixP (by kernel_rfl) ?_
    refine G_q rfl (op_move (av := .row 2 c_api_Pair a0) rfl ?_)
    refine G_q rfl (op_len_row (by kernel_rfl) rfl ?_)
    refine G_q rfl (op_move (av := .exact (.int .i64 0)) rfl ?_)
    refine G_nil ?_
    refine kC_normal ?_
    refine k_block ?_
    refine k_loop2_1 (m_alphabet_Relation_L2 a0 k1) (m_alphabet_Relation_B2 a0 k1) (fun _ _ => rfl) (fun m _ _ => rfl) h (fun (x3_l2 : List (Int × Int)) (x8_l2 : Int) (v3_l2 : Value) => (AF.put (AF.put (AF.put (AF.put AF0 (some 3) (.exact v3_l2)) (some 6) (.row 2 c_api_Pair a0)) (some 7) (.exact (.int .i64 (List.length a0 : Int)))) (some 8) (.exact (.int .i64 x8_l2)))) (fun (x3_l2 : List (Int × Int)) (x8_l2 : Int) (v3_l2 : Value) => [vecT Try.prog 44 2 c_api_Pair v3_l2 x3_l2]) (.slice none 0 0) ?_ (fun rec2 x3_l2 x8_l2 v3_l2 h => ?_)
    · refine Sub.trans (SubU.to (SubU.nilT (P := Try.prog) (t := 44) (n := 2) (enc := c_api_Pair))) ?_
      exact Sub.of_le (AF.le_put (AV.le_eq rfl) (AF.le_put (AV.le_eq rfl) (AF.le_put (AV.le_eq rfl) (AF.le_put (AV.le_eq rfl) (AF.le_top _)))))
    · unfold m_alphabet_Relation_B2 at h
      refine k_seq ?_
      refine k_reg .free hmixP (by kernel_rfl) ?_
      refine G_q rfl (op_lss rfl rfl ?_)
      refine G_nil ?_
      refine kC_normal ?_
      refine k_seq ?_
      refine k_cond_d (p := x8_l2 < (List.length a0 : Int)) rfl (fun hc => ?_) (fun hc => ?_)
      · replace h := ite_t h hc
        refine k_skip ?_
        refine kC_normal ?_
        refine k_join1_1 h (fun (x3_j98 : List (Int × Int)) (v3_j98 : Value) => (AF.put (AF.put (AF.put (AF.put AF0 (some 3) (.exact v3_j98)) (some 6) (.row 2 c_api_Pair a0)) (some 7) (.exact (.int .i64 (List.length a0 : Int)))) (some 8) (.exact (.int .i64 x8_l2)))) (fun (x3_j98 : List (Int × Int)) (v3_j98 : Value) => [vecT Try.prog 44 2 c_api_Pair v3_j98 x3_j98]) (fun k98 h => ?_) (fun x3_j98 v3_j98 h => ?_)
        · refine k_block ?_
          refine k_seq ?_
          refine k_reg .free hmixP (by kernel_rfl) ?_
          obtain ⟨n108, h⟩ := need_some h
          refine G_q rfl (op_index_row (by kernel_rfl) rfl rfl n108.1 n108.2 ?_)
          refine G_q rfl (op_loadNp (m := 2) (c' := c_api_Pair (gi a0 x8_l2)) (by kernel_rfl) rfl rfl rfl ?_)
          refine G_l rfl (op_alloc (c := [.exact (.int .i64 ((0, 0).1)), .exact (.int .i64 ((0, 0).2))]) rfl (LEs.cons (AV.le_eq rfl) (LEs.cons (AV.le_eq rfl) LEs.nil)) (fun b109 => ?_))
          refine G_l rfl (op_store_box (c' := [.exact (.int .i64 ((gi a0 x8_l2).1)), .exact (.int .i64 ((gi a0 x8_l2).2))]) (c3 := [.exact (.int .i64 ((gi a0 x8_l2).1)), .exact (.int .i64 ((gi a0 x8_l2).2))]) rfl rfl CellsOf.agg (LEs.cons (AV.le_eq rfl) (LEs.cons (AV.le_eq rfl) LEs.nil)) (oc_c_api_Pair _) (by kernel_rfl) (Nat.le_of_ble_eq_true rfl) rfl ?_)
          refine G_nil ?_
          refine kC_normal ?_
          refine k_join1_0 h (fun (x19_j110 : Bool) => (AF.put (AF.put (AF.put (AF.put (AF.put (AF.put AF0 (some 3) (.exact v3_l2)) (some 5) (pA b109 0)) (some 6) (.row 2 c_api_Pair a0)) (some 7) (.exact (.int .i64 (List.length a0 : Int)))) (some 8) (.exact (.int .i64 x8_l2))) (some 19) (.exact (.bool x19_j110)))) (fun (x19_j110 : Bool) => [vecT Try.prog 44 2 c_api_Pair v3_l2 x3_l2, boxI 48 b109 [.exact (.int .i64 ((gi a0 x8_l2).1)), .exact (.int .i64 ((gi a0 x8_l2).2))]]) (fun k110 h => ?_) (fun x19_j110 h => ?_)
          · refine k_reg .free hmixP (by kernel_rfl) ?_
            refine G_q rfl (op_fieldAddr (o := 0) (by kernel_rfl) rfl ?_)
            refine G_r rfl (op_load_box1 (a := .exact (.int .i64 ((gi a0 x8_l2).1))) (by kernel_rfl) rfl rfl ?_)
            obtain ⟨y113, hy113, h⟩ := bnd1_some h
            refine G_q rfl (op_pure (m_alphabet_visible_ok _ _ hy113) Try.func51 (by kernel_rfl) (LEs.cons (AV.le_eq rfl) LEs.nil) ?_)
            refine G_q rfl (op_move (av := .exact (.bool y113)) rfl ?_)
            refine G_splitB (c := y113) 15 rfl (fun hc => ?_) (fun hc => ?_)
            · replace h := ite_t h hc
              refine Gy_q rfl rfl rfl (op_fieldAddr (o := 1) (by kernel_rfl) rfl ?_)
              refine Gy_r rfl rfl rfl (op_load_box1 (a := .exact (.int .i64 ((gi a0 x8_l2).2))) (by kernel_rfl) rfl rfl ?_)
              obtain ⟨y114, hy114, h⟩ := bnd1_some h
              refine Gy_q rfl rfl rfl (op_pure (m_alphabet_visible_ok _ _ hy114) Try.func51 (by kernel_rfl) (LEs.cons (AV.le_eq rfl) LEs.nil) ?_)
              refine G_q rfl (op_pick_t rfl (av := .exact (.bool y114)) rfl ?_)
              refine G_nil ?_
              refine kI_normal ⟨_, h, ?_⟩
              refine Sub.trans (SubU.to SubU.f1) ?_
              exact Sub.of_le (AF.le_put (AV.le_eq rfl) (AF.le_put (AV.le_eq rfl) (AF.le_put (AV.le_eq rfl) (AF.le_put (AV.le_eq rfl) (AF.le_put (AV.le_eq rfl) (AF.le_put (AV.le_eq rfl) (AF.le_top _)))))))
            · replace h := ite_f h hc
              refine G_n rfl rfl ?_
              refine G_n rfl rfl ?_
              refine G_n rfl rfl ?_
              refine G_q rfl (op_pick_f rfl (av := .exact (.bool false)) rfl ?_)
              refine G_nil ?_
              refine kI_normal ⟨_, h, ?_⟩
              refine Sub.trans (SubU.to SubU.f1) ?_
              exact Sub.of_le (AF.le_put (AV.le_eq rfl) (AF.le_put (AV.le_eq rfl) (AF.le_put (AV.le_eq rfl) (AF.le_put (AV.le_eq rfl) (AF.le_put (AV.le_eq rfl) (AF.le_put (AV.le_eq rfl) (AF.le_top _)))))))
          · refine k_cond_b (c := x19_j110) rfl (fun hc => ?_) (fun hc => ?_)
            · replace h := ite_t h hc
              refine k_reg .free hmixP (by kernel_rfl) ?_
              refine G_q rfl (op_move (av := .exact v3_l2) rfl ?_)
              refine G_r rfl (opR_f1 (op_load_boxN (m := 2) (c' := c_api_Pair ((gi a0 x8_l2).1, (gi a0 x8_l2).2)) (by kernel_rfl) rfl rfl rfl ?_))
              refine G_q rfl (op_litT (n := 2) (enc := c_api_Pair) [((gi a0 x8_l2).1, (gi a0 x8_l2).2)] (CellsAll.cons rfl CellsOf.agg CellsAll.nil) rfl (by kernel_rfl) (LEss.cons (LEs.cons (AV.le_eq rfl) (LEs.cons (AV.le_eq rfl) LEs.nil)) LEss.nil) ?_)
              obtain ⟨n115, h⟩ := need_some h
              refine G_l rfl (op_appT (by kernel_rfl) rfl rfl oc_c_api_Pair n115 (fun v116 => ?_))
              refine G_q rfl (op_assign (av := .exact v116) rfl ?_)
              refine G_nil ?_
              refine kB_normal ?_
              refine kI_normal ⟨_, v116, h, ?_⟩
              refine Sub.trans (SubU.to SubU.f1) ?_
              refine Sub.trans (SubU.to SubU.drop) ?_
              exact Sub.of_le (AF.le_put (AV.le_eq rfl) (AF.le_put (AV.le_eq rfl) (AF.le_put (AV.le_eq rfl) (AF.le_put (AV.le_eq rfl) (AF.le_top _)))))
            · replace h := ite_f h hc
              refine k_skip ?_
              refine kB_normal ?_
              refine kI_normal ⟨_, v3_l2, h, ?_⟩
              refine Sub.trans (SubU.to SubU.f1) ?_
              refine Sub.trans (SubU.to SubU.drop) ?_
              exact Sub.of_le (AF.le_put (AV.le_eq rfl) (AF.le_put (AV.le_eq rfl) (AF.le_put (AV.le_eq rfl) (AF.le_put (AV.le_eq rfl) (AF.le_top _)))))
        · refine k_reg .free hmixP (by kernel_rfl) ?_
          refine G_q rfl (op_add rfl rfl rfl ?_)
          refine G_q rfl (op_move (av := .exact (.int .i64 (i64 (x8_l2 + 1)))) rfl ?_)
          refine G_nil ?_
          refine kI_normal ⟨_, _, v3_j98, h, ?_⟩
          exact Sub.of_le (AF.le_put (AV.le_eq rfl) (AF.le_put (AV.le_eq rfl) (AF.le_put (AV.le_eq rfl) (AF.le_put (AV.le_eq rfl) (AF.le_top _)))))
      · replace h := ite_f h hc
        refine k_exit ?_
        refine kC_exit ?_
        refine kI_exit ?_
        refine kB_exit ?_
        refine kI_normal ⟨_, v3_l2, h, ?_⟩
        exact Sub.of_le (AF.le_put (AV.le_eq rfl) (AF.le_top _))
  · refine k_seq ?_
    refine k_reg .free hmixP (by kernel_rfl) ?_
    refine G_q rfl (op_move (av := .exact v3_j1) rfl ?_)
    obtain ⟨y117, hy117, h⟩ := bnd1_some h
    refine G_l rfl (op_fun_1_0_1 (m_sort_api_Pair_ok m_alphabet_comparePairs_ok _ _ hy117) Try.func66 (by kernel_rfl) (LEs.cons (AV.le_eq rfl) (LEs.cons (AV.le_eq rfl) LEs.nil)) ?_)
    refine G_nil ?_
    refine kC_normal ?_
    refine k_seq ?_
    refine k_reg .free hmixP (by kernel_rfl) ?_
    refine G_q rfl (op_move (av := .exact v3_j1) rfl ?_)
    obtain ⟨y118, hy118, h⟩ := bnd1_some h
    refine G_l rfl (op_fun_1_0_0 (m_slices_Compact_L_api_Pair_api_Pair_ok _ _ hy118) Try.func69 (by kernel_rfl) (LEs.cons (AV.le_eq rfl) LEs.nil) ?_)
    obtain ⟨y119, hy119, h⟩ := bnd1_some h
    refine G_q rfl (op_pure (m_slices_Clip_L_api_Pair_api_Pair_ok _ _ hy119) Try.func68 (by kernel_rfl) (LEs.cons (AV.le_eq rfl) LEs.nil) ?_)
    refine G_q rfl (op_assign (av := .row 2 c_api_Pair y119) rfl ?_)
    refine G_nil ?_
    refine kC_normal ?_
    refine k_ret ?_
    obtain rfl := Option.some.inj h
    refine kP_any (endN (af' := (AF.put AF0 (some 2) (.row 2 c_api_Pair y119))) (σ' := []) _ rfl ?_ ⟨rfl, rfl⟩)
    exact Sub.of_le (AF.le_put (AV.le_eq rfl) (AF.le_top _))
set_option maxHeartbeats 4000000 in
theorem m_alphabet_Image_ok (a0 : List (Int × Int)) (a1 : Int) (r : (List Int)) (h : m_alphabet_Image a0 a1 = some r) : Pure Try.prog 32 [(.row 2 c_api_Pair a0), (.exact (.int .i64 a1))] (.row 1 c_int r) := by
  unfold m_alphabet_Image at h
  refine Pure.ofFun (fun_of_awp Try.func32 rfl Try.ntmps32 (by simp) rfl (res1 rfl) fun E hE => k_end ?_)
  refine k_seq ?_
  refine k_reg .free hmixP (by kernel_rfl) ?_
  refine G_q rfl (op_assign (av := .exact (.slice none 0 0)) rfl ?_)
  refine G_nil ?_
  refine kC_normal ?_
  refine k_seq ?_
  refine k_reg .free hmixP (by kernel_rfl) ?_
  refine G_q rfl (op_assign (av := .exact (.slice none 0 0)) rfl ?_)
  refine G_nil ?_
  refine kC_normal ?_
  refine k_join1_1 h (fun (x5_j1 : List Int) (v5_j1 : Value) => (AF.put (AF.put AF0 (some 1) (.exact (.int .i64 a1))) (some 5) (.exact v5_j1))) (fun (x5_j1 : List Int) (v5_j1 : Value) => [vecT Try.prog 23 1 c_int v5_j1 x5_j1]) (fun k1 h => ?_) (fun x5_j1 v5_j1 h => ?_)
  · refine k_seq ?_
    refine k_reg .free hmixP (by kernel_rfl) ?_
    refine G_q rfl (op_move (av := .row 2 c_api_Pair a0) rfl ?_)
    obtain ⟨y31, hy31, h⟩ := bnd1_some h
    refine G_q rfl (op_pure (m_alphabet_Relation_ok _ _ hy31) Try.func30 (by kernel_rfl) (LEs.cons (AV.le_eq rfl) LEs.nil) ?_)
    refine G_q rfl (op_len_row (by kernel_rfl) rfl ?_)
    refine G_q rfl (op_move (av := .exact (.int .i64 0)) rfl ?_)
    refine G_nil ?_
    refine kC_normal ?_
    refine k_block ?_
    refine k_loop2_1 (m_alphabet_Image_L2 a1 k1 y31) (m_alphabet_Image_B2 a1 k1 y31) (fun _ _ => rfl) (fun m _ _ => rfl) h (fun (x5_l2 : List Int) (x11_l2 : Int) (v5_l2 : Value) => (AF.put (AF.put (AF.put (AF.put (AF.put AF0 (some 1) (.exact (.int .i64 a1))) (some 5) (.exact v5_l2)) (some 9) (.row 2 c_api_Pair y31)) (some 10) (.exact (.int .i64 (List.length y31 : Int)))) (some 11) (.exact (.int .i64 x11_l2)))) (fun (x5_l2 : List Int) (x11_l2 : Int) (v5_l2 : Value) => [vecT Try.prog 23 1 c_int v5_l2 x5_l2]) (.slice none 0 0) ?_ (fun rec2 x5_l2 x11_l2 v5_l2 h => ?_)
    · refine Sub.trans (SubU.to (SubU.nilT (P := Try.prog) (t := 23) (n := 1) (enc := c_int))) ?_
      exact Sub.of_le (AF.le_put (AV.le_eq rfl) (AF.le_put (AV.le_eq rfl) (AF.le_put (AV.le_eq rfl) (AF.le_put (AV.le_eq rfl) (AF.le_put (AV.le_eq rfl) (AF.le_top _))))))
    · unfold m_alphabet_Image_B2 at h
      refine k_seq ?_
      refine k_reg .free hmixP (by kernel_rfl) ?_
      refine G_q rfl (op_lss rfl rfl ?_)
      refine G_nil ?_
      refine kC_normal ?_
      refine k_seq ?_
      refine k_cond_d (p := x11_l2 < (List.length y31 : Int)) rfl (fun hc => ?_) (fun hc => ?_)
      · replace h := ite_t h hc
        refine k_skip ?_
        refine kC_normal ?_
        refine k_join1_1 h (fun (x5_j50 : List Int) (v5_j50 : Value) => (AF.put (AF.put (AF.put (AF.put (AF.put AF0 (some 1) (.exact (.int .i64 a1))) (some 5) (.exact v5_j50)) (some 9) (.row 2 c_api_Pair y31)) (some 10) (.exact (.int .i64 (List.length y31 : Int)))) (some 11) (.exact (.int .i64 x11_l2)))) (fun (x5_j50 : List Int) (v5_j50 : Value) => [vecT Try.prog 23 1 c_int v5_j50 x5_j50]) (fun k50 h => ?_) (fun x5_j50 v5_j50 h => ?_)
        · refine k_block ?_
          refine k_seq ?_
          refine k_reg .free hmixP (by kernel_rfl) ?_
          obtain ⟨n55, h⟩ := need_some h
          refine G_q rfl (op_index_row (by kernel_rfl) rfl rfl n55.1 n55.2 ?_)
          refine G_q rfl (op_loadNp (m := 2) (c' := c_api_Pair (gi y31 x11_l2)) (by kernel_rfl) rfl rfl rfl ?_)
          refine G_l rfl (op_alloc (c := [.exact (.int .i64 ((0, 0).1)), .exact (.int .i64 ((0, 0).2))]) rfl (LEs.cons (AV.le_eq rfl) (LEs.cons (AV.le_eq rfl) LEs.nil)) (fun b56 => ?_))
          refine G_l rfl (op_store_box (c' := [.exact (.int .i64 ((gi y31 x11_l2).1)), .exact (.int .i64 ((gi y31 x11_l2).2))]) (c3 := [.exact (.int .i64 ((gi y31 x11_l2).1)), .exact (.int .i64 ((gi y31 x11_l2).2))]) rfl rfl CellsOf.agg (LEs.cons (AV.le_eq rfl) (LEs.cons (AV.le_eq rfl) LEs.nil)) (oc_c_api_Pair _) (by kernel_rfl) (Nat.le_of_ble_eq_true rfl) rfl ?_)
          refine G_nil ?_
          refine kC_normal ?_
          refine k_seq ?_
          refine k_reg .free hmixP (by kernel_rfl) ?_
          refine G_q rfl (op_fieldAddr (o := 0) (by kernel_rfl) rfl ?_)
          refine G_r rfl (op_load_box1 (a := .exact (.int .i64 ((gi y31 x11_l2).1))) (by kernel_rfl) rfl rfl ?_)
          refine G_q rfl (op_move (av := .exact (.int .i64 a1)) rfl ?_)
          refine G_q rfl (op_eql rfl rfl ?_)
          refine G_nil ?_
          refine kC_normal ?_
          refine k_cond_d (p := ((gi y31 x11_l2).1) = a1) rfl (fun hc => ?_) (fun hc => ?_)
          · replace h := ite_t h hc
            refine k_reg .free hmixP (by kernel_rfl) ?_
            refine G_q rfl (op_move (av := .exact v5_l2) rfl ?_)
            refine G_q rfl (op_fieldAddr (o := 1) (by kernel_rfl) rfl ?_)
            refine G_r rfl (op_load_box1 (a := .exact (.int .i64 ((gi y31 x11_l2).2))) (by kernel_rfl) rfl rfl ?_)
            refine G_q rfl (op_litT (n := 1) (enc := c_int) [(gi y31 x11_l2).2] (CellsAll.cons rfl CellsOf.int CellsAll.nil) rfl (by kernel_rfl) (LEss.cons (LEs.cons (AV.le_eq rfl) LEs.nil) LEss.nil) ?_)
            obtain ⟨n57, h⟩ := need_some h
            refine G_l rfl (opB_f1 (op_appT (by kernel_rfl) rfl rfl oc_c_int n57 (fun v58 => ?_)))
            refine G_q rfl (op_assign (av := .exact v58) rfl ?_)
            refine G_nil ?_
            refine kB_normal ?_
            refine kI_normal ⟨_, v58, h, ?_⟩
            refine Sub.trans (SubU.to SubU.f1) ?_
            refine Sub.trans (SubU.to SubU.drop) ?_
            exact Sub.of_le (AF.le_put (AV.le_eq rfl) (AF.le_put (AV.le_eq rfl) (AF.le_put (AV.le_eq rfl) (AF.le_put (AV.le_eq rfl) (AF.le_put (AV.le_eq rfl) (AF.le_top _))))))
          · replace h := ite_f h hc
            refine k_skip ?_
            refine kB_normal ?_
            refine kI_normal ⟨_, v5_l2, h, ?_⟩
            refine Sub.trans (SubU.to SubU.drop) ?_
            exact Sub.of_le (AF.le_put (AV.le_eq rfl) (AF.le_put (AV.le_eq rfl) (AF.le_put (AV.le_eq rfl) (AF.le_put (AV.le_eq rfl) (AF.le_put (AV.le_eq rfl) (AF.le_top _))))))
        · refine k_reg .free hmixP (by kernel_rfl) ?_
          refine G_q rfl (op_add rfl rfl rfl ?_)
          refine G_q rfl (op_move (av := .exact (.int .i64 (i64 (x11_l2 + 1)))) rfl ?_)
          refine G_nil ?_
          refine kI_normal ⟨_, _, v5_j50, h, ?_⟩
          exact Sub.of_le (AF.le_put (AV.le_eq rfl) (AF.le_put (AV.le_eq rfl) (AF.le_put (AV.le_eq rfl) (AF.le_put (AV.le_eq rfl) (AF.le_put (AV.le_eq rfl) (AF.le_top _))))))
      · replace h := ite_f h hc
        refine k_exit ?_
        refine kC_exit ?_
        refine kI_exit ?_
        refine kB_exit ?_
        refine kI_normal ⟨_, v5_l2, h, ?_⟩
        exact Sub.of_le (AF.le_put (AV.le_eq rfl) (AF.le_put (AV.le_eq rfl) (AF.le_top _)))
  · refine k_seq ?_
    refine k_seq ?_
    refine k_reg .free hmixP (by kernel_rfl) ?_
    refine G_q rfl (op_move (av := .exact v5_j1) rfl ?_)
    refine G_r rfl (op_len_vec (by kernel_rfl) rfl ?_)
    refine G_q rfl (op_eql rfl rfl ?_)
    refine G_nil ?_
    refine kC_normal ?_
    refine k_cond_d (p := (List.length x5_j1 : Int) = 0) rfl (fun hc => ?_) (fun hc => ?_)
    · replace h := ite_t h hc
      refine k_seq ?_
      refine k_reg .free hmixP (by kernel_rfl) ?_
      refine G_q rfl (op_move (av := .exact (.int .i64 a1)) rfl ?_)
      refine G_q rfl (op_litT (n := 1) (enc := c_int) [a1] (CellsAll.cons rfl CellsOf.int CellsAll.nil) rfl (by kernel_rfl) (LEss.cons (LEs.cons (AV.le_eq rfl) LEs.nil) LEss.nil) ?_)
      refine G_q rfl (op_assign (av := .row 1 c_int [a1]) rfl ?_)
      refine G_nil ?_
      refine kC_normal ?_
      refine k_ret ?_
      refine kC_ret ?_
      obtain rfl := Option.some.inj h
      refine kP_any (endN (af' := (AF.put AF0 (some 4) (.row 1 c_int [a1]))) (σ' := []) _ rfl ?_ ⟨rfl, rfl⟩)
      refine Sub.trans (SubU.to SubU.drop) ?_
      exact Sub.of_le (AF.le_put (AV.le_eq rfl) (AF.le_top _))
    · replace h := ite_f h hc
      refine k_skip ?_
      refine kC_normal ?_
      refine k_seq ?_
      refine k_reg .free hmixP (by kernel_rfl) ?_
      refine G_q rfl (op_move (av := .exact v5_j1) rfl ?_)
      refine G_sub rfl (SubU.freezeT3 (s1 := 5) (s2 := 25) (s3 := 30) rfl rfl rfl len_c_int) ?_
      obtain ⟨y59, hy59, h⟩ := bnd1_some h
      refine G_q rfl (op_pure (m_slices_Clip_L_int_int_ok _ _ hy59) Try.func64 (by kernel_rfl) (LEs.cons (AV.le_eq rfl) LEs.nil) ?_)
      refine G_q rfl (op_assign (av := .row 1 c_int y59) rfl ?_)
      refine G_nil ?_
      refine kC_normal ?_
      refine k_ret ?_
      obtain rfl := Option.some.inj h
      refine kP_any (endN (af' := (AF.put AF0 (some 4) (.row 1 c_int y59))) (σ' := []) _ rfl ?_ ⟨rfl, rfl⟩)
      exact Sub.of_le (AF.le_put (AV.le_eq rfl) (AF.le_top _))
set_option maxHeartbeats 4000000 in
theorem m_law15_awake_ok  (r : Bool) (h : m_law15_awake = some r) : Pure Try.prog 23 [] (.exact (.bool r)) := by
  unfold m_law15_awake at h
  refine Pure.ofFun (fun_of_awp Try.func23 rfl Try.ntmps23 (by simp) rfl (res1 rfl) fun E hE => k_end ?_)
  refine k_seq ?_
  refine k_reg .free hmixP (by kernel_rfl) ?_
  refine G_q rfl (op_assign (av := .exact (.bool false)) rfl ?_)
  refine G_nil ?_
  refine kC_normal ?_
  refine k_seq ?_
  refine k_reg .free hmixP (by kernel_rfl) ?_
  refine G_q rfl (op_bld (c' := c_api_Pair (2, 3)) (CellsAll.cons rfl CellsOf.int (CellsAll.cons rfl CellsOf.int CellsAll.nil)) rfl (LEs.cons (AV.le_eq rfl) (LEs.cons (AV.le_eq rfl) LEs.nil)) ?_)
  refine G_q rfl (op_bld (c' := c_api_Pair (2, 5)) (CellsAll.cons rfl CellsOf.int (CellsAll.cons rfl CellsOf.int CellsAll.nil)) rfl (LEs.cons (AV.le_eq rfl) (LEs.cons (AV.le_eq rfl) LEs.nil)) ?_)
  refine G_q rfl (op_litT (n := 2) (enc := c_api_Pair) [(2, 3), (2, 5)] (CellsAll.cons rfl CellsOf.agg (CellsAll.cons rfl CellsOf.agg CellsAll.nil)) rfl (by kernel_rfl) (LEss.cons (LEs.cons (AV.le_eq rfl) (LEs.cons (AV.le_eq rfl) LEs.nil)) (LEss.cons (LEs.cons (AV.le_eq rfl) (LEs.cons (AV.le_eq rfl) LEs.nil)) LEss.nil)) ?_)
  refine G_q rfl (op_assign (av := .row 2 c_api_Pair [(2, 3), (2, 5)]) rfl ?_)
  refine G_nil ?_
  refine kC_normal ?_
  refine k_seq ?_
  refine k_reg .free hmixP (by kernel_rfl) ?_
  refine G_q rfl (op_bld (c' := c_api_Above (3, 4)) (CellsAll.cons rfl CellsOf.int (CellsAll.cons rfl CellsOf.int CellsAll.nil)) rfl (LEs.cons (AV.le_eq rfl) (LEs.cons (AV.le_eq rfl) LEs.nil)) ?_)
  refine G_q rfl (op_bld (c' := c_api_Above (2, 3)) (CellsAll.cons rfl CellsOf.int (CellsAll.cons rfl CellsOf.int CellsAll.nil)) rfl (LEs.cons (AV.le_eq rfl) (LEs.cons (AV.le_eq rfl) LEs.nil)) ?_)
  refine G_q rfl (op_litT (n := 2) (enc := c_api_Above) [(3, 4), (2, 3)] (CellsAll.cons rfl CellsOf.agg (CellsAll.cons rfl CellsOf.agg CellsAll.nil)) rfl (by kernel_rfl) (LEss.cons (LEs.cons (AV.le_eq rfl) (LEs.cons (AV.le_eq rfl) LEs.nil)) (LEss.cons (LEs.cons (AV.le_eq rfl) (LEs.cons (AV.le_eq rfl) LEs.nil)) LEss.nil)) ?_)
  obtain ⟨y1, hy1, h⟩ := bnd1_some h
  refine G_q rfl (op_pure (m_close_ok _ _ hy1) Try.func13 (by kernel_rfl) (LEs.cons (AV.le_eq rfl) LEs.nil) ?_)
  refine G_q rfl (op_move (av := .tup [.row 2 c_api_Above y1.1, .exact (.int .i64 y1.2)]) rfl ?_)
  refine G_q rfl (op_extract (av := .row 2 c_api_Above y1.1) rfl rfl ?_)
  refine G_q rfl (op_extract (av := .exact (.int .i64 y1.2)) rfl rfl ?_)
  refine G_q rfl (op_assign (av := .row 2 c_api_Above y1.1) rfl ?_)
  refine G_q rfl (op_assign (av := .exact (.int .i64 y1.2)) rfl ?_)
  refine G_nil ?_
  refine kC_normal ?_
  refine k_join1_0 h (fun (x0_j2 : Bool) => (AF.put AF0 (some 0) (.exact (.bool x0_j2)))) (fun (x0_j2 : Bool) => []) (fun k2 h => ?_) (fun x0_j2 h => ?_)
  · refine k_reg .free hmixP (by kernel_rfl) ?_
    refine G_q rfl (op_move (av := .row 2 c_api_Pair [(2, 3), (2, 5)]) rfl ?_)
    obtain ⟨y9, hy9, h⟩ := bnd1_some h
    refine G_q rfl (op_pure (m_alphabet_Image_ok _ _ _ hy9) Try.func32 (by kernel_rfl) (LEs.cons (AV.le_eq rfl) (LEs.cons (AV.le_eq rfl) LEs.nil)) ?_)
    refine G_q rfl (op_litT (n := 1) (enc := c_int) [3, 5] (CellsAll.cons rfl CellsOf.int (CellsAll.cons rfl CellsOf.int CellsAll.nil)) rfl (by kernel_rfl) (LEss.cons (LEs.cons (AV.le_eq rfl) LEs.nil) (LEss.cons (LEs.cons (AV.le_eq rfl) LEs.nil) LEss.nil)) ?_)
    obtain ⟨y10, hy10, h⟩ := bnd1_some h
    refine G_q rfl (op_pure (m_help_Equal_int_ok _ _ _ hy10) Try.func18 (by kernel_rfl) (LEs.cons (AV.le_eq rfl) (LEs.cons (AV.le_eq rfl) LEs.nil)) ?_)
    refine G_q rfl (op_move (av := .exact (.bool y10)) rfl ?_)
    refine G_splitB (c := y10) 18 rfl (fun hc => ?_) (fun hc => ?_)
    · replace h := ite_t h hc
      refine Gy_q rfl rfl rfl (op_move (av := .row 2 c_api_Pair [(2, 3), (2, 5)]) rfl ?_)
      obtain ⟨y11, hy11, h⟩ := bnd1_some h
      refine Gy_q rfl rfl rfl (op_pure (m_alphabet_Image_ok _ _ _ hy11) Try.func32 (by kernel_rfl) (LEs.cons (AV.le_eq rfl) (LEs.cons (AV.le_eq rfl) LEs.nil)) ?_)
      refine Gy_q rfl rfl rfl (op_litT (n := 1) (enc := c_int) [4] (CellsAll.cons rfl CellsOf.int CellsAll.nil) rfl (by kernel_rfl) (LEss.cons (LEs.cons (AV.le_eq rfl) LEs.nil) LEss.nil) ?_)
      obtain ⟨y12, hy12, h⟩ := bnd1_some h
      refine Gy_q rfl rfl rfl (op_pure (m_help_Equal_int_ok _ _ _ hy12) Try.func18 (by kernel_rfl) (LEs.cons (AV.le_eq rfl) (LEs.cons (AV.le_eq rfl) LEs.nil)) ?_)
      refine G_q rfl (op_pick_t rfl (av := .exact (.bool y12)) rfl ?_)
      refine G_q rfl (op_move (av := .exact (.bool y12)) rfl ?_)
      refine G_splitB (c := y12) 24 rfl (fun hc => ?_) (fun hc => ?_)
      · replace h := ite_t h hc
        refine Gy_q rfl rfl rfl (op_move (av := .exact (.int .i64 y1.2)) rfl ?_)
        refine Gy_q rfl rfl rfl (op_eql rfl rfl ?_)
        refine G_q rfl (op_pick_t rfl (av := .exact (.bool (decide (y1.2 = 0)))) rfl ?_)
        refine G_q rfl (op_move (av := .exact (.bool (decide (y1.2 = 0)))) rfl ?_)
        refine G_split (p := y1.2 = 0) 28 rfl (fun hc => ?_) (fun hc => ?_)
        · replace h := ite_t h hc
          refine Gy_q rfl rfl rfl (op_move (av := .row 2 c_api_Above y1.1) rfl ?_)
          refine Gy_q rfl rfl rfl (op_len_row (by kernel_rfl) rfl ?_)
          refine Gy_q rfl rfl rfl (op_eql rfl rfl ?_)
          refine G_q rfl (op_pick_t rfl (av := .exact (.bool (decide ((List.length y1.1 : Int) = 3)))) rfl ?_)
          refine G_q rfl (op_move (av := .exact (.bool (decide ((List.length y1.1 : Int) = 3)))) rfl ?_)
          refine G_split (p := (List.length y1.1 : Int) = 3) 33 rfl (fun hc => ?_) (fun hc => ?_)
          · replace h := ite_t h hc
            refine Gy_q rfl rfl rfl (op_move (av := .row 2 c_api_Above y1.1) rfl ?_)
            refine Gy_q rfl rfl rfl (op_litT (n := 1) (enc := c_int) [0, 2, 5] (CellsAll.cons rfl CellsOf.int (CellsAll.cons rfl CellsOf.int (CellsAll.cons rfl CellsOf.int CellsAll.nil))) rfl (by kernel_rfl) (LEss.cons (LEs.cons (AV.le_eq rfl) LEs.nil) (LEss.cons (LEs.cons (AV.le_eq rfl) LEs.nil) (LEss.cons (LEs.cons (AV.le_eq rfl) LEs.nil) LEss.nil))) ?_)
            obtain ⟨y13, hy13, h⟩ := bnd1_some h
            refine Gy_q rfl rfl rfl (op_pure (m_alphabet_Keep_ok _ _ _ hy13) Try.func19 (by kernel_rfl) (LEs.cons (AV.le_eq rfl) (LEs.cons (AV.le_eq rfl) LEs.nil)) ?_)
            refine Gy_q rfl rfl rfl (op_litT (n := 1) (enc := c_int) [0, 5] (CellsAll.cons rfl CellsOf.int (CellsAll.cons rfl CellsOf.int CellsAll.nil)) rfl (by kernel_rfl) (LEss.cons (LEs.cons (AV.le_eq rfl) LEs.nil) (LEss.cons (LEs.cons (AV.le_eq rfl) LEs.nil) LEss.nil)) ?_)
            obtain ⟨y14, hy14, h⟩ := bnd1_some h
            refine Gy_q rfl rfl rfl (op_pure (m_help_Equal_int_ok _ _ _ hy14) Try.func18 (by kernel_rfl) (LEs.cons (AV.le_eq rfl) (LEs.cons (AV.le_eq rfl) LEs.nil)) ?_)
            refine G_q rfl (op_pick_t rfl (av := .exact (.bool y14)) rfl ?_)
            refine G_q rfl (op_assign (av := .exact (.bool y14)) rfl ?_)
            refine G_nil ?_
            refine kI_normal ⟨_, h, ?_⟩
            exact Sub.of_le (AF.le_put (AV.le_eq rfl) (AF.le_top _))
          · replace h := ite_f h hc
            refine G_n rfl rfl ?_
            refine G_n rfl rfl ?_
            refine G_n rfl rfl ?_
            refine G_n rfl rfl ?_
            refine G_n rfl rfl ?_
            refine G_q rfl (op_pick_f rfl (av := .exact (.bool false)) rfl ?_)
            refine G_q rfl (op_assign (av := .exact (.bool false)) rfl ?_)
            refine G_nil ?_
            refine kI_normal ⟨_, h, ?_⟩
            exact Sub.of_le (AF.le_put (AV.le_eq rfl) (AF.le_top _))
        · replace h := ite_f h hc
          refine G_n rfl rfl ?_
          refine G_n rfl rfl ?_
          refine G_n rfl rfl ?_
          refine G_q rfl (op_pick_f rfl (av := .exact (.bool false)) rfl ?_)
          refine G_q rfl (op_move (av := .exact (.bool false)) rfl ?_)
          refine G_n rfl rfl ?_
          refine G_n rfl rfl ?_
          refine G_n rfl rfl ?_
          refine G_n rfl rfl ?_
          refine G_n rfl rfl ?_
          refine G_q rfl (op_pick_f rfl (av := .exact (.bool false)) rfl ?_)
          refine G_q rfl (op_assign (av := .exact (.bool false)) rfl ?_)
          refine G_nil ?_
          refine kI_normal ⟨_, h, ?_⟩
          exact Sub.of_le (AF.le_put (AV.le_eq rfl) (AF.le_top _))
      · replace h := ite_f h hc
        refine G_n rfl rfl ?_
        refine G_n rfl rfl ?_
        refine G_q rfl (op_pick_f rfl (av := .exact (.bool false)) rfl ?_)
        refine G_q rfl (op_move (av := .exact (.bool false)) rfl ?_)
        refine G_n rfl rfl ?_
        refine G_n rfl rfl ?_
        refine G_n rfl rfl ?_
        refine G_q rfl (op_pick_f rfl (av := .exact (.bool false)) rfl ?_)
        refine G_q rfl (op_move (av := .exact (.bool false)) rfl ?_)
        refine G_n rfl rfl ?_
        refine G_n rfl rfl ?_
        refine G_n rfl rfl ?_
        refine G_n rfl rfl ?_
        refine G_n rfl rfl ?_
        refine G_q rfl (op_pick_f rfl (av := .exact (.bool false)) rfl ?_)
        refine G_q rfl (op_assign (av := .exact (.bool false)) rfl ?_)
        refine G_nil ?_
        refine kI_normal ⟨_, h, ?_⟩
        exact Sub.of_le (AF.le_put (AV.le_eq rfl) (AF.le_top _))
    · replace h := ite_f h hc
      refine G_n rfl rfl ?_
      refine G_n rfl rfl ?_
      refine G_n rfl rfl ?_
      refine G_n rfl rfl ?_
      refine G_q rfl (op_pick_f rfl (av := .exact (.bool false)) rfl ?_)
      refine G_q rfl (op_move (av := .exact (.bool false)) rfl ?_)
      refine G_n rfl rfl ?_
      refine G_n rfl rfl ?_
      refine G_q rfl (op_pick_f rfl (av := .exact (.bool false)) rfl ?_)
      refine G_q rfl (op_move (av := .exact (.bool false)) rfl ?_)
      refine G_n rfl rfl ?_
      refine G_n rfl rfl ?_
      refine G_n rfl rfl ?_
      refine G_q rfl (op_pick_f rfl (av := .exact (.bool false)) rfl ?_)
      refine G_q rfl (op_move (av := .exact (.bool false)) rfl ?_)
      refine G_n rfl rfl ?_
      refine G_n rfl rfl ?_
      refine G_n rfl rfl ?_
      refine G_n rfl rfl ?_
      refine G_n rfl rfl ?_
      refine G_q rfl (op_pick_f rfl (av := .exact (.bool false)) rfl ?_)
      refine G_q rfl (op_assign (av := .exact (.bool false)) rfl ?_)
      refine G_nil ?_
      refine kI_normal ⟨_, h, ?_⟩
      exact Sub.of_le (AF.le_put (AV.le_eq rfl) (AF.le_top _))
  · refine k_ret ?_
    obtain rfl := Option.some.inj h
    refine kP_any (endN (af' := (AF.put AF0 (some 0) (.exact (.bool x0_j2)))) (σ' := []) _ rfl ?_ ⟨rfl, rfl⟩)
    exact Sub.of_le (AF.le_put (AV.le_eq rfl) (AF.le_top _))
end Go.Proofs.Ytkbbeeeoogjknaa
/- The functions compute their models, by program. -/
namespace Go.Proofs.Ytkbbeeeoogjknaa
open Go.RowKit
attribute [local irreducible] AV.exact AV.top AV.row AV.ptr AV.agg AV.tup AV.eptr AV.fn AV.nilq AV.nilqn opA opB opM opR Quiet Loud Reads wpG awp den Sub SubU Pure Fun vecI vecT boxI CellsAll CellsOf OneC LEs LEss
set_option maxRecDepth 100000

set_option maxHeartbeats 4000000 in
theorem m_help_Has_api_Above_ok (a0 : List (Int × Int)) (a1 : Int × Int) (r : Bool) (h : m_help_Has_api_Above a0 a1 = some r) : Pure Try.prog 24 [(.row 2 c_api_Above a0), (.agg (c_api_Above a1))] (.exact (.bool r)) := by
  unfold m_help_Has_api_Above at h
  refine Pure.ofFun (fun_of_awp Try.func24 rfl Try.ntmps24 (by simp) rfl (res1 rfl) fun E hE => k_end ?_)
  refine k_seq ?_
  refine k_reg .free hmixP (by kernel_rfl) ?_
  refine G_q rfl (op_box (c := c_api_Above a1) rfl CellsOf.agg ?_)
  refine G_q rfl (op_assign (av := .exact (.bool false)) rfl ?_)
  refine G_nil ?_
  refine kC_normal ?_
  refine k_join0_0 h (AF0) ([]) (fun k1 h => ?_) (fun  h => ?_)
  · refine k_seq ?_
    refine k_reg .free hmixP (by kernel_rfl) ?_
    refine G_q rfl (op_assign (av := .exact (.int .i64 0)) rfl ?_)
    refine G_nil ?_
    refine kC_normal ?_
    refine k_block ?_
    refine k_loop1_0 (m_help_Has_api_Above_L2 a0 a1 k1) (m_help_Has_api_Above_B2 a0 a1 k1) (fun _ => rfl) (fun m _ => rfl) h (fun (x5_l2 : Int) => (AF.put (AF.put (AF.put AF0 (some 0) (.row 2 c_api_Above a0)) (some 3) (.ptr (c_api_Above a1))) (some 5) (.exact (.int .i64 x5_l2)))) (fun (x5_l2 : Int) => []) ?_ (fun rec2 x5_l2 h => ?_)
    · exact Sub.of_le (AF.le_put (AV.le_eq rfl) (AF.le_put (AV.le_eq rfl) (AF.le_put (AV.le_eq rfl) (AF.le_top _))))
    · unfold m_help_Has_api_Above_B2 at h
      refine k_seq ?_
      refine k_seq ?_
      refine k_reg .free hmixP (by kernel_rfl) ?_
      refine G_q rfl (op_move (av := .exact (.int .i64 x5_l2)) rfl ?_)
      refine G_q rfl (op_move (av := .row 2 c_api_Above a0) rfl ?_)
      refine G_q rfl (op_len_row (by kernel_rfl) rfl ?_)
      refine G_q rfl (op_lss rfl rfl ?_)
      refine G_nil ?_
      refine kC_normal ?_
      refine k_cond_d (p := x5_l2 < (List.length a0 : Int)) rfl (fun hc => ?_) (fun hc => ?_)
      · replace h := ite_t h hc
        refine k_skip ?_
        refine kC_normal ?_
        refine k_seq ?_
        refine k_block ?_
        refine k_seq ?_
        refine k_plan [] [(0, 0), (0, 1), (0, 2), (0, 3), (0, 4), (0, 5)] hmixP (by kernel_rfl) ?_
        refine P_q no34_0 rfl (op_move (av := .row 2 c_api_Above a0) rfl ?_)
        refine P_q no34_0 rfl (op_move (av := .exact (.int .i64 x5_l2)) rfl ?_)
        obtain ⟨n8, h⟩ := need_some h
        refine P_q no34_0 rfl (op_index_row (by kernel_rfl) rfl rfl n8.1 n8.2 ?_)
        refine P_q no34_0 rfl (op_loadNp (m := 2) (c' := c_api_Above (gi a0 x5_l2)) (by kernel_rfl) rfl rfl rfl ?_)
        refine P_q no34_0 rfl (op_loadNp (m := 2) (c' := c_api_Above a1) (by kernel_rfl) rfl rfl rfl ?_)
        refine P_q no34_0 rfl (op_eqlA (a := (gi a0 x5_l2)) (b := a1) (by kernel_rfl) (eq_c_api_Above _ _) rfl rfl ?_)
        refine P_nil ?_
        refine kC_normal ?_
        refine k_cond_d (p := (gi a0 x5_l2) = a1) rfl (fun hc => ?_) (fun hc => ?_)
        · replace h := ite_t h hc
          refine k_seq ?_
          refine k_reg .free hmixP (by kernel_rfl) ?_
          refine G_q rfl (op_assign (av := .exact (.bool true)) rfl ?_)
          refine G_nil ?_
          refine kC_normal ?_
          refine k_ret ?_
          refine kB_ret ?_
          refine kC_ret ?_
          refine kI_ret ?_
          refine kB_ret ?_
          refine kI_ret ?_
          obtain rfl := Option.some.inj h
          refine kP_any (endN (af' := (AF.put AF0 (some 4) (.exact (.bool true)))) (σ' := []) _ rfl ?_ ⟨rfl, rfl⟩)
          exact Sub.of_le (AF.le_put (AV.le_eq rfl) (AF.le_top _))
        · replace h := ite_f h hc
          refine k_skip ?_
          refine kB_normal ?_
          refine kC_normal ?_
          refine k_reg .free hmixP (by kernel_rfl) ?_
          refine G_q rfl (op_move (av := .exact (.int .i64 x5_l2)) rfl ?_)
          refine G_q rfl (op_add rfl rfl rfl ?_)
          refine G_q rfl (op_assign (av := .exact (.int .i64 (i64 (x5_l2 + 1)))) rfl ?_)
          refine G_nil ?_
          refine kI_normal ⟨_, h, ?_⟩
          exact Sub.of_le (AF.le_put (AV.le_eq rfl) (AF.le_put (AV.le_eq rfl) (AF.le_put (AV.le_eq rfl) (AF.le_top _))))
      · replace h := ite_f h hc
        refine k_exit ?_
        refine kC_exit ?_
        refine kI_exit ?_
        refine kB_exit ?_
        refine kI_normal ⟨h, ?_⟩
        exact Sub.of_le (AF.le_top _)
  · refine k_seq ?_
    refine k_reg .free hmixP (by kernel_rfl) ?_
    refine G_q rfl (op_assign (av := .exact (.bool false)) rfl ?_)
    refine G_nil ?_
    refine kC_normal ?_
    refine k_ret ?_
    obtain rfl := Option.some.inj h
    refine kP_any (endN (af' := (AF.put AF0 (some 4) (.exact (.bool false)))) (σ' := []) _ rfl ?_ ⟨rfl, rfl⟩)
    exact Sub.of_le (AF.le_put (AV.le_eq rfl) (AF.le_top _))
set_option maxHeartbeats 4000000 in
theorem m_law15_AlphabetCloses_ok (a0 : List Int) (a1 : Int) (r : Bool) (h : m_law15_AlphabetCloses a0 a1 = some r) : Pure Try.prog 4 [(.row 1 c_int a0), (.exact (.int .i64 a1))] (.exact (.bool r)) := by
  unfold m_law15_AlphabetCloses at h
  refine Pure.ofFun (fun_of_awp Try.func4 rfl Try.ntmps4 (by simp) rfl (res1 rfl) fun E hE => k_end ?_)
  refine k_seq ?_
  refine k_reg .free hmixP (by kernel_rfl) ?_
  refine G_q rfl (op_assign (av := .exact (.bool false)) rfl ?_)
  refine G_nil ?_
  refine kC_normal ?_
  refine k_seq ?_
  refine k_reg .free hmixP (by kernel_rfl) ?_
  refine G_q rfl (op_move (av := .row 1 c_int a0) rfl ?_)
  obtain ⟨y1, hy1, h⟩ := bnd1_some h
  refine G_l rfl (op_fun_0_1_1 (m_gen_New_ok _ _ hy1) Try.func10 (by kernel_rfl) (LEs.cons (AV.le_eq rfl) LEs.nil) (fun b2 => ?_))
  refine G_q rfl (op_assign (av := pA b2 0) rfl ?_)
  refine G_nil ?_
  refine kC_normal ?_
  refine k_seq ?_
  refine k_reg .free hmixP (by kernel_rfl) ?_
  refine G_q rfl (op_assign (av := .exact (.slice none 0 0)) rfl ?_)
  refine G_nil ?_
  refine kC_normal ?_
  refine k_join1_1 h (fun (x6_j3 : List (Int × Int)) (v6_j3 : Value) => (AF.put (AF.put AF0 (some 1) (.exact (.int .i64 a1))) (some 6) (.exact v6_j3))) (fun (x6_j3 : List (Int × Int)) (v6_j3 : Value) => [vecT Try.prog 22 2 c_api_Above v6_j3 x6_j3]) (fun k3 h => ?_) (fun x6_j3 v6_j3 h => ?_)
  · refine k_seq ?_
    refine k_reg .free hmixP (by kernel_rfl) ?_
    refine G_q rfl (op_move (av := pA b2 0) rfl ?_)
    obtain ⟨y33, hy33, h⟩ := bnd1_some h
    refine G_l rfl (op_fun_1_0_1 (m_gen_Choices_Next_ok _ _ _ hy33) Try.func11 (by kernel_rfl) (LEs.cons (AV.le_eq rfl) (LEs.cons (AV.le_eq rfl) LEs.nil)) ?_)
    refine G_q rfl (op_assign (av := .exact (.int .i64 y33.1)) rfl ?_)
    refine G_nil ?_
    refine kC_normal ?_
    refine k_block ?_
    refine k_loop4_1 (m_law15_AlphabetCloses_L2 k3) (m_law15_AlphabetCloses_B2 k3) (fun _ _ _ _ => rfl) (fun m _ _ _ _ => rfl) h (fun (x5_0_l2 : List Int) (x5_1_l2 : Int) (x6_l2 : List (Int × Int)) (x7_l2 : Int) (v6_l2 : Value) => (AF.put (AF.put (AF.put (AF.put AF0 (some 1) (.exact (.int .i64 a1))) (some 5) (pA b2 0)) (some 6) (.exact v6_l2)) (some 7) (.exact (.int .i64 x7_l2)))) (fun (x5_0_l2 : List Int) (x5_1_l2 : Int) (x6_l2 : List (Int × Int)) (x7_l2 : Int) (v6_l2 : Value) => [boxI 58 b2 [.row 1 c_int x5_0_l2, .exact (.int .i64 x5_1_l2)], vecT Try.prog 22 2 c_api_Above v6_l2 x6_l2]) (.slice none 0 0) ?_ (fun rec2 x5_0_l2 x5_1_l2 x6_l2 x7_l2 v6_l2 h => ?_)
    · refine Sub.trans (SubU.to (SubU.nilT (P := Try.prog) (t := 22) (n := 2) (enc := c_api_Above))) ?_
      refine Sub.trans (SubU.to SubU.f1) ?_
      exact Sub.of_le (AF.le_put (AV.le_eq rfl) (AF.le_put (AV.le_eq rfl) (AF.le_put (AV.le_eq rfl) (AF.le_put (AV.le_eq rfl) (AF.le_top _)))))
    · unfold m_law15_AlphabetCloses_B2 at h
      refine k_seq ?_
      refine k_seq ?_
      refine k_reg .free hmixP (by kernel_rfl) ?_
      refine G_q rfl (op_move (av := .exact (.int .i64 x7_l2)) rfl ?_)
      refine G_q rfl (op_gtr rfl rfl ?_)
      refine G_nil ?_
      refine kC_normal ?_
      refine k_cond_d (p := 0 < x7_l2) rfl (fun hc => ?_) (fun hc => ?_)
      · replace h := ite_t h hc
        refine k_skip ?_
        refine kC_normal ?_
        refine k_join3_1 h (fun (x5_0_j52 : List Int) (x5_1_j52 : Int) (x6_j52 : List (Int × Int)) (v6_j52 : Value) => (AF.put (AF.put (AF.put (AF.put AF0 (some 1) (.exact (.int .i64 a1))) (some 5) (pA b2 0)) (some 6) (.exact v6_j52)) (some 7) (.exact (.int .i64 x7_l2)))) (fun (x5_0_j52 : List Int) (x5_1_j52 : Int) (x6_j52 : List (Int × Int)) (v6_j52 : Value) => [boxI 58 b2 [.row 1 c_int x5_0_j52, .exact (.int .i64 x5_1_j52)], vecT Try.prog 22 2 c_api_Above v6_j52 x6_j52]) (fun k52 h => ?_) (fun x5_0_j52 x5_1_j52 x6_j52 v6_j52 h => ?_)
        · refine k_block ?_
          refine k_seq ?_
          refine k_reg .free hmixP (by kernel_rfl) ?_
          refine G_q rfl (op_move (av := pA b2 0) rfl ?_)
          obtain ⟨y57, hy57, h⟩ := bnd1_some h
          refine G_l rfl (op_fun_1_0_1 (m_gen_Choices_Event_ok _ _ hy57) Try.func12 (by kernel_rfl) (LEs.cons (AV.le_eq rfl) LEs.nil) ?_)
          refine G_q rfl (op_move (av := pA b2 0) rfl ?_)
          obtain ⟨y58, hy58, h⟩ := bnd1_some h
          refine G_l rfl (op_fun_1_0_1 (m_gen_Choices_Event_ok _ _ hy58) Try.func12 (by kernel_rfl) (LEs.cons (AV.le_eq rfl) LEs.nil) ?_)
          refine G_q rfl (op_assign (av := .exact (.int .i64 y57.1)) rfl ?_)
          refine G_q rfl (op_assign (av := .exact (.int .i64 y58.1)) rfl ?_)
          refine G_nil ?_
          refine kC_normal ?_
          refine k_seq ?_
          refine k_reg .free hmixP (by kernel_rfl) ?_
          refine G_q rfl (op_move (av := .exact (.int .i64 y57.1)) rfl ?_)
          refine G_q rfl (op_move (av := .exact (.int .i64 y58.1)) rfl ?_)
          refine G_q rfl (op_neq rfl rfl ?_)
          refine G_nil ?_
          refine kC_normal ?_
          refine k_cond_d (p := ¬ y57.1 = y58.1) rfl (fun hc => ?_) (fun hc => ?_)
          · replace h := ite_t h hc
            refine k_reg .free hmixP (by kernel_rfl) ?_
            refine G_q rfl (op_move (av := .exact v6_l2) rfl ?_)
            refine G_q rfl (op_move (av := .exact (.int .i64 y57.1)) rfl ?_)
            refine G_q rfl (op_move (av := .exact (.int .i64 y58.1)) rfl ?_)
            refine G_q rfl (op_min rfl rfl ?_)
            refine G_q rfl (op_move (av := .exact (.int .i64 y57.1)) rfl ?_)
            refine G_q rfl (op_move (av := .exact (.int .i64 y58.1)) rfl ?_)
            refine G_q rfl (op_max rfl rfl ?_)
            refine G_q rfl (op_bld (c' := c_api_Above (min y57.1 y58.1, max y57.1 y58.1)) (CellsAll.cons rfl CellsOf.int (CellsAll.cons rfl CellsOf.int CellsAll.nil)) rfl (LEs.cons (AV.le_eq rfl) (LEs.cons (AV.le_eq rfl) LEs.nil)) ?_)
            refine G_q rfl (op_litT (n := 2) (enc := c_api_Above) [(min y57.1 y58.1, max y57.1 y58.1)] (CellsAll.cons rfl CellsOf.agg CellsAll.nil) rfl (by kernel_rfl) (LEss.cons (LEs.cons (AV.le_eq rfl) (LEs.cons (AV.le_eq rfl) LEs.nil)) LEss.nil) ?_)
            obtain ⟨n59, h⟩ := need_some h
            refine G_l rfl (opB_f1 (op_appT (by kernel_rfl) rfl rfl oc_c_api_Above n59 (fun v60 => ?_)))
            refine G_q rfl (op_assign (av := .exact v60) rfl ?_)
            refine G_nil ?_
            refine kB_normal ?_
            refine kI_normal ⟨_, _, _, v60, h, ?_⟩
            refine Sub.trans (SubU.to SubU.f1) ?_
            exact Sub.of_le (AF.le_put (AV.le_eq rfl) (AF.le_put (AV.le_eq rfl) (AF.le_put (AV.le_eq rfl) (AF.le_put (AV.le_eq rfl) (AF.le_top _)))))
          · replace h := ite_f h hc
            refine k_skip ?_
            refine kB_normal ?_
            refine kI_normal ⟨_, _, _, v6_l2, h, ?_⟩
            exact Sub.of_le (AF.le_put (AV.le_eq rfl) (AF.le_put (AV.le_eq rfl) (AF.le_put (AV.le_eq rfl) (AF.le_put (AV.le_eq rfl) (AF.le_top _)))))
        · refine k_reg .free hmixP (by kernel_rfl) ?_
          refine G_q rfl (op_move (av := .exact (.int .i64 x7_l2)) rfl ?_)
          refine G_q rfl (op_sub rfl rfl rfl ?_)
          refine G_q rfl (op_assign (av := .exact (.int .i64 (i64 (x7_l2 - 1)))) rfl ?_)
          refine G_nil ?_
          refine kI_normal ⟨_, _, _, _, v6_j52, h, ?_⟩
          exact Sub.of_le (AF.le_put (AV.le_eq rfl) (AF.le_put (AV.le_eq rfl) (AF.le_put (AV.le_eq rfl) (AF.le_put (AV.le_eq rfl) (AF.le_top _)))))
      · replace h := ite_f h hc
        refine k_exit ?_
        refine kC_exit ?_
        refine kI_exit ?_
        refine kB_exit ?_
        refine kI_normal ⟨_, v6_l2, h, ?_⟩
        refine Sub.trans (SubU.to SubU.drop) ?_
        exact Sub.of_le (AF.le_put (AV.le_eq rfl) (AF.le_put (AV.le_eq rfl) (AF.le_top _)))
  · refine k_seq ?_
    refine k_reg .free hmixP (by kernel_rfl) ?_
    refine G_q rfl (op_move (av := .exact v6_j3) rfl ?_)
    refine G_sub rfl (SubU.freezeT2 (s1 := 6) (s2 := 43) rfl rfl len_c_api_Above) ?_
    obtain ⟨y61, hy61, h⟩ := bnd1_some h
    refine G_q rfl (op_pure (m_close_ok _ _ hy61) Try.func13 (by kernel_rfl) (LEs.cons (AV.le_eq rfl) LEs.nil) ?_)
    refine G_q rfl (op_move (av := .tup [.row 2 c_api_Above y61.1, .exact (.int .i64 y61.2)]) rfl ?_)
    refine G_q rfl (op_extract (av := .row 2 c_api_Above y61.1) rfl rfl ?_)
    refine G_q rfl (op_extract (av := .exact (.int .i64 y61.2)) rfl rfl ?_)
    refine G_q rfl (op_assign (av := .row 2 c_api_Above y61.1) rfl ?_)
    refine G_q rfl (op_assign (av := .exact (.int .i64 y61.2)) rfl ?_)
    refine G_nil ?_
    refine kC_normal ?_
    refine k_seq ?_
    refine k_join1_0 h (fun (x57_j68 : Bool) => (AF.put (AF.put (AF.put (AF.put AF0 (some 1) (.exact (.int .i64 a1))) (some 6) (.row 2 c_api_Above x6_j3)) (some 10) (.row 2 c_api_Above y61.1)) (some 57) (.exact (.bool x57_j68)))) (fun (x57_j68 : Bool) => []) (fun k68 h => ?_) (fun x57_j68 h => ?_)
    · refine k_reg .free hmixP (by kernel_rfl) ?_
      obtain ⟨y71, hy71, h⟩ := bnd1_some h
      refine G_q rfl (op_pure (m_law15_awake_ok _ hy71) Try.func23 (by kernel_rfl) LEs.nil ?_)
      refine G_q rfl (op_not rfl ?_)
      refine G_q rfl (op_move (av := .exact (.bool (!y71))) rfl ?_)
      refine G_splitB (c := !y71) 49 rfl (fun hc => ?_) (fun hc => ?_)
      · replace h := ite_t h hc
        refine G_n rfl rfl ?_
        refine G_n rfl rfl ?_
        refine G_q rfl (op_pick_t rfl (av := .exact (.bool true)) rfl ?_)
        refine G_q rfl (op_move (av := .exact (.bool true)) rfl ?_)
        refine G_n rfl rfl ?_
        refine G_n rfl rfl ?_
        refine G_n rfl rfl ?_
        refine G_q rfl (op_pick_t rfl (av := .exact (.bool true)) rfl ?_)
        refine G_nil ?_
        refine kI_normal ⟨_, h, ?_⟩
        exact Sub.of_le (AF.le_put (AV.le_eq rfl) (AF.le_put (AV.le_eq rfl) (AF.le_put (AV.le_eq rfl) (AF.le_put (AV.le_eq rfl) (AF.le_top _)))))
      · replace h := ite_f h hc
        refine Gy_q rfl rfl rfl (op_move (av := .exact (.int .i64 y61.2)) rfl ?_)
        refine Gy_q rfl rfl rfl (op_neq rfl rfl ?_)
        refine G_q rfl (op_pick_f rfl (av := .exact (.bool (decide (¬ y61.2 = 0)))) rfl ?_)
        refine G_q rfl (op_move (av := .exact (.bool (decide (¬ y61.2 = 0)))) rfl ?_)
        refine G_split (p := ¬ y61.2 = 0) 53 rfl (fun hc => ?_) (fun hc => ?_)
        · replace h := ite_t h hc
          refine G_n rfl rfl ?_
          refine G_n rfl rfl ?_
          refine G_n rfl rfl ?_
          refine G_q rfl (op_pick_t rfl (av := .exact (.bool true)) rfl ?_)
          refine G_nil ?_
          refine kI_normal ⟨_, h, ?_⟩
          exact Sub.of_le (AF.le_put (AV.le_eq rfl) (AF.le_put (AV.le_eq rfl) (AF.le_put (AV.le_eq rfl) (AF.le_put (AV.le_eq rfl) (AF.le_top _)))))
        · replace h := ite_f h hc
          refine Gy_q rfl rfl rfl (op_move (av := .row 2 c_api_Above y61.1) rfl ?_)
          obtain ⟨y72, hy72, h⟩ := bnd1_some h
          refine Gy_q rfl rfl rfl (op_pure (m_alphabet_ValidOrder_ok _ _ hy72) Try.func16 (by kernel_rfl) (LEs.cons (AV.le_eq rfl) LEs.nil) ?_)
          refine Gy_q rfl rfl rfl (op_not rfl ?_)
          refine G_q rfl (op_pick_f rfl (av := .exact (.bool (!y72))) rfl ?_)
          refine G_nil ?_
          refine kI_normal ⟨_, h, ?_⟩
          exact Sub.of_le (AF.le_put (AV.le_eq rfl) (AF.le_put (AV.le_eq rfl) (AF.le_put (AV.le_eq rfl) (AF.le_put (AV.le_eq rfl) (AF.le_top _)))))
    · refine k_cond_b (c := x57_j68) rfl (fun hc => ?_) (fun hc => ?_)
      · replace h := ite_t h hc
        refine k_seq ?_
        refine k_reg .free hmixP (by kernel_rfl) ?_
        refine G_q rfl (op_assign (av := .exact (.bool false)) rfl ?_)
        refine G_nil ?_
        refine kC_normal ?_
        refine k_ret ?_
        refine kC_ret ?_
        obtain rfl := Option.some.inj h
        refine kP_any (endN (af' := (AF.put AF0 (some 4) (.exact (.bool false)))) (σ' := []) _ rfl ?_ ⟨rfl, rfl⟩)
        exact Sub.of_le (AF.le_put (AV.le_eq rfl) (AF.le_top _))
      · replace h := ite_f h hc
        refine k_skip ?_
        refine kC_normal ?_
        refine k_join0_0 h ((AF.put (AF.put (AF.put AF0 (some 1) (.exact (.int .i64 a1))) (some 6) (.row 2 c_api_Above x6_j3)) (some 10) (.row 2 c_api_Above y61.1))) ([]) (fun k73 h => ?_) (fun  h => ?_)
        · refine k_seq ?_
          refine k_reg .free hmixP (by kernel_rfl) ?_
          refine G_q rfl (op_assign (av := .exact (.int .i64 0)) rfl ?_)
          refine G_nil ?_
          refine kC_normal ?_
          refine k_block ?_
          refine k_loop1_0 (m_law15_AlphabetCloses_L4 x6_j3 y61 k73) (m_law15_AlphabetCloses_B4 x6_j3 y61 k73) (fun _ => rfl) (fun m _ => rfl) h (fun (x12_l4 : Int) => (AF.put (AF.put (AF.put (AF.put AF0 (some 1) (.exact (.int .i64 a1))) (some 6) (.row 2 c_api_Above x6_j3)) (some 10) (.row 2 c_api_Above y61.1)) (some 12) (.exact (.int .i64 x12_l4)))) (fun (x12_l4 : Int) => []) ?_ (fun rec4 x12_l4 h => ?_)
          · exact Sub.of_le (AF.le_put (AV.le_eq rfl) (AF.le_put (AV.le_eq rfl) (AF.le_put (AV.le_eq rfl) (AF.le_put (AV.le_eq rfl) (AF.le_top _)))))
          · unfold m_law15_AlphabetCloses_B4 at h
            refine k_seq ?_
            refine k_seq ?_
            refine k_reg .free hmixP (by kernel_rfl) ?_
            refine G_q rfl (op_move (av := .exact (.int .i64 x12_l4)) rfl ?_)
            refine G_q rfl (op_move (av := .row 2 c_api_Above x6_j3) rfl ?_)
            refine G_q rfl (op_len_row (by kernel_rfl) rfl ?_)
            refine G_q rfl (op_lss rfl rfl ?_)
            refine G_nil ?_
            refine kC_normal ?_
            refine k_cond_d (p := x12_l4 < (List.length x6_j3 : Int)) rfl (fun hc => ?_) (fun hc => ?_)
            · replace h := ite_t h hc
              refine k_skip ?_
              refine kC_normal ?_
              refine k_seq ?_
              refine k_block ?_
              refine k_seq ?_
              refine k_reg .free hmixP (by kernel_rfl) ?_
              refine G_q rfl (op_move (av := .row 2 c_api_Above y61.1) rfl ?_)
              refine G_q rfl (op_move (av := .row 2 c_api_Above x6_j3) rfl ?_)
              refine G_q rfl (op_move (av := .exact (.int .i64 x12_l4)) rfl ?_)
              obtain ⟨n85, h⟩ := need_some h
              refine G_q rfl (op_index_row (by kernel_rfl) rfl rfl n85.1 n85.2 ?_)
              refine G_q rfl (op_loadNp (m := 2) (c' := c_api_Above (gi x6_j3 x12_l4)) (by kernel_rfl) rfl rfl rfl ?_)
              obtain ⟨y86, hy86, h⟩ := bnd1_some h
              refine G_q rfl (op_pure (m_help_Has_api_Above_ok _ _ _ hy86) Try.func24 (by kernel_rfl) (LEs.cons (AV.le_eq rfl) (LEs.cons (AV.le_eq rfl) LEs.nil)) ?_)
              refine G_q rfl (op_not rfl ?_)
              refine G_nil ?_
              refine kC_normal ?_
              refine k_cond_b (c := !y86) rfl (fun hc => ?_) (fun hc => ?_)
              · replace h := ite_t h hc
                refine k_seq ?_
                refine k_reg .free hmixP (by kernel_rfl) ?_
                refine G_q rfl (op_assign (av := .exact (.bool false)) rfl ?_)
                refine G_nil ?_
                refine kC_normal ?_
                refine k_ret ?_
                refine kB_ret ?_
                refine kC_ret ?_
                refine kI_ret ?_
                refine kB_ret ?_
                refine kI_ret ?_
                obtain rfl := Option.some.inj h
                refine kP_any (endN (af' := (AF.put AF0 (some 4) (.exact (.bool false)))) (σ' := []) _ rfl ?_ ⟨rfl, rfl⟩)
                exact Sub.of_le (AF.le_put (AV.le_eq rfl) (AF.le_top _))
              · replace h := ite_f h hc
                refine k_skip ?_
                refine kB_normal ?_
                refine kC_normal ?_
                refine k_reg .free hmixP (by kernel_rfl) ?_
                refine G_q rfl (op_move (av := .exact (.int .i64 x12_l4)) rfl ?_)
                refine G_q rfl (op_add rfl rfl rfl ?_)
                refine G_q rfl (op_assign (av := .exact (.int .i64 (i64 (x12_l4 + 1)))) rfl ?_)
                refine G_nil ?_
                refine kI_normal ⟨_, h, ?_⟩
                exact Sub.of_le (AF.le_put (AV.le_eq rfl) (AF.le_put (AV.le_eq rfl) (AF.le_put (AV.le_eq rfl) (AF.le_put (AV.le_eq rfl) (AF.le_top _)))))
            · replace h := ite_f h hc
              refine k_exit ?_
              refine kC_exit ?_
              refine kI_exit ?_
              refine kB_exit ?_
              refine kI_normal ⟨h, ?_⟩
              exact Sub.of_le (AF.le_put (AV.le_eq rfl) (AF.le_put (AV.le_eq rfl) (AF.le_put (AV.le_eq rfl) (AF.le_top _))))
        · refine k_seq ?_
          refine k_reg .free hmixP (by kernel_rfl) ?_
          refine G_q rfl (op_move (av := .row 2 c_api_Above y61.1) rfl ?_)
          obtain ⟨y87, hy87, h⟩ := bnd1_some h
          refine G_q rfl (op_pure (m_close_ok _ _ hy87) Try.func13 (by kernel_rfl) (LEs.cons (AV.le_eq rfl) LEs.nil) ?_)
          refine G_q rfl (op_move (av := .tup [.row 2 c_api_Above y87.1, .exact (.int .i64 y87.2)]) rfl ?_)
          refine G_q rfl (op_extract (av := .row 2 c_api_Above y87.1) rfl rfl ?_)
          refine G_q rfl (op_extract (av := .exact (.int .i64 y87.2)) rfl rfl ?_)
          refine G_q rfl (op_assign (av := .row 2 c_api_Above y87.1) rfl ?_)
          refine G_q rfl (op_assign (av := .exact (.int .i64 y87.2)) rfl ?_)
          refine G_nil ?_
          refine kC_normal ?_
          refine k_seq ?_
          refine k_join1_0 h (fun (x83_j92 : Bool) => (AF.put (AF.put (AF.put (AF.put AF0 (some 1) (.exact (.int .i64 a1))) (some 6) (.row 2 c_api_Above x6_j3)) (some 10) (.row 2 c_api_Above y61.1)) (some 83) (.exact (.bool x83_j92)))) (fun (x83_j92 : Bool) => []) (fun k92 h => ?_) (fun x83_j92 h => ?_)
          · refine k_reg .free hmixP (by kernel_rfl) ?_
            refine G_q rfl (op_move (av := .exact (.int .i64 y87.2)) rfl ?_)
            refine G_q rfl (op_neq rfl rfl ?_)
            refine G_q rfl (op_move (av := .exact (.bool (decide (¬ y87.2 = 0)))) rfl ?_)
            refine G_split (p := ¬ y87.2 = 0) 78 rfl (fun hc => ?_) (fun hc => ?_)
            · replace h := ite_t h hc
              refine G_n rfl rfl ?_
              refine G_n rfl rfl ?_
              refine G_n rfl rfl ?_
              refine G_n rfl rfl ?_
              refine G_q rfl (op_pick_t rfl (av := .exact (.bool true)) rfl ?_)
              refine G_nil ?_
              refine kI_normal ⟨_, h, ?_⟩
              exact Sub.of_le (AF.le_put (AV.le_eq rfl) (AF.le_put (AV.le_eq rfl) (AF.le_put (AV.le_eq rfl) (AF.le_put (AV.le_eq rfl) (AF.le_top _)))))
            · replace h := ite_f h hc
              refine Gy_q rfl rfl rfl (op_move (av := .row 2 c_api_Above y87.1) rfl ?_)
              refine Gy_q rfl rfl rfl (op_move (av := .row 2 c_api_Above y61.1) rfl ?_)
              obtain ⟨y94, hy94, h⟩ := bnd1_some h
              refine Gy_q rfl rfl rfl (op_pure (m_help_Equal_api_Above_ok _ _ _ hy94) Try.func15 (by kernel_rfl) (LEs.cons (AV.le_eq rfl) (LEs.cons (AV.le_eq rfl) LEs.nil)) ?_)
              refine Gy_q rfl rfl rfl (op_not rfl ?_)
              refine G_q rfl (op_pick_f rfl (av := .exact (.bool (!y94))) rfl ?_)
              refine G_nil ?_
              refine kI_normal ⟨_, h, ?_⟩
              exact Sub.of_le (AF.le_put (AV.le_eq rfl) (AF.le_put (AV.le_eq rfl) (AF.le_put (AV.le_eq rfl) (AF.le_put (AV.le_eq rfl) (AF.le_top _)))))
          · refine k_cond_b (c := x83_j92) rfl (fun hc => ?_) (fun hc => ?_)
            · replace h := ite_t h hc
              refine k_seq ?_
              refine k_reg .free hmixP (by kernel_rfl) ?_
              refine G_q rfl (op_assign (av := .exact (.bool false)) rfl ?_)
              refine G_nil ?_
              refine kC_normal ?_
              refine k_ret ?_
              refine kC_ret ?_
              obtain rfl := Option.some.inj h
              refine kP_any (endN (af' := (AF.put AF0 (some 4) (.exact (.bool false)))) (σ' := []) _ rfl ?_ ⟨rfl, rfl⟩)
              exact Sub.of_le (AF.le_put (AV.le_eq rfl) (AF.le_top _))
            · replace h := ite_f h hc
              refine k_skip ?_
              refine kC_normal ?_
              refine k_seq ?_
              refine k_seq ?_
              refine k_reg .free hmixP (by kernel_rfl) ?_
              refine G_q rfl (op_move (av := .row 2 c_api_Above y61.1) rfl ?_)
              refine G_q rfl (op_len_row (by kernel_rfl) rfl ?_)
              refine G_q rfl (op_eql rfl rfl ?_)
              refine G_nil ?_
              refine kC_normal ?_
              refine k_cond_d (p := (List.length y61.1 : Int) = 0) rfl (fun hc => ?_) (fun hc => ?_)
              · replace h := ite_t h hc
                refine k_seq ?_
                refine k_reg .free hmixP (by kernel_rfl) ?_
                refine G_q rfl (op_assign (av := .exact (.bool true)) rfl ?_)
                refine G_nil ?_
                refine kC_normal ?_
                refine k_ret ?_
                refine kC_ret ?_
                obtain rfl := Option.some.inj h
                refine kP_any (endN (af' := (AF.put AF0 (some 4) (.exact (.bool true)))) (σ' := []) _ rfl ?_ ⟨rfl, rfl⟩)
                exact Sub.of_le (AF.le_put (AV.le_eq rfl) (AF.le_top _))
              · replace h := ite_f h hc
                refine k_skip ?_
                refine kC_normal ?_
                refine k_seq ?_
                refine k_reg .free hmixP (by kernel_rfl) ?_
                refine G_q rfl (op_move (av := .exact (.int .i64 a1)) rfl ?_)
                refine G_q rfl (op_move (av := .row 2 c_api_Above y61.1) rfl ?_)
                refine G_q rfl (op_len_row (by kernel_rfl) rfl ?_)
                obtain ⟨y95, hy95, h⟩ := bnd1_some h
                refine G_q rfl (op_pure (m_help_Mod_ok _ _ _ hy95) Try.func25 (by kernel_rfl) (LEs.cons (AV.le_eq rfl) (LEs.cons (AV.le_eq rfl) LEs.nil)) ?_)
                refine G_q rfl (op_assign (av := .exact (.int .i64 y95)) rfl ?_)
                refine G_nil ?_
                refine kC_normal ?_
                refine k_seq ?_
                refine k_plan [] [(0, 0), (0, 1), (0, 2), (0, 4), (0, 5), (0, 6), (0, 7), (2, 3), (2, 8), (0, 9)] hmixP (by kernel_rfl) ?_
                refine P_q no34_0 rfl (op_move (av := .row 2 c_api_Above y61.1) rfl ?_)
                refine P_q no34_0 rfl (op_move (av := .exact (.int .i64 y95)) rfl ?_)
                obtain ⟨n96, h⟩ := need_some h
                refine P_q no34_0 rfl (op_slice_rowt (by kernel_rfl) rfl bnd_none (bnd_some rfl) (Int.le_refl 0) n96.1 n96.2 ?_)
                refine P_q no34_0 rfl (op_move (av := .row 2 c_api_Above y61.1) rfl ?_)
                refine P_q no34_0 rfl (op_move (av := .exact (.int .i64 y95)) rfl ?_)
                refine P_q no34_0 rfl (op_add rfl rfl rfl ?_)
                obtain ⟨n97, h⟩ := need_some h
                refine P_q no34_0 rfl (op_slice_rowd (by kernel_rfl) rfl (bnd_some rfl) bnd_none n97.1 n97.2 (Int.le_refl _) ?_)
                obtain ⟨n98, h⟩ := need_some h
                refine P_l rfl (op_appN (enc := c_api_Above) (by kernel_rfl) rfl rfl oc_c_api_Above n98 (fun v99 => ?_))
                obtain ⟨n100, h⟩ := need_some h
                refine P_l rfl (op_appT (by kernel_rfl) rfl rfl oc_c_api_Above n100 (fun v101 => ?_))
                refine P_q no34_0 rfl (op_assign (av := .exact v101) rfl ?_)
                refine P_nil ?_
                refine kC_normal ?_
                refine k_join1_0 h (fun (x4_j102 : Bool) => (AF.put AF0 (some 4) (.exact (.bool x4_j102)))) (fun (x4_j102 : Bool) => []) (fun k102 h => ?_) (fun x4_j102 h => ?_)
                · refine k_reg .free hmixP (by kernel_rfl) ?_
                  refine G_q rfl (op_move (av := .row 2 c_api_Above x6_j3) rfl ?_)
                  refine G_q rfl (op_move (av := .row 2 c_api_Above y61.1) rfl ?_)
                  refine G_q rfl (op_move (av := .exact (.int .i64 y95)) rfl ?_)
                  obtain ⟨n106, h⟩ := need_some h
                  refine G_q rfl (op_index_row (by kernel_rfl) rfl rfl n106.1 n106.2 ?_)
                  refine G_q rfl (op_loadNp (m := 2) (c' := c_api_Above (gi y61.1 y95)) (by kernel_rfl) rfl rfl rfl ?_)
                  obtain ⟨y107, hy107, h⟩ := bnd1_some h
                  refine G_q rfl (op_pure (m_help_Has_api_Above_ok _ _ _ hy107) Try.func24 (by kernel_rfl) (LEs.cons (AV.le_eq rfl) (LEs.cons (AV.le_eq rfl) LEs.nil)) ?_)
                  refine G_q rfl (op_move (av := .exact (.bool y107)) rfl ?_)
                  refine G_splitB (c := y107) 106 rfl (fun hc => ?_) (fun hc => ?_)
                  · replace h := ite_t h hc
                    refine G_n rfl rfl ?_
                    refine G_n rfl rfl ?_
                    refine G_n rfl rfl ?_
                    refine G_q rfl (op_pick_t rfl (av := .exact (.bool true)) rfl ?_)
                    refine G_q rfl (op_assign (av := .exact (.bool true)) rfl ?_)
                    refine G_nil ?_
                    refine kI_normal ⟨_, h, ?_⟩
                    refine Sub.trans (SubU.to SubU.drop) ?_
                    exact Sub.of_le (AF.le_put (AV.le_eq rfl) (AF.le_top _))
                  · replace h := ite_f h hc
                    refine Gy_q rfl rfl rfl (op_move (av := .exact v101) rfl ?_)
                    refine G_sub rfl (SubU.freezeT3 (s1 := 16) (s2 := 99) (s3 := 107) rfl rfl rfl len_c_api_Above) ?_
                    obtain ⟨y108, hy108, h⟩ := bnd1_some h
                    refine Gy_q rfl rfl rfl (op_pure (m_alphabet_ValidOrder_ok _ _ hy108) Try.func16 (by kernel_rfl) (LEs.cons (AV.le_eq rfl) LEs.nil) ?_)
                    refine Gy_q rfl rfl rfl (op_not rfl ?_)
                    refine G_q rfl (op_pick_f rfl (av := .exact (.bool (!y108))) rfl ?_)
                    refine G_q rfl (op_assign (av := .exact (.bool (!y108))) rfl ?_)
                    refine G_nil ?_
                    refine kI_normal ⟨_, h, ?_⟩
                    exact Sub.of_le (AF.le_put (AV.le_eq rfl) (AF.le_top _))
                · refine k_ret ?_
                  obtain rfl := Option.some.inj h
                  refine kP_any (endN (af' := (AF.put AF0 (some 4) (.exact (.bool x4_j102)))) (σ' := []) _ rfl ?_ ⟨rfl, rfl⟩)
                  exact Sub.of_le (AF.le_put (AV.le_eq rfl) (AF.le_top _))
end Go.Proofs.Ytkbbeeeoogjknaa
/- The functions compute their models, by program. -/
namespace Go.Proofs.Ytkbbeeeoogjknaa
open Go.RowKit
attribute [local irreducible] AV.exact AV.top AV.row AV.ptr AV.agg AV.tup AV.eptr AV.fn AV.nilq AV.nilqn opA opB opM opR Quiet Loud Reads wpG awp den Sub SubU Pure Fun vecI vecT boxI CellsAll CellsOf OneC LEs LEss
set_option maxRecDepth 100000

end Go.Proofs.Ytkbbeeeoogjknaa
/- The functions compute their models, by program. -/
namespace Go.Proofs.Ytkbbeeeoogjknaa
open Go.RowKit
attribute [local irreducible] AV.exact AV.top AV.row AV.ptr AV.agg AV.tup AV.eptr AV.fn AV.nilq AV.nilqn opA opB opM opR Quiet Loud Reads wpG awp den Sub SubU Pure Fun vecI vecT boxI CellsAll CellsOf OneC LEs LEss
set_option maxRecDepth 100000

end Go.Proofs.Ytkbbeeeoogjknaa
/- The functions compute their models, by program. -/
namespace Go.Proofs.Ytkbbeeeoogjknaa
open Go.RowKit
attribute [local irreducible] AV.exact AV.top AV.row AV.ptr AV.agg AV.tup AV.eptr AV.fn AV.nilq AV.nilqn opA opB opM opR Quiet Loud Reads wpG awp den Sub SubU Pure Fun vecI vecT boxI CellsAll CellsOf OneC LEs LEss
set_option maxRecDepth 100000

end Go.Proofs.Ytkbbeeeoogjknaa
