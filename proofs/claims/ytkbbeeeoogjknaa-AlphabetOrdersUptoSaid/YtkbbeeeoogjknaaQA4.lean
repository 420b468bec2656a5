/- Types and their cells, by program. -/
import Derived.Test.YtkbbeeeoogjknaaQA3
import Derived.Test.YtkbbeeeoogjknaaQA1
namespace Go.Proofs.Ytkbbeeeoogjknaa
open Go.RowKit
abbrev c_api_Above (x : Int × Int) : List AV := [.exact (.int .i64 x.1), .exact (.int .i64 x.2)]
theorem len_c_api_Above (x : Int × Int) : (c_api_Above x).length = 2 := rfl
theorem oc_c_api_Above (x : Int × Int) : OneC (c_api_Above x) := (OneC.int (OneC.int OneC.nil))
abbrev c_int (x : Int) : List AV := [.exact (.int .i64 x)]
theorem len_c_int (x : Int) : (c_int x).length = 1 := rfl
theorem oc_c_int (x : Int) : OneC (c_int x) := (OneC.int OneC.nil)
abbrev c_cspcheckgen_Choices (x : (List Int) × Int) : List AV := [.row 1 c_int x.1, .exact (.int .i64 x.2)]
abbrev c_api_Pair (x : Int × Int) : List AV := [.exact (.int .i64 x.1), .exact (.int .i64 x.2)]
theorem len_c_api_Pair (x : Int × Int) : (c_api_Pair x).length = 2 := rfl
theorem oc_c_api_Pair (x : Int × Int) : OneC (c_api_Pair x) := (OneC.int (OneC.int OneC.nil))
theorem heq_c_api_Pair (x0 x1 y0 y1 : Int) (w : World) : (Op.equal 48 (.agg #[.int .i64 x0, .int .i64 x1]) (.agg #[.int .i64 y0, .int .i64 y1])).run Try.prog w = .ok (decide (x0 = y0 ∧ x1 = y1)) w := by
  have s0 : (sizeOf 3).run Try.prog w = .ok 1 w := by kernel_rfl
  have s1 : (sizeOf 3).run Try.prog w = .ok 1 w := by kernel_rfl
  have e0 : ∀ a b : Int, (Op.equalIn 9999 3 (.int .i64 a) (.int .i64 b)).run Try.prog w = .ok (a == b) w := fun a b => run_equalIn_int w 9998 3 .i64 .i64 a b Try.underlying3
  have e1 : ∀ a b : Int, (Op.equalIn 9999 3 (.int .i64 a) (.int .i64 b)).run Try.prog w = .ok (a == b) w := fun a b => run_equalIn_int w 9998 3 .i64 .i64 a b Try.underlying3
  rw [Op.equal, Op.maxDepth, show (10000 : Nat) = 9999 + 1 from rfl]
  rw [show Op.equalIn (9999 + 1) 48 (.agg #[.int .i64 x0, .int .i64 x1]) (.agg #[.int .i64 y0, .int .i64 y1]) = _ from by rw [Op.equalIn]]
  simp only [Sem.run_bind, run_underlying Try.underlying48, Result.andThen_ok, s0, s1]
  have p0 : ∀ (a b : Int) (w : World), (part 3 #[.int .i64 a, .int .i64 b] 0).run Try.prog w = .ok (.int .i64 a) w := fun a b w => run_part1 (by kernel_rfl) rfl
  have p1 : ∀ (a b : Int) (w : World), (part 3 #[.int .i64 a, .int .i64 b] 1).run Try.prog w = .ok (.int .i64 b) w := fun a b w => run_part1 (by kernel_rfl) rfl
  simp [p0, p1, e0, e1]
  by_cases h1 : x0 = y0 <;> by_cases h2 : x1 = y1 <;> simp [h1, h2]
theorem eq_c_api_Pair (a b : Int × Int) {M : BSet} {w : World} {vs us : List Value} (h1 : Fit M w (c_api_Pair a) vs) (h2 : Fit M w (c_api_Pair b) us) : (Op.equal 48 (.agg vs.toArray) (.agg us.toArray)).run Try.prog w = .ok (decide (a = b)) w := eq_pair heq_c_api_Pair a b h1 h2
theorem heq_c_api_Above (x0 x1 y0 y1 : Int) (w : World) : (Op.equal 29 (.agg #[.int .i64 x0, .int .i64 x1]) (.agg #[.int .i64 y0, .int .i64 y1])).run Try.prog w = .ok (decide (x0 = y0 ∧ x1 = y1)) w := by
  have s0 : (sizeOf 3).run Try.prog w = .ok 1 w := by kernel_rfl
  have s1 : (sizeOf 3).run Try.prog w = .ok 1 w := by kernel_rfl
  have e0 : ∀ a b : Int, (Op.equalIn 9999 3 (.int .i64 a) (.int .i64 b)).run Try.prog w = .ok (a == b) w := fun a b => run_equalIn_int w 9998 3 .i64 .i64 a b Try.underlying3
  have e1 : ∀ a b : Int, (Op.equalIn 9999 3 (.int .i64 a) (.int .i64 b)).run Try.prog w = .ok (a == b) w := fun a b => run_equalIn_int w 9998 3 .i64 .i64 a b Try.underlying3
  rw [Op.equal, Op.maxDepth, show (10000 : Nat) = 9999 + 1 from rfl]
  rw [show Op.equalIn (9999 + 1) 29 (.agg #[.int .i64 x0, .int .i64 x1]) (.agg #[.int .i64 y0, .int .i64 y1]) = _ from by rw [Op.equalIn]]
  simp only [Sem.run_bind, run_underlying Try.underlying29, Result.andThen_ok, s0, s1]
  have p0 : ∀ (a b : Int) (w : World), (part 3 #[.int .i64 a, .int .i64 b] 0).run Try.prog w = .ok (.int .i64 a) w := fun a b w => run_part1 (by kernel_rfl) rfl
  have p1 : ∀ (a b : Int) (w : World), (part 3 #[.int .i64 a, .int .i64 b] 1).run Try.prog w = .ok (.int .i64 b) w := fun a b w => run_part1 (by kernel_rfl) rfl
  simp [p0, p1, e0, e1]
  by_cases h1 : x0 = y0 <;> by_cases h2 : x1 = y1 <;> simp [h1, h2]
theorem eq_c_api_Above (a b : Int × Int) {M : BSet} {w : World} {vs us : List Value} (h1 : Fit M w (c_api_Above a) vs) (h2 : Fit M w (c_api_Above b) us) : (Op.equal 29 (.agg vs.toArray) (.agg us.toArray)).run Try.prog w = .ok (decide (a = b)) w := eq_pair heq_c_api_Above a b h1 h2
end Go.Proofs.Ytkbbeeeoogjknaa
/- The sorts' contracts, laid by program. -/
namespace Go.Proofs.Ytkbbeeeoogjknaa
open Go.RowKit Go.Sort
set_option maxRecDepth 100000
def lay0_ren : Go.Shelf.Ren := ⟨fun | 6 => 53 | 14 => 80 | 15 => 81 | 20 => 89 | 21 => 90 | 22 => 91 | 23 => 92 | 24 => 93 | 25 => 94 | 26 => 95 | 27 => 96 | 28 => 97 | 29 => 98 | 46 => 117 | 47 => 118 | 48 => 119 | 49 => 120 | 50 => 121 | 57 => 128 | n => n, fun | 0 => 0 | 3 => 3 | 4 => 4 | 5 => 5 | 9 => 9 | 22 => 22 | 24 => 29 | 25 => 63 | 39 => 69 | 45 => 88 | 46 => 89 | 50 => 93 | 53 => 96 | 55 => 98 | 66 => 110 | 70 => 114 | 76 => 120 | 77 => 121 | n => n, fun n => n⟩
theorem lay0 : Go.Proofs.SlLaysF0.n6 Try.prog lay0_ren where
  mixed := by kernel_rfl
  f6 := ⟨Try.f53.name, by kernel_rfl, Try.func53.trans (congrArg some (by kernel_rfl))⟩
  f14 := ⟨Try.f80.name, by kernel_rfl, Try.func80.trans (congrArg some (by kernel_rfl))⟩
  f15 := Try.func81.trans (congrArg some (by kernel_rfl))
  f20 := ⟨Try.f89.name, by kernel_rfl, Try.func89.trans (congrArg some (by kernel_rfl))⟩
  f21 := ⟨Try.f90.name, by kernel_rfl, Try.func90.trans (congrArg some (by kernel_rfl))⟩
  f22 := ⟨Try.f91.name, by kernel_rfl, Try.func91.trans (congrArg some (by kernel_rfl))⟩
  f23 := ⟨Try.f92.name, by kernel_rfl, Try.func92.trans (congrArg some (by kernel_rfl))⟩
  f24 := ⟨Try.f93.name, by kernel_rfl, Try.func93.trans (congrArg some (by kernel_rfl))⟩
  f25 := ⟨Try.f94.name, by kernel_rfl, Try.func94.trans (congrArg some (by kernel_rfl))⟩
  f26 := ⟨Try.f95.name, by kernel_rfl, Try.func95.trans (congrArg some (by kernel_rfl))⟩
  f27 := ⟨Try.f96.name, by kernel_rfl, Try.func96.trans (congrArg some (by kernel_rfl))⟩
  f28 := Try.func97.trans (congrArg some (by kernel_rfl))
  f29 := Try.func98.trans (congrArg some (by kernel_rfl))
  f46 := ⟨Try.f117.name, by kernel_rfl, Try.func117.trans (congrArg some (by kernel_rfl))⟩
  f47 := Try.func118.trans (congrArg some (by kernel_rfl))
  f48 := Try.func119.trans (congrArg some (by kernel_rfl))
  f49 := ⟨Try.f120.name, by kernel_rfl, Try.func120.trans (congrArg some (by kernel_rfl))⟩
  f50 := ⟨Try.f121.name, by kernel_rfl, Try.func121.trans (congrArg some (by kernel_rfl))⟩
  f57 := ⟨Try.f128.name, by kernel_rfl, Try.func128.trans (congrArg some (by kernel_rfl))⟩
  t0 := Try.underlying0
  a0 := Try.isAgg0
  z0 := Try.sizeOf0
  v0 := Try.zeroValue0
  t3 := Try.underlying3
  a3 := Try.isAgg3
  z3 := Try.sizeOf3
  v3 := Try.zeroValue3
  t4 := Try.underlying4
  a4 := Try.isAgg4
  z4 := Try.sizeOf4
  v4 := Try.zeroValue4
  t5 := Try.underlying5
  a5 := Try.isAgg5
  z5 := Try.sizeOf5
  v5 := Try.zeroValue5
  t9 := Try.underlying9
  a9 := Try.isAgg9
  z9 := Try.sizeOf9
  v9 := Try.zeroValue9
  t22 := Try.underlying22
  a22 := Try.isAgg22
  z22 := Try.sizeOf22
  v22 := Try.zeroValue22
  t25 := Try.underlying63
  a25 := Try.isAgg63
  z25 := Try.sizeOf63
  v25 := Try.zeroValue63
  t39 := Try.underlying69
  a39 := Try.isAgg69
  z39 := Try.sizeOf69
  v39 := Try.zeroValue69
  t45 := Try.underlying88
  a45 := Try.isAgg88
  z45 := Try.sizeOf88
  v45 := Try.zeroValue88
  t46 := Try.underlying89
  a46 := Try.isAgg89
  z46 := Try.sizeOf89
  v46 := Try.zeroValue89
  t50 := Try.underlying93
  a50 := Try.isAgg93
  z50 := Try.sizeOf93
  v50 := Try.zeroValue93
  t53 := Try.underlying96
  a53 := Try.isAgg96
  z53 := Try.sizeOf96
  v53 := Try.zeroValue96
  t55 := Try.underlying98
  a55 := Try.isAgg98
  z55 := Try.sizeOf98
  v55 := Try.zeroValue98
  t66 := Try.underlying110
  a66 := Try.isAgg110
  z66 := Try.sizeOf110
  v66 := Try.zeroValue110
  t70 := Try.underlying114
  a70 := Try.isAgg114
  z70 := Try.sizeOf114
  v70 := Try.zeroValue114
  t76 := Try.underlying120
  a76 := Try.isAgg120
  z76 := Try.sizeOf120
  v76 := Try.zeroValue120
  t77 := Try.underlying121
  a77 := Try.isAgg121
  z77 := Try.sizeOf121
  v77 := Try.zeroValue121
theorem m_sort_api_Above_ok (hc : ∀ (x y : Int × Int) (r : Int), m_alphabet_compareAbove x y = some r → Pure Try.prog 54 [(.agg (c_api_Above x)), (.agg (c_api_Above y))] (.exact (.int .i64 r))) {w0 : Value} (a0 r : List (Int × Int)) (h : m_sortby m_alphabet_compareAbove a0 = some r) : Fun Try.prog 53 [.exact w0, .exact (.func (.func 54) #[] #[])] [vecT Try.prog 22 2 c_api_Above w0 a0] (fun a s => a = .tup [] ∧ s = [vecT Try.prog 22 2 c_api_Above w0 r]) :=
  m_sortbyK_ok (enc := (fun x : Int × Int => [(.int .i64 x.1), (.int .i64 x.2)])) lay0 Try.isAgg29 Try.sizeOf29 (fun _ => rfl) (fun _ => rfl) (fun x v hv => by simp at hv; rcases hv with rfl | rfl <;> rfl) 54 (fun args w => by exact enters_of Try.func54 (by kernel_rfl) rfl args w) 22 hc a0 r h
def lay1_ren : Go.Shelf.Ren := ⟨fun | 6 => 66 | 14 => 85 | 15 => 81 | 20 => 100 | 21 => 101 | 22 => 102 | 23 => 103 | 24 => 104 | 25 => 105 | 26 => 106 | 27 => 107 | 28 => 97 | 29 => 98 | 46 => 122 | 47 => 118 | 48 => 119 | 49 => 123 | 50 => 124 | 57 => 129 | n => n, fun | 0 => 0 | 3 => 3 | 4 => 4 | 5 => 5 | 9 => 9 | 22 => 44 | 24 => 48 | 25 => 71 | 39 => 69 | 45 => 88 | 46 => 89 | 50 => 93 | 53 => 96 | 55 => 98 | 66 => 110 | 70 => 114 | 76 => 120 | 77 => 121 | n => n, fun n => n⟩
theorem lay1 : Go.Proofs.SlLaysF0.n6 Try.prog lay1_ren where
  mixed := by kernel_rfl
  f6 := ⟨Try.f66.name, by kernel_rfl, Try.func66.trans (congrArg some (by kernel_rfl))⟩
  f14 := ⟨Try.f85.name, by kernel_rfl, Try.func85.trans (congrArg some (by kernel_rfl))⟩
  f15 := Try.func81.trans (congrArg some (by kernel_rfl))
  f20 := ⟨Try.f100.name, by kernel_rfl, Try.func100.trans (congrArg some (by kernel_rfl))⟩
  f21 := ⟨Try.f101.name, by kernel_rfl, Try.func101.trans (congrArg some (by kernel_rfl))⟩
  f22 := ⟨Try.f102.name, by kernel_rfl, Try.func102.trans (congrArg some (by kernel_rfl))⟩
  f23 := ⟨Try.f103.name, by kernel_rfl, Try.func103.trans (congrArg some (by kernel_rfl))⟩
  f24 := ⟨Try.f104.name, by kernel_rfl, Try.func104.trans (congrArg some (by kernel_rfl))⟩
  f25 := ⟨Try.f105.name, by kernel_rfl, Try.func105.trans (congrArg some (by kernel_rfl))⟩
  f26 := ⟨Try.f106.name, by kernel_rfl, Try.func106.trans (congrArg some (by kernel_rfl))⟩
  f27 := ⟨Try.f107.name, by kernel_rfl, Try.func107.trans (congrArg some (by kernel_rfl))⟩
  f28 := Try.func97.trans (congrArg some (by kernel_rfl))
  f29 := Try.func98.trans (congrArg some (by kernel_rfl))
  f46 := ⟨Try.f122.name, by kernel_rfl, Try.func122.trans (congrArg some (by kernel_rfl))⟩
  f47 := Try.func118.trans (congrArg some (by kernel_rfl))
  f48 := Try.func119.trans (congrArg some (by kernel_rfl))
  f49 := ⟨Try.f123.name, by kernel_rfl, Try.func123.trans (congrArg some (by kernel_rfl))⟩
  f50 := ⟨Try.f124.name, by kernel_rfl, Try.func124.trans (congrArg some (by kernel_rfl))⟩
  f57 := ⟨Try.f129.name, by kernel_rfl, Try.func129.trans (congrArg some (by kernel_rfl))⟩
  t0 := Try.underlying0
  a0 := Try.isAgg0
  z0 := Try.sizeOf0
  v0 := Try.zeroValue0
  t3 := Try.underlying3
  a3 := Try.isAgg3
  z3 := Try.sizeOf3
  v3 := Try.zeroValue3
  t4 := Try.underlying4
  a4 := Try.isAgg4
  z4 := Try.sizeOf4
  v4 := Try.zeroValue4
  t5 := Try.underlying5
  a5 := Try.isAgg5
  z5 := Try.sizeOf5
  v5 := Try.zeroValue5
  t9 := Try.underlying9
  a9 := Try.isAgg9
  z9 := Try.sizeOf9
  v9 := Try.zeroValue9
  t22 := Try.underlying44
  a22 := Try.isAgg44
  z22 := Try.sizeOf44
  v22 := Try.zeroValue44
  t25 := Try.underlying71
  a25 := Try.isAgg71
  z25 := Try.sizeOf71
  v25 := Try.zeroValue71
  t39 := Try.underlying69
  a39 := Try.isAgg69
  z39 := Try.sizeOf69
  v39 := Try.zeroValue69
  t45 := Try.underlying88
  a45 := Try.isAgg88
  z45 := Try.sizeOf88
  v45 := Try.zeroValue88
  t46 := Try.underlying89
  a46 := Try.isAgg89
  z46 := Try.sizeOf89
  v46 := Try.zeroValue89
  t50 := Try.underlying93
  a50 := Try.isAgg93
  z50 := Try.sizeOf93
  v50 := Try.zeroValue93
  t53 := Try.underlying96
  a53 := Try.isAgg96
  z53 := Try.sizeOf96
  v53 := Try.zeroValue96
  t55 := Try.underlying98
  a55 := Try.isAgg98
  z55 := Try.sizeOf98
  v55 := Try.zeroValue98
  t66 := Try.underlying110
  a66 := Try.isAgg110
  z66 := Try.sizeOf110
  v66 := Try.zeroValue110
  t70 := Try.underlying114
  a70 := Try.isAgg114
  z70 := Try.sizeOf114
  v70 := Try.zeroValue114
  t76 := Try.underlying120
  a76 := Try.isAgg120
  z76 := Try.sizeOf120
  v76 := Try.zeroValue120
  t77 := Try.underlying121
  a77 := Try.isAgg121
  z77 := Try.sizeOf121
  v77 := Try.zeroValue121
theorem m_sort_api_Pair_ok (hc : ∀ (x y : Int × Int) (r : Int), m_alphabet_comparePairs x y = some r → Pure Try.prog 67 [(.agg (c_api_Pair x)), (.agg (c_api_Pair y))] (.exact (.int .i64 r))) {w0 : Value} (a0 r : List (Int × Int)) (h : m_sortby m_alphabet_comparePairs a0 = some r) : Fun Try.prog 66 [.exact w0, .exact (.func (.func 67) #[] #[])] [vecT Try.prog 44 2 c_api_Pair w0 a0] (fun a s => a = .tup [] ∧ s = [vecT Try.prog 44 2 c_api_Pair w0 r]) :=
  m_sortbyK_ok (enc := (fun x : Int × Int => [(.int .i64 x.1), (.int .i64 x.2)])) lay1 Try.isAgg48 Try.sizeOf48 (fun _ => rfl) (fun _ => rfl) (fun x v hv => by simp at hv; rcases hv with rfl | rfl <;> rfl) 67 (fun args w => by exact enters_of Try.func67 (by kernel_rfl) rfl args w) 44 hc a0 r h
end Go.Proofs.Ytkbbeeeoogjknaa
/- The functions compute their models, by program. -/
namespace Go.Proofs.Ytkbbeeeoogjknaa
open Go.RowKit
attribute [local irreducible] AV.exact AV.top AV.row AV.ptr AV.agg AV.tup AV.eptr AV.fn AV.nilq AV.nilqn opA opB opM opR Quiet Loud Reads wpG awp den Sub SubU Pure Fun vecI vecT boxI CellsAll CellsOf OneC LEs LEss
set_option maxRecDepth 100000

set_option maxHeartbeats 4000000 in
theorem m_gen_New_ok (a0 : List Int) (r : ((List Int) × Int)) (h : m_gen_New a0 = some r) : Fun Try.prog 10 [(.row 1 c_int a0)] [] (fun a s => ∃ z0, a = pA z0 0 ∧ s = [boxI 58 z0 [.row 1 c_int r.1, .exact (.int .i64 r.2)]]) := by
  unfold m_gen_New at h
  refine fun_of_awp Try.func10 rfl Try.ntmps10 (by simp) rfl (res1 rfl) fun E hE => k_end ?_
  refine k_seq ?_
  refine k_reg .free hmixP (by kernel_rfl) ?_
  refine G_q rfl (op_assign (av := _) rfl ?_)
  refine G_nil ?_
  refine kC_normal ?_
  refine k_seq ?_
  refine k_reg .free hmixP (by kernel_rfl) ?_
  refine G_q rfl (op_move (av := .row 1 c_int a0) rfl ?_)
  refine G_q rfl (op_bld (c' := c_cspcheckgen_Choices (a0, 0)) (CellsAll.cons rfl CellsOf.row CellsAll.nil) rfl (LEs.cons (AV.le_eq rfl) (LEs.cons (AV.le_eq rfl) LEs.nil)) ?_)
  refine G_l rfl (op_boxI (c := [.row 1 c_int ((a0, 0).1), .exact (.int .i64 ((a0, 0).2))]) rfl CellsOf.agg (LEs.cons (AV.le_eq rfl) (LEs.cons (AV.le_eq rfl) LEs.nil)) (fun b1 => ?_))
  refine G_q rfl (op_assign (av := pA b1 0) rfl ?_)
  refine G_nil ?_
  refine kC_normal ?_
  refine k_ret ?_
  obtain rfl := Option.some.inj h
  refine kP_any (endN (af' := (AF.put AF0 (some 2) (pA b1 0))) (σ' := [boxI 58 b1 [.row 1 c_int ((a0, 0).1), .exact (.int .i64 ((a0, 0).2))]]) _ rfl ?_ ⟨b1, rfl, rfl⟩)
  exact Sub.of_le (AF.le_put (AV.le_eq rfl) (AF.le_top _))
set_option maxHeartbeats 4000000 in
theorem m_help_Mod_ok (a0 : Int) (a1 : Int) (r : Int) (h : m_help_Mod a0 a1 = some r) : Pure Try.prog 25 [(.exact (.int .i64 a0)), (.exact (.int .i64 a1))] (.exact (.int .i64 r)) := by
  unfold m_help_Mod at h
  refine Pure.ofFun (fun_of_awp Try.func25 rfl Try.ntmps25 (by simp) rfl (res1 rfl) fun E hE => k_end ?_)
  refine k_seq ?_
  refine k_reg .free hmixP (by kernel_rfl) ?_
  refine G_q rfl (op_assign (av := .exact (.int .i64 0)) rfl ?_)
  refine G_nil ?_
  refine kC_normal ?_
  refine k_seq ?_
  refine k_reg .free hmixP (by kernel_rfl) ?_
  refine G_q rfl (op_move (av := .exact (.int .i64 a0)) rfl ?_)
  refine G_q rfl (op_convInt (k := .u64) (by kernel_rfl) rfl rfl ?_)
  refine G_q rfl (op_move (av := .exact (.int .i64 a1)) rfl ?_)
  refine G_q rfl (op_convInt (k := .u64) (by kernel_rfl) rfl rfl ?_)
  obtain ⟨n1, h⟩ := need_some h
  refine G_q rfl (op_rem rfl rfl n1 rfl ?_)
  refine G_q rfl (op_convInt (k := .i64) (by kernel_rfl) rfl rfl ?_)
  refine G_q rfl (op_assign (av := .exact (.int .i64 (i64 (Int.tmod (IntKind.u64.wrap (a0)) (IntKind.u64.wrap (a1)))))) rfl ?_)
  refine G_nil ?_
  refine kC_normal ?_
  refine k_ret ?_
  obtain rfl := Option.some.inj h
  refine kP_any (endN (af' := (AF.put AF0 (some 4) (.exact (.int .i64 (i64 (Int.tmod (IntKind.u64.wrap (a0)) (IntKind.u64.wrap (a1)))))))) (σ' := []) _ rfl ?_ ⟨rfl, rfl⟩)
  exact Sub.of_le (AF.le_put (AV.le_eq rfl) (AF.le_top _))
set_option maxHeartbeats 4000000 in
theorem m_gen_Choices_Next_ok {w0 : Nat} (a0 : (List Int) × Int) (a1 : Int) (r : Int × ((List Int) × Int)) (h : m_gen_Choices_Next a0 a1 = some r) : Fun Try.prog 11 [(pA w0 0), (.exact (.int .i64 a1))] [boxI 58 w0 [.row 1 c_int a0.1, .exact (.int .i64 a0.2)]] (fun a s => a = .exact (.int .i64 r.1) ∧ s = [boxI 58 w0 [.row 1 c_int r.2.1, .exact (.int .i64 r.2.2)]]) := by
  unfold m_gen_Choices_Next at h
  refine fun_of_awp Try.func11 rfl Try.ntmps11 (by simp) rfl (res1 rfl) fun E hE => k_end ?_
  refine k_seq ?_
  refine k_reg .free hmixP (by kernel_rfl) ?_
  refine G_q rfl (op_assign (av := .exact (.int .i64 0)) rfl ?_)
  refine G_nil ?_
  refine kC_normal ?_
  refine k_seq ?_
  refine k_seq ?_
  refine k_plan [] [(0, 0), (0, 1), (0, 2), (0, 4), (0, 5), (0, 6), (1, 3), (1, 7), (0, 8), (0, 9)] hmixP (by kernel_rfl) ?_
  refine P_q no34_0 rfl (op_move (av := pA w0 0) rfl ?_)
  refine P_q no34_0 rfl (op_nilCheck rfl ?_)
  refine P_q no34_0 rfl (op_fieldAddr (o := 1) (by kernel_rfl) rfl ?_)
  refine P_q no34_0 rfl (op_move (av := pA w0 0) rfl ?_)
  refine P_q no34_0 rfl (op_nilCheck rfl ?_)
  refine P_q no34_0 rfl (op_fieldAddr (o := 0) (by kernel_rfl) rfl ?_)
  refine P_r rfl (op_load_box1 (a := .exact (.int .i64 a0.2)) (by kernel_rfl) rfl rfl ?_)
  refine P_r rfl (op_load_box1 (a := .row 1 c_int a0.1) (by kernel_rfl) rfl rfl ?_)
  refine P_q no34_0 rfl (op_len_row (by kernel_rfl) rfl ?_)
  refine P_q no34_0 rfl (op_geq rfl rfl ?_)
  refine P_nil ?_
  refine kC_normal ?_
  refine k_cond_d (p := (List.length a0.1 : Int) ≤ a0.2) rfl (fun hc => ?_) (fun hc => ?_)
  · replace h := ite_t h hc
    refine k_seq ?_
    refine k_reg .free hmixP (by kernel_rfl) ?_
    refine G_q rfl (op_assign (av := .exact (.int .i64 0)) rfl ?_)
    refine G_nil ?_
    refine kC_normal ?_
    refine k_ret ?_
    refine kC_ret ?_
    obtain rfl := Option.some.inj h
    refine kP_any (endN (af' := (AF.put AF0 (some 4) (.exact (.int .i64 0)))) (σ' := [boxI 58 w0 [.row 1 c_int a0.1, .exact (.int .i64 a0.2)]]) _ rfl ?_ ⟨rfl, rfl⟩)
    exact Sub.of_le (AF.le_put (AV.le_eq rfl) (AF.le_top _))
  · replace h := ite_f h hc
    refine k_skip ?_
    refine kC_normal ?_
    refine k_seq ?_
    refine k_reg .free hmixP (by kernel_rfl) ?_
    refine G_q rfl (op_move (av := pA w0 0) rfl ?_)
    refine G_q rfl (op_nilCheck rfl ?_)
    refine G_q rfl (op_fieldAddr (o := 1) (by kernel_rfl) rfl ?_)
    refine G_r rfl (op_load_box1 (a := .exact (.int .i64 a0.2)) (by kernel_rfl) rfl rfl ?_)
    refine G_q rfl (op_add rfl rfl rfl ?_)
    refine G_q rfl (op_nilCheck rfl ?_)
    refine G_q rfl (op_fieldAddr (o := 1) (by kernel_rfl) rfl ?_)
    refine G_l rfl (op_store_box (c' := [.exact (.int .i64 (i64 (a0.2 + 1)))]) (c3 := [.row 1 c_int a0.1, .exact (.int .i64 (i64 (a0.2 + 1)))]) rfl rfl CellsOf.int (LEs.cons (AV.le_eq rfl) LEs.nil) (OneC.int OneC.nil) (by kernel_rfl) (Nat.le_of_ble_eq_true rfl) rfl ?_)
    refine G_nil ?_
    refine kC_normal ?_
    refine k_seq ?_
    refine k_plan [] [(0, 0), (0, 1), (0, 2), (0, 4), (0, 5), (0, 6), (0, 11), (1, 3), (1, 7), (0, 8), (0, 9), (0, 10), (0, 12), (0, 13)] hmixP (by kernel_rfl) ?_
    refine P_q no34_0 rfl (op_move (av := pA w0 0) rfl ?_)
    refine P_q no34_0 rfl (op_nilCheck rfl ?_)
    refine P_q no34_0 rfl (op_fieldAddr (o := 0) (by kernel_rfl) rfl ?_)
    refine P_q no34_0 rfl (op_move (av := pA w0 0) rfl ?_)
    refine P_q no34_0 rfl (op_nilCheck rfl ?_)
    refine P_q no34_0 rfl (op_fieldAddr (o := 1) (by kernel_rfl) rfl ?_)
    refine P_q no34_0 rfl (op_move (av := .exact (.int .i64 a1)) rfl ?_)
    refine P_r rfl (op_load_box1 (a := .row 1 c_int a0.1) (by kernel_rfl) rfl rfl ?_)
    refine P_r rfl (op_load_box1 (a := .exact (.int .i64 (i64 (a0.2 + 1)))) (by kernel_rfl) rfl rfl ?_)
    refine P_q no34_0 rfl (op_sub rfl rfl rfl ?_)
    obtain ⟨n1, h⟩ := need_some h
    refine P_q no34_0 rfl (op_index_row (by kernel_rfl) rfl rfl n1.1 n1.2 ?_)
    refine P_q no34_0 rfl (op_load1p (a := .exact (.int .i64 (gi a0.1 (i64 ((i64 (a0.2 + 1)) - 1))))) (by kernel_rfl) rfl rfl ?_)
    obtain ⟨y2, hy2, h⟩ := bnd1_some h
    refine P_q no34_0 rfl (op_pure (m_help_Mod_ok _ _ _ hy2) Try.func25 (by kernel_rfl) (LEs.cons (AV.le_eq rfl) (LEs.cons (AV.le_eq rfl) LEs.nil)) ?_)
    refine P_q no34_0 rfl (op_assign (av := .exact (.int .i64 y2)) rfl ?_)
    refine P_nil ?_
    refine kC_normal ?_
    refine k_ret ?_
    obtain rfl := Option.some.inj h
    refine kP_any (endN (af' := (AF.put AF0 (some 4) (.exact (.int .i64 y2)))) (σ' := [boxI 58 w0 [.row 1 c_int a0.1, .exact (.int .i64 (i64 (a0.2 + 1)))]]) _ rfl ?_ ⟨rfl, rfl⟩)
    exact Sub.of_le (AF.le_put (AV.le_eq rfl) (AF.le_top _))
set_option maxHeartbeats 4000000 in
theorem m_gen_Choices_Event_ok {w0 : Nat} (a0 : (List Int) × Int) (r : Int × ((List Int) × Int)) (h : m_gen_Choices_Event a0 = some r) : Fun Try.prog 12 [(pA w0 0)] [boxI 58 w0 [.row 1 c_int a0.1, .exact (.int .i64 a0.2)]] (fun a s => a = .exact (.int .i64 r.1) ∧ s = [boxI 58 w0 [.row 1 c_int r.2.1, .exact (.int .i64 r.2.2)]]) := by
  unfold m_gen_Choices_Event at h
  refine fun_of_awp Try.func12 rfl Try.ntmps12 (by simp) rfl (res1 rfl) fun E hE => k_end ?_
  refine k_seq ?_
  refine k_reg .free hmixP (by kernel_rfl) ?_
  refine G_q rfl (op_assign (av := .exact (.int .i64 0)) rfl ?_)
  refine G_nil ?_
  refine kC_normal ?_
  refine k_seq ?_
  refine k_reg .free hmixP (by kernel_rfl) ?_
  refine G_q rfl (op_move (av := pA w0 0) rfl ?_)
  obtain ⟨y1, hy1, h⟩ := bnd1_some h
  refine G_l rfl (op_fun_1_0_1 (m_gen_Choices_Next_ok _ _ _ hy1) Try.func11 (by kernel_rfl) (LEs.cons (AV.le_eq rfl) (LEs.cons (AV.le_eq rfl) LEs.nil)) ?_)
  refine G_q rfl (op_add rfl rfl rfl ?_)
  refine G_q rfl (op_assign (av := .exact (.int .i64 (i64 (2 + y1.1)))) rfl ?_)
  refine G_nil ?_
  refine kC_normal ?_
  refine k_ret ?_
  obtain rfl := Option.some.inj h
  refine kP_any (endN (af' := (AF.put AF0 (some 2) (.exact (.int .i64 (i64 (2 + y1.1)))))) (σ' := [boxI 58 w0 [.row 1 c_int y1.2.1, .exact (.int .i64 y1.2.2)]]) _ rfl ?_ ⟨rfl, rfl⟩)
  exact Sub.of_le (AF.le_put (AV.le_eq rfl) (AF.le_top _))
set_option maxHeartbeats 4000000 in
theorem m_alphabet_visible_ok (a0 : Int) (r : Bool) (h : m_alphabet_visible a0 = some r) : Pure Try.prog 51 [(.exact (.int .i64 a0))] (.exact (.bool r)) := by
  unfold m_alphabet_visible at h
  refine Pure.ofFun (fun_of_awp Try.func51 rfl Try.ntmps51 (by simp) rfl (res1 rfl) fun E hE => k_end ?_)
  refine k_seq ?_
  refine k_reg .free hmixP (by kernel_rfl) ?_
  refine G_q rfl (op_assign (av := .exact (.bool false)) rfl ?_)
  refine G_nil ?_
  refine kC_normal ?_
  refine k_join1_0 h (fun (x2_j1 : Bool) => (AF.put AF0 (some 2) (.exact (.bool x2_j1)))) (fun (x2_j1 : Bool) => []) (fun k1 h => ?_) (fun x2_j1 h => ?_)
  · refine k_reg .free hmixP (by kernel_rfl) ?_
    refine G_q rfl (op_move (av := .exact (.int .i64 a0)) rfl ?_)
    refine G_q rfl (op_geq rfl rfl ?_)
    refine G_q rfl (op_move (av := .exact (.bool (decide (2 ≤ a0)))) rfl ?_)
    refine G_split (p := 2 ≤ a0) 5 rfl (fun hc => ?_) (fun hc => ?_)
    · replace h := ite_t h hc
      refine Gy_q rfl rfl rfl (op_move (av := .exact (.int .i64 a0)) rfl ?_)
      refine Gy_q rfl rfl rfl (op_lss rfl rfl ?_)
      refine G_q rfl (op_pick_t rfl (av := .exact (.bool (decide (a0 < 1026)))) rfl ?_)
      refine G_q rfl (op_assign (av := .exact (.bool (decide (a0 < 1026)))) rfl ?_)
      refine G_nil ?_
      refine kI_normal ⟨_, h, ?_⟩
      exact Sub.of_le (AF.le_put (AV.le_eq rfl) (AF.le_top _))
    · replace h := ite_f h hc
      refine G_n rfl rfl ?_
      refine G_n rfl rfl ?_
      refine G_q rfl (op_pick_f rfl (av := .exact (.bool false)) rfl ?_)
      refine G_q rfl (op_assign (av := .exact (.bool false)) rfl ?_)
      refine G_nil ?_
      refine kI_normal ⟨_, h, ?_⟩
      exact Sub.of_le (AF.le_put (AV.le_eq rfl) (AF.le_top _))
  · refine k_ret ?_
    obtain rfl := Option.some.inj h
    refine kP_any (endN (af' := (AF.put AF0 (some 2) (.exact (.bool x2_j1)))) (σ' := []) _ rfl ?_ ⟨rfl, rfl⟩)
    exact Sub.of_le (AF.le_put (AV.le_eq rfl) (AF.le_top _))
set_option maxHeartbeats 4000000 in
theorem m_cmp_isNaN_int_ok (a0 : Int) (r : Bool) (h : m_cmp_isNaN_int a0 = some r) : Pure Try.prog 99 [(.exact (.int .i64 a0))] (.exact (.bool r)) := by
  unfold m_cmp_isNaN_int at h
  refine Pure.ofFun (fun_of_awp Try.func99 rfl Try.ntmps99 (by simp) rfl (res1 rfl) fun E hE => k_end ?_)
  refine k_seq ?_
  refine k_reg .free hmixP (by kernel_rfl) ?_
  refine G_q rfl (op_assign (av := .exact (.bool false)) rfl ?_)
  refine G_nil ?_
  refine kC_normal ?_
  refine k_seq ?_
  refine k_reg .free hmixP (by kernel_rfl) ?_
  refine G_q rfl (op_move (av := .exact (.int .i64 a0)) rfl ?_)
  refine G_q rfl (op_move (av := .exact (.int .i64 a0)) rfl ?_)
  refine G_q rfl (op_neq rfl rfl ?_)
  refine G_q rfl (op_assign (av := .exact (.bool (decide (¬ a0 = a0)))) rfl ?_)
  refine G_nil ?_
  refine kC_normal ?_
  refine k_ret ?_
  obtain rfl := Option.some.inj h
  refine kP_any (endN (af' := (AF.put AF0 (some 2) (.exact (.bool (decide (¬ a0 = a0)))))) (σ' := []) _ rfl ?_ ⟨rfl, rfl⟩)
  exact Sub.of_le (AF.le_put (AV.le_eq rfl) (AF.le_top _))
set_option maxHeartbeats 4000000 in
theorem m_cmp_Compare_int_ok (a0 : Int) (a1 : Int) (r : Int) (h : m_cmp_Compare_int a0 a1 = some r) : Pure Try.prog 83 [(.exact (.int .i64 a0)), (.exact (.int .i64 a1))] (.exact (.int .i64 r)) := by
  unfold m_cmp_Compare_int at h
  refine Pure.ofFun (fun_of_awp Try.func83 rfl Try.ntmps83 (by simp) rfl (res1 rfl) fun E hE => k_end ?_)
  refine k_seq ?_
  refine k_reg .free hmixP (by kernel_rfl) ?_
  refine G_q rfl (op_assign (av := .exact (.int .i64 0)) rfl ?_)
  refine G_nil ?_
  refine kC_normal ?_
  refine k_seq ?_
  refine k_reg .free hmixP (by kernel_rfl) ?_
  refine G_q rfl (op_move (av := .exact (.int .i64 a0)) rfl ?_)
  obtain ⟨y1, hy1, h⟩ := bnd1_some h
  refine G_q rfl (op_pure (m_cmp_isNaN_int_ok _ _ hy1) Try.func99 (by kernel_rfl) (LEs.cons (AV.le_eq rfl) LEs.nil) ?_)
  refine G_q rfl (op_assign (av := .exact (.bool y1)) rfl ?_)
  refine G_nil ?_
  refine kC_normal ?_
  refine k_seq ?_
  refine k_reg .free hmixP (by kernel_rfl) ?_
  refine G_q rfl (op_move (av := .exact (.int .i64 a1)) rfl ?_)
  obtain ⟨y2, hy2, h⟩ := bnd1_some h
  refine G_q rfl (op_pure (m_cmp_isNaN_int_ok _ _ hy2) Try.func99 (by kernel_rfl) (LEs.cons (AV.le_eq rfl) LEs.nil) ?_)
  refine G_q rfl (op_assign (av := .exact (.bool y2)) rfl ?_)
  refine G_nil ?_
  refine kC_normal ?_
  refine k_seq ?_
  refine k_seq ?_
  refine k_reg .free hmixP (by kernel_rfl) ?_
  refine G_q rfl (op_move (av := .exact (.bool y1)) rfl ?_)
  refine G_nil ?_
  refine kC_normal ?_
  refine k_cond_b (c := y1) rfl (fun hc => ?_) (fun hc => ?_)
  · replace h := ite_t h hc
    refine k_seq ?_
    refine k_seq ?_
    refine k_reg .free hmixP (by kernel_rfl) ?_
    refine G_q rfl (op_move (av := .exact (.bool y2)) rfl ?_)
    refine G_nil ?_
    refine kC_normal ?_
    refine k_cond_b (c := y2) rfl (fun hc => ?_) (fun hc => ?_)
    · replace h := ite_t h hc
      refine k_seq ?_
      refine k_reg .free hmixP (by kernel_rfl) ?_
      refine G_q rfl (op_assign (av := .exact (.int .i64 0)) rfl ?_)
      refine G_nil ?_
      refine kC_normal ?_
      refine k_ret ?_
      refine kC_ret ?_
      refine kC_ret ?_
      obtain rfl := Option.some.inj h
      refine kP_any (endN (af' := (AF.put AF0 (some 4) (.exact (.int .i64 0)))) (σ' := []) _ rfl ?_ ⟨rfl, rfl⟩)
      exact Sub.of_le (AF.le_put (AV.le_eq rfl) (AF.le_top _))
    · replace h := ite_f h hc
      refine k_skip ?_
      refine kC_normal ?_
      refine k_seq ?_
      refine k_reg .free hmixP (by kernel_rfl) ?_
      refine G_q rfl (op_assign (av := .exact (.int .i64 (-1))) rfl ?_)
      refine G_nil ?_
      refine kC_normal ?_
      refine k_ret ?_
      refine kC_ret ?_
      obtain rfl := Option.some.inj h
      refine kP_any (endN (af' := (AF.put AF0 (some 4) (.exact (.int .i64 (-1))))) (σ' := []) _ rfl ?_ ⟨rfl, rfl⟩)
      exact Sub.of_le (AF.le_put (AV.le_eq rfl) (AF.le_top _))
  · replace h := ite_f h hc
    refine k_skip ?_
    refine kC_normal ?_
    refine k_seq ?_
    refine k_seq ?_
    refine k_reg .free hmixP (by kernel_rfl) ?_
    refine G_q rfl (op_move (av := .exact (.bool y2)) rfl ?_)
    refine G_nil ?_
    refine kC_normal ?_
    refine k_cond_b (c := y2) rfl (fun hc => ?_) (fun hc => ?_)
    · replace h := ite_t h hc
      refine k_seq ?_
      refine k_reg .free hmixP (by kernel_rfl) ?_
      refine G_q rfl (op_assign (av := .exact (.int .i64 1)) rfl ?_)
      refine G_nil ?_
      refine kC_normal ?_
      refine k_ret ?_
      refine kC_ret ?_
      obtain rfl := Option.some.inj h
      refine kP_any (endN (af' := (AF.put AF0 (some 4) (.exact (.int .i64 1)))) (σ' := []) _ rfl ?_ ⟨rfl, rfl⟩)
      exact Sub.of_le (AF.le_put (AV.le_eq rfl) (AF.le_top _))
    · replace h := ite_f h hc
      refine k_skip ?_
      refine kC_normal ?_
      refine k_seq ?_
      refine k_seq ?_
      refine k_reg .free hmixP (by kernel_rfl) ?_
      refine G_q rfl (op_move (av := .exact (.int .i64 a0)) rfl ?_)
      refine G_q rfl (op_move (av := .exact (.int .i64 a1)) rfl ?_)
      refine G_q rfl (op_lss rfl rfl ?_)
      refine G_nil ?_
      refine kC_normal ?_
      refine k_cond_d (p := a0 < a1) rfl (fun hc => ?_) (fun hc => ?_)
      · replace h := ite_t h hc
        refine k_seq ?_
        refine k_reg .free hmixP (by kernel_rfl) ?_
        refine G_q rfl (op_assign (av := .exact (.int .i64 (-1))) rfl ?_)
        refine G_nil ?_
        refine kC_normal ?_
        refine k_ret ?_
        refine kC_ret ?_
        obtain rfl := Option.some.inj h
        refine kP_any (endN (af' := (AF.put AF0 (some 4) (.exact (.int .i64 (-1))))) (σ' := []) _ rfl ?_ ⟨rfl, rfl⟩)
        exact Sub.of_le (AF.le_put (AV.le_eq rfl) (AF.le_top _))
      · replace h := ite_f h hc
        refine k_skip ?_
        refine kC_normal ?_
        refine k_seq ?_
        refine k_seq ?_
        refine k_reg .free hmixP (by kernel_rfl) ?_
        refine G_q rfl (op_move (av := .exact (.int .i64 a0)) rfl ?_)
        refine G_q rfl (op_move (av := .exact (.int .i64 a1)) rfl ?_)
        refine G_q rfl (op_gtr rfl rfl ?_)
        refine G_nil ?_
        refine kC_normal ?_
        refine k_cond_d (p := a1 < a0) rfl (fun hc => ?_) (fun hc => ?_)
        · replace h := ite_t h hc
          refine k_seq ?_
          refine k_reg .free hmixP (by kernel_rfl) ?_
          refine G_q rfl (op_assign (av := .exact (.int .i64 1)) rfl ?_)
          refine G_nil ?_
          refine kC_normal ?_
          refine k_ret ?_
          refine kC_ret ?_
          obtain rfl := Option.some.inj h
          refine kP_any (endN (af' := (AF.put AF0 (some 4) (.exact (.int .i64 1)))) (σ' := []) _ rfl ?_ ⟨rfl, rfl⟩)
          exact Sub.of_le (AF.le_put (AV.le_eq rfl) (AF.le_top _))
        · replace h := ite_f h hc
          refine k_skip ?_
          refine kC_normal ?_
          refine k_seq ?_
          refine k_reg .free hmixP (by kernel_rfl) ?_
          refine G_q rfl (op_assign (av := .exact (.int .i64 0)) rfl ?_)
          refine G_nil ?_
          refine kC_normal ?_
          refine k_ret ?_
          obtain rfl := Option.some.inj h
          refine kP_any (endN (af' := (AF.put AF0 (some 4) (.exact (.int .i64 0)))) (σ' := []) _ rfl ?_ ⟨rfl, rfl⟩)
          exact Sub.of_le (AF.le_put (AV.le_eq rfl) (AF.le_top _))
set_option maxHeartbeats 4000000 in
theorem m_cmp_Or_int_ok (a0 : List Int) (r : Int) (h : m_cmp_Or_int a0 = some r) : Pure Try.prog 82 [(.row 1 c_int a0)] (.exact (.int .i64 r)) := by
  unfold m_cmp_Or_int at h
  refine Pure.ofFun (fun_of_awp Try.func82 rfl Try.ntmps82 (by simp) rfl (res1 rfl) fun E hE => k_end ?_)
  refine k_seq ?_
  refine k_reg .free hmixP (by kernel_rfl) ?_
  refine G_q rfl (op_assign (av := .exact (.int .i64 0)) rfl ?_)
  refine G_nil ?_
  refine kC_normal ?_
  refine k_seq ?_
  refine k_reg .free hmixP (by kernel_rfl) ?_
  refine G_q rfl (op_assign (av := .exact (.int .i64 0)) rfl ?_)
  refine G_nil ?_
  refine kC_normal ?_
  refine k_join0_0 h ((AF.put AF0 (some 3) (.exact (.int .i64 0)))) ([]) (fun k1 h => ?_) (fun  h => ?_)
  · refine k_seq ?_
    refine k_reg .free hmixP (by kernel_rfl) ?_
    refine G_q rfl (op_move (av := .row 1 c_int a0) rfl ?_)
    refine G_q rfl (op_len_row (by kernel_rfl) rfl ?_)
    refine G_q rfl (op_move (av := .exact (.int .i64 0)) rfl ?_)
    refine G_nil ?_
    refine kC_normal ?_
    refine k_block ?_
    refine k_loop1_0 (m_cmp_Or_int_L2 a0 k1) (m_cmp_Or_int_B2 a0 k1) (fun _ => rfl) (fun m _ => rfl) h (fun (x8_l2 : Int) => (AF.put (AF.put (AF.put (AF.put AF0 (some 3) (.exact (.int .i64 0))) (some 6) (.row 1 c_int a0)) (some 7) (.exact (.int .i64 (List.length a0 : Int)))) (some 8) (.exact (.int .i64 x8_l2)))) (fun (x8_l2 : Int) => []) ?_ (fun rec2 x8_l2 h => ?_)
    · exact Sub.of_le (AF.le_put (AV.le_eq rfl) (AF.le_put (AV.le_eq rfl) (AF.le_put (AV.le_eq rfl) (AF.le_put (AV.le_eq rfl) (AF.le_top _)))))
    · unfold m_cmp_Or_int_B2 at h
      refine k_seq ?_
      refine k_reg .free hmixP (by kernel_rfl) ?_
      refine G_q rfl (op_lss rfl rfl ?_)
      refine G_nil ?_
      refine kC_normal ?_
      refine k_seq ?_
      refine k_cond_d (p := x8_l2 < (List.length a0 : Int)) rfl (fun hc => ?_) (fun hc => ?_)
      · replace h := ite_t h hc
        refine k_skip ?_
        refine kC_normal ?_
        refine k_seq ?_
        refine k_block ?_
        refine k_seq ?_
        refine k_reg .free hmixP (by kernel_rfl) ?_
        obtain ⟨n8, h⟩ := need_some h
        refine G_q rfl (op_index_row (by kernel_rfl) rfl rfl n8.1 n8.2 ?_)
        refine G_q rfl (op_load1p (a := .exact (.int .i64 (gi a0 x8_l2))) (by kernel_rfl) rfl rfl ?_)
        refine G_q rfl (op_assign (av := .exact (.int .i64 (gi a0 x8_l2))) rfl ?_)
        refine G_nil ?_
        refine kC_normal ?_
        refine k_seq ?_
        refine k_reg .free hmixP (by kernel_rfl) ?_
        refine G_q rfl (op_move (av := .exact (.int .i64 (gi a0 x8_l2))) rfl ?_)
        refine G_q rfl (op_move (av := .exact (.int .i64 0)) rfl ?_)
        refine G_q rfl (op_neq rfl rfl ?_)
        refine G_nil ?_
        refine kC_normal ?_
        refine k_cond_d (p := ¬ (gi a0 x8_l2) = 0) rfl (fun hc => ?_) (fun hc => ?_)
        · replace h := ite_t h hc
          refine k_seq ?_
          refine k_reg .free hmixP (by kernel_rfl) ?_
          refine G_q rfl (op_move (av := .exact (.int .i64 (gi a0 x8_l2))) rfl ?_)
          refine G_q rfl (op_assign (av := .exact (.int .i64 (gi a0 x8_l2))) rfl ?_)
          refine G_nil ?_
          refine kC_normal ?_
          refine k_ret ?_
          refine kB_ret ?_
          refine kC_ret ?_
          refine kI_ret ?_
          refine kB_ret ?_
          refine kI_ret ?_
          obtain rfl := Option.some.inj h
          refine kP_any (endN (af' := (AF.put AF0 (some 2) (.exact (.int .i64 (gi a0 x8_l2))))) (σ' := []) _ rfl ?_ ⟨rfl, rfl⟩)
          exact Sub.of_le (AF.le_put (AV.le_eq rfl) (AF.le_top _))
        · replace h := ite_f h hc
          refine k_skip ?_
          refine kB_normal ?_
          refine kC_normal ?_
          refine k_reg .free hmixP (by kernel_rfl) ?_
          refine G_q rfl (op_add rfl rfl rfl ?_)
          refine G_q rfl (op_move (av := .exact (.int .i64 (i64 (x8_l2 + 1)))) rfl ?_)
          refine G_nil ?_
          refine kI_normal ⟨_, h, ?_⟩
          exact Sub.of_le (AF.le_put (AV.le_eq rfl) (AF.le_put (AV.le_eq rfl) (AF.le_put (AV.le_eq rfl) (AF.le_put (AV.le_eq rfl) (AF.le_top _)))))
      · replace h := ite_f h hc
        refine k_exit ?_
        refine kC_exit ?_
        refine kI_exit ?_
        refine kB_exit ?_
        refine kI_normal ⟨h, ?_⟩
        exact Sub.of_le (AF.le_put (AV.le_eq rfl) (AF.le_top _))
  · refine k_seq ?_
    refine k_reg .free hmixP (by kernel_rfl) ?_
    refine G_q rfl (op_move (av := .exact (.int .i64 0)) rfl ?_)
    refine G_q rfl (op_assign (av := .exact (.int .i64 0)) rfl ?_)
    refine G_nil ?_
    refine kC_normal ?_
    refine k_ret ?_
    obtain rfl := Option.some.inj h
    refine kP_any (endN (af' := (AF.put AF0 (some 2) (.exact (.int .i64 0)))) (σ' := []) _ rfl ?_ ⟨rfl, rfl⟩)
    exact Sub.of_le (AF.le_put (AV.le_eq rfl) (AF.le_top _))
set_option maxHeartbeats 4000000 in
theorem m_alphabet_compareAbove_ok (a0 : Int × Int) (a1 : Int × Int) (r : Int) (h : m_alphabet_compareAbove a0 a1 = some r) : Pure Try.prog 54 [(.agg (c_api_Above a0)), (.agg (c_api_Above a1))] (.exact (.int .i64 r)) := by
  unfold m_alphabet_compareAbove at h
  refine Pure.ofFun (fun_of_awp Try.func54 rfl Try.ntmps54 (by simp) rfl (res1 rfl) fun E hE => k_end ?_)
  refine k_seq ?_
  refine k_reg .free hmixP (by kernel_rfl) ?_
  refine G_q rfl (op_box (c := c_api_Above a0) rfl CellsOf.agg ?_)
  refine G_q rfl (op_box (c := c_api_Above a1) rfl CellsOf.agg ?_)
  refine G_q rfl (op_assign (av := .exact (.int .i64 0)) rfl ?_)
  refine G_nil ?_
  refine kC_normal ?_
  refine k_seq ?_
  refine k_plan [] [(0, 0), (0, 1), (0, 2), (0, 3), (0, 4), (0, 5), (0, 6), (0, 7), (0, 8), (0, 9), (0, 10), (0, 11), (0, 12)] hmixP (by kernel_rfl) ?_
  refine P_q no34_0 rfl (op_fieldAddr_ptr (o := 0) (c' := (List.drop 0 (c_api_Above a0))) (by kernel_rfl) rfl rfl ?_)
  refine P_q no34_0 rfl (op_load1p (a := .exact (.int .i64 a0.1)) (by kernel_rfl) rfl rfl ?_)
  refine P_q no34_0 rfl (op_fieldAddr_ptr (o := 0) (c' := (List.drop 0 (c_api_Above a1))) (by kernel_rfl) rfl rfl ?_)
  refine P_q no34_0 rfl (op_load1p (a := .exact (.int .i64 a1.1)) (by kernel_rfl) rfl rfl ?_)
  obtain ⟨y1, hy1, h⟩ := bnd1_some h
  refine P_q no34_0 rfl (op_pure (m_cmp_Compare_int_ok _ _ _ hy1) Try.func83 (by kernel_rfl) (LEs.cons (AV.le_eq rfl) (LEs.cons (AV.le_eq rfl) LEs.nil)) ?_)
  refine P_q no34_0 rfl (op_fieldAddr_ptr (o := 1) (c' := (List.drop 1 (c_api_Above a0))) (by kernel_rfl) rfl rfl ?_)
  refine P_q no34_0 rfl (op_load1p (a := .exact (.int .i64 a0.2)) (by kernel_rfl) rfl rfl ?_)
  refine P_q no34_0 rfl (op_fieldAddr_ptr (o := 1) (c' := (List.drop 1 (c_api_Above a1))) (by kernel_rfl) rfl rfl ?_)
  refine P_q no34_0 rfl (op_load1p (a := .exact (.int .i64 a1.2)) (by kernel_rfl) rfl rfl ?_)
  obtain ⟨y2, hy2, h⟩ := bnd1_some h
  refine P_q no34_0 rfl (op_pure (m_cmp_Compare_int_ok _ _ _ hy2) Try.func83 (by kernel_rfl) (LEs.cons (AV.le_eq rfl) (LEs.cons (AV.le_eq rfl) LEs.nil)) ?_)
  refine P_q no34_0 rfl (op_litT (n := 1) (enc := c_int) [y1, y2] (CellsAll.cons rfl CellsOf.int (CellsAll.cons rfl CellsOf.int CellsAll.nil)) rfl (by kernel_rfl) (LEss.cons (LEs.cons (AV.le_eq rfl) LEs.nil) (LEss.cons (LEs.cons (AV.le_eq rfl) LEs.nil) LEss.nil)) ?_)
  obtain ⟨y3, hy3, h⟩ := bnd1_some h
  refine P_q no34_0 rfl (op_pure (m_cmp_Or_int_ok _ _ hy3) Try.func82 (by kernel_rfl) (LEs.cons (AV.le_eq rfl) LEs.nil) ?_)
  refine P_q no34_0 rfl (op_assign (av := .exact (.int .i64 y3)) rfl ?_)
  refine P_nil ?_
  refine kC_normal ?_
  refine k_ret ?_
  obtain rfl := Option.some.inj h
  refine kP_any (endN (af' := (AF.put AF0 (some 4) (.exact (.int .i64 y3)))) (σ' := []) _ rfl ?_ ⟨rfl, rfl⟩)
  exact Sub.of_le (AF.le_put (AV.le_eq rfl) (AF.le_top _))
set_option maxHeartbeats 4000000 in
theorem m_slices_Clip_L_api_Above_api_Above_ok {w0 : Value} (a0 : List (Int × Int)) (r : (List (Int × Int))) (h : m_slices_Clip_L_api_Above_api_Above a0 = some r) : Fun Try.prog 55 [(.exact w0)] [vecT Try.prog 22 2 c_api_Above w0 a0] (fun a s => a = .row 2 c_api_Above r ∧ s = []) := by
  unfold m_slices_Clip_L_api_Above_api_Above at h
  refine fun_of_awp Try.func55 rfl Try.ntmps55 (by simp) rfl (res1 rfl) fun E hE => k_end ?_
  refine k_seq ?_
  refine k_reg .free hmixP (by kernel_rfl) ?_
  refine G_q rfl (op_assign (av := .exact (.slice none 0 0)) rfl ?_)
  refine G_nil ?_
  refine kC_normal ?_
  refine k_seq ?_
  refine k_reg .free hmixP (by kernel_rfl) ?_
  refine G_q rfl (op_move (av := .exact w0) rfl ?_)
  refine G_q rfl (op_move (av := .exact w0) rfl ?_)
  refine G_r rfl (op_len_vec (by kernel_rfl) rfl ?_)
  refine G_q rfl (op_move (av := .exact w0) rfl ?_)
  refine G_r rfl (op_len_vec (by kernel_rfl) rfl ?_)
  refine G_sub rfl (SubU.freezeT3 (s1 := 4) (s2 := 6) (s3 := 3) rfl rfl rfl len_c_api_Above) ?_
  obtain ⟨n1, h⟩ := need_some h
  refine G_q rfl (op_slice_row3 (by kernel_rfl) rfl bnd_none rfl rfl (Int.le_refl 0) n1 (Int.le_refl _) (Int.le_refl _) ?_)
  refine G_q rfl (op_assign (av := .row 2 c_api_Above (List.take (Int.toNat (List.length a0 : Int)) a0)) rfl ?_)
  refine G_nil ?_
  refine kC_normal ?_
  refine k_ret ?_
  obtain rfl := Option.some.inj h
  refine kP_any (endN (af' := (AF.put AF0 (some 2) (.row 2 c_api_Above (List.take (Int.toNat (List.length a0 : Int)) a0)))) (σ' := []) _ rfl ?_ ⟨rfl, rfl⟩)
  exact Sub.of_le (AF.le_put (AV.le_eq rfl) (AF.le_top _))
set_option maxHeartbeats 4000000 in
theorem m_slices_Clone_L_int_int_ok (a0 : List Int) (r : (List Int)) (h : m_slices_Clone_L_int_int a0 = some r) : Fun Try.prog 60 [(.row 1 c_int a0)] [] (fun a s => ∃ z0, a = .exact z0 ∧ s = [vecT Try.prog 23 1 c_int z0 r]) := by
  unfold m_slices_Clone_L_int_int at h
  refine fun_of_awp Try.func60 rfl Try.ntmps60 (by simp) rfl (res1 rfl) fun E hE => k_end ?_
  refine k_seq ?_
  refine k_reg .free hmixP (by kernel_rfl) ?_
  refine G_q rfl (op_assign (av := .exact (.slice none 0 0)) rfl ?_)
  refine G_nil ?_
  refine kC_normal ?_
  refine k_seq ?_
  refine k_seq ?_
  refine k_reg .free hmixP (by kernel_rfl) ?_
  refine G_q rfl (op_move (av := .row 1 c_int a0) rfl ?_)
  refine G_q rfl (op_eqnil_row (by kernel_rfl) rfl ?_)
  refine G_nil ?_
  refine kC_normal ?_
  obtain ⟨h1, h⟩ := nilc_some h
  refine k_cond_u (p := a0 = []) rfl (fun hc => ?_) ?_
  · replace h := h1 hc
    refine k_seq ?_
    refine k_reg .free hmixP (by kernel_rfl) ?_
    refine G_q rfl (op_assign (av := .exact (.slice none 0 0)) rfl ?_)
    refine G_nil ?_
    refine kC_normal ?_
    refine k_ret ?_
    refine kC_ret ?_
    obtain rfl := Option.some.inj h
    refine kP_any (endN (af' := (AF.put AF0 (some 2) (.exact (.slice none 0 0)))) (σ' := [vecT Try.prog 23 1 c_int (.slice none 0 0) []]) _ rfl ?_ ⟨(.slice none 0 0), rfl, rfl⟩)
    refine Sub.trans (SubU.to (SubU.nilT (P := Try.prog) (t := 23) (n := 1) (enc := c_int))) ?_
    exact Sub.of_le (AF.le_put (AV.le_eq rfl) (AF.le_top _))
  · refine k_skip ?_
    refine kC_normal ?_
    refine k_seq ?_
    refine k_reg .free hmixP (by kernel_rfl) ?_
    refine G_l rfl (op_lit0I (enc := c_int) (n := 1) (by kernel_rfl) (fun v1 => ?_))
    refine G_q rfl (op_move (av := .row 1 c_int a0) rfl ?_)
    obtain ⟨n2, h⟩ := need_some h
    refine G_l rfl (op_appT (by kernel_rfl) rfl rfl oc_c_int n2 (fun v3 => ?_))
    refine G_q rfl (op_assign (av := .exact v3) rfl ?_)
    refine G_nil ?_
    refine kC_normal ?_
    refine k_ret ?_
    obtain rfl := Option.some.inj h
    refine kP_any (endN (af' := (AF.put AF0 (some 2) (.exact v3))) (σ' := [vecT Try.prog 23 1 c_int v3 (([] : List Int) ++ a0)]) _ rfl ?_ ⟨v3, rfl, rfl⟩)
    exact Sub.of_le (AF.le_put (AV.le_eq rfl) (AF.le_top _))
end Go.Proofs.Ytkbbeeeoogjknaa

/- The walk of alphabet.reach: breadth first over a map of rows. -/
namespace Go.Proofs.Ytkbbeeeoogjknaa
open Go.RowKit Go.Maps
attribute [local irreducible] AV.exact AV.top AV.row AV.ptr AV.agg AV.tup AV.eptr AV.fn AV.nilq AV.nilqn AV.eptrO opA opB opM opR Quiet Loud Reads wpG awp den Sub SubU Pure Fun vecI vecT vecO mapS itS boxI CellsAll CellsOf OneC LEs LEss
set_option maxRecDepth 100000

theorem cVis_wf {k : Int} (h : cVis k) : (Lit.int .i64 k).wf = true := by
  unfold cVis at h
  simp [Lit.wf, IntKind.min, IntKind.max, IntKind.signed, IntKind.bits]
  omega
theorem clone_nil (xs : List Int) (h : xs.length ≤ 137438953472) : m_slices_Clone_L_int_int xs = some xs := by
  unfold m_slices_Clone_L_int_int
  rw [nilc_eq (fun e => by subst e; rw [need_pos (by simp)]; rfl), need_pos (by simpa using h), List.nil_append]
theorem zero_ints (w : World) : (zeroValue 23).run Try.prog w = .ok (.slice none 0 0) w := by kernel_rfl
theorem zero_bool (w : World) : (zeroValue 4).run Try.prog w = .ok (.bool false) w := by kernel_rfl
set_option maxHeartbeats 4000000 in
theorem reach_ok {it : Item} {σ0 : Items} {b N : Nat} {f : Int → Option Value} {R : List (Int × Value × List Int)} {G : Int → List Int} (hi : it ∈ σ0) (hL : MapLike Try.prog 3 b N f it) (hG : GCons f R G) (hR : ∀ x ∈ rowsI Try.prog 23 1 c_int R, x ∈ σ0)
    (hv : ∀ k x, x ∈ G k → cVis x) (k : Int) (hk : cVis k) (hl : (G k).length ≤ 137438953472) (r : List Int) (h : cReach G FU [] (G k) = some r) :
    Fun Try.prog 52 [.exact (.map (some b)), .exact (.int .i64 k)] σ0 (fun a s => ∃ z, a = .exact z ∧ s = vecT Try.prog 23 1 c_int z r :: σ0) := by
  refine fun_of_awp Try.func52 rfl Try.ntmps52 (by simp) rfl (res1 rfl) fun E hE => k_end ?_
  refine k_seq ?_
  refine k_reg .free hmixP (by kernel_rfl) ?_
  refine G_q rfl (op_assign (av := .exact (.slice none 0 0)) rfl ?_)
  refine G_nil ?_
  refine kC_normal ?_
  refine k_seq ?_
  refine k_reg .free hmixP (by kernel_rfl) ?_
  refine G_l rfl (op_makeSet (P := Try.prog) (kt := 3) (fun b1 => ?_))
  refine G_q rfl (op_assign (av := .exact (.map (some b1))) rfl ?_)
  refine G_nil ?_
  refine kC_normal ?_
  refine k_seq ?_
  refine k_reg .free hmixP (by kernel_rfl) ?_
  refine G_q rfl (op_move (av := .exact (.map (some b))) rfl ?_)
  refine G_q rfl (op_move (av := .exact (.int .i64 k)) rfl ?_)
  refine G_r rfl (op_lookupM (List.mem_cons_of_mem _ hi) hL Try.underlying59 Try.underlying3 zero_ints rfl rfl (cVis_wf hk) ?_)
  refine G_l rfl (op_fun_bor (m_slices_Clone_L_int_int_ok _ _ (clone_nil (G k) hl)) Try.func60 (by kernel_rfl) rfl (gcons_row hG (fun x hx => List.mem_cons_of_mem _ (hR x hx)) k) len_c_int (fun y => ⟨[.int .i64 y], rfl⟩) (fun z => ?_))
  refine G_q rfl (op_assign (av := .exact z) rfl ?_)
  refine G_nil ?_
  refine kC_normal ?_
  refine k_seq ?_
  refine k_reg .free hmixP (by kernel_rfl) ?_
  refine G_q rfl (op_assign (av := .exact (.slice none 0 0)) rfl ?_)
  refine G_nil ?_
  refine kC_normal ?_
  refine k_seq ?_
  refine k_block ?_
  refine k_loop (α := Nat × List Int × List Int × Value × Value) (fun x => AF.put (AF.put (AF.put (AF.put AF0 (some 0) (.exact (.map (some b)))) (some 5) (.exact (.map (some b1)))) (some 6) (.exact x.2.2.2.2)) (some 7) (.exact x.2.2.2.1)) (fun x => vecT Try.prog 23 1 c_int x.2.2.2.1 x.2.1 :: vecO Try.prog 23 1 c_int x.2.2.2.2 x.2.2.1 :: setS Try.prog 3 b1 x.2.1.reverse :: σ0) (fun x => cReach G x.1 x.2.1 x.2.2.1 = some r ∧ ∀ y ∈ x.2.2.1, cVis y) (fun x => x.1) (FU, [], G k, .slice none 0 0, z) ⟨h, fun y hy => hv k y hy⟩ ?_ (fun x hx => ?_)
  · refine Sub.trans (SubU.to SubU.toO) ?_
    refine Sub.trans (SubU.to (SubU.nilT (P := Try.prog) (t := 23) (n := 1) (enc := c_int))) ?_
    exact Sub.of_le (AF.le_put (AV.le_eq rfl) (AF.le_put (AV.le_eq rfl) (AF.le_put (AV.le_eq rfl) (AF.le_put (AV.le_eq rfl) (AF.le_top _)))))
  obtain ⟨n, out, q, v7, v6⟩ := x
  obtain ⟨hx, hq⟩ := hx
  dsimp only at hx hq ⊢
  cases n with
  | zero => cases hx
  | succ n =>
  refine k_seq ?_
  refine k_seq ?_
  refine k_reg .free hmixP (by kernel_rfl) ?_
  refine G_q rfl (op_move (av := .exact v6) rfl ?_)
  refine G_r rfl (opR_f1 (op_len_O (by kernel_rfl) rfl ?_))
  refine G_q rfl (op_gtr rfl rfl ?_)
  refine G_nil ?_
  refine kC_normal ?_
  refine k_cond_d (p := (0 : Int) < (q.length : Int)) rfl (fun hc => ?_) (fun hc => ?_)
  · cases q with
    | nil => simp at hc
    | cons e q =>
    refine k_skip ?_
    refine kC_normal ?_
    refine k_block ?_
    refine k_seq ?_
    refine k_reg .free hmixP (by kernel_rfl) ?_
    refine G_q rfl (op_move (av := .exact v6) rfl ?_)
    refine G_r rfl (opR_f1 (op_index_O (i := 0) (by kernel_rfl) rfl rfl (by omega) (by simp) ?_))
    refine G_r rfl (opR_f1 (op_load_O1 (i := 0) (a := .exact (.int .i64 e)) (by kernel_rfl) len_c_int rfl (by omega) (by simp) rfl ?_))
    refine G_q rfl (op_assign (av := .exact (.int .i64 e)) rfl ?_)
    refine G_nil ?_
    refine kC_normal ?_
    refine k_seq ?_
    refine k_reg .free hmixP (by kernel_rfl) ?_
    refine G_q rfl (op_move (av := .exact v6) rfl ?_)
    refine G_l rfl (opB_f1 (op_slice1_O (i := 1) (by kernel_rfl) len_c_int rfl rfl (by omega) (by simp; omega) (fun v6' => ?_)))
    refine G_q rfl (op_assign (av := .exact v6') rfl ?_)
    refine G_nil ?_
    refine kC_normal ?_
    refine k_seq ?_
    refine k_seq ?_
    refine k_reg .free hmixP (by kernel_rfl) ?_
    refine G_q rfl (op_move (av := .exact (.map (some b1))) rfl ?_)
    refine G_q rfl (op_move (av := .exact (.int .i64 e)) rfl ?_)
    refine G_r rfl (opR_f2 (op_lookSet Try.underlying78 Try.underlying3 zero_bool rfl rfl (cVis_wf (hq e List.mem_cons_self)) ?_))
    refine G_nil ?_
    refine kC_normal ?_
    refine k_cond_d (p := e ∈ out.reverse) rfl (fun hm => ?_) (fun hm => ?_)
    · refine k_exit ?_
      refine kC_exit ?_
      refine kB_exit ?_
      refine kI_normal ⟨(n, out, q, v7, v6'), ⟨?_, fun y hy => hq y (List.mem_cons_of_mem _ hy)⟩, Nat.lt_succ_self n, ?_⟩
      · have h0 := hx
        rw [cReach, if_pos (List.mem_reverse.1 hm)] at h0
        exact h0
      · refine Sub.trans (SubU.to SubU.f1) ?_
        exact Sub.of_le (AF.le_put (AV.le_eq rfl) (AF.le_put (AV.le_eq rfl) (AF.le_put (AV.le_eq rfl) (AF.le_put (AV.le_eq rfl) (AF.le_top _)))))
    · rw [cReach, if_neg (fun h => hm (List.mem_reverse.2 h))] at hx
      obtain ⟨⟨n1, n2⟩, hx⟩ := need_some hx
      refine k_skip ?_
      refine kC_normal ?_
      refine k_seq ?_
      refine k_reg .free hmixP (by kernel_rfl) ?_
      refine G_q rfl (op_move (av := .exact (.map (some b1))) rfl ?_)
      refine G_q rfl (op_move (av := .exact (.int .i64 e)) rfl ?_)
      refine G_l rfl (opB_f2 (op_updSet Try.underlying78 Try.underlying3 rfl rfl rfl (cVis_wf (hq e List.mem_cons_self)) (by simp only [List.length_reverse, maxLen]; omega) ?_))
      refine G_nil ?_
      refine kC_normal ?_
      refine k_seq ?_
      refine k_reg .free hmixP (by kernel_rfl) ?_
      refine G_q rfl (op_move (av := .exact v7) rfl ?_)
      refine G_q rfl (op_move (av := .exact (.int .i64 e)) rfl ?_)
      refine G_q rfl (op_litT (n := 1) (enc := c_int) [e] (CellsAll.cons rfl CellsOf.int CellsAll.nil) rfl (by kernel_rfl) (LEss.cons (LEs.cons (AV.le_eq rfl) LEs.nil) LEss.nil) ?_)
      refine G_l rfl (opB_f2 (op_appT (by kernel_rfl) rfl rfl oc_c_int n2 (fun v7' => ?_)))
      refine G_q rfl (op_assign (av := .exact v7') rfl ?_)
      refine G_nil ?_
      refine kC_normal ?_
      refine k_reg .free hmixP (by kernel_rfl) ?_
      refine G_q rfl (op_move (av := .exact v6') rfl ?_)
      refine G_q rfl (op_move (av := .exact (.map (some b))) rfl ?_)
      refine G_q rfl (op_move (av := .exact (.int .i64 e)) rfl ?_)
      refine G_r rfl (op_lookupM (List.mem_cons_of_mem _ (List.mem_cons_of_mem _ (List.mem_cons_of_mem _ hi))) hL Try.underlying59 Try.underlying3 zero_ints rfl rfl (cVis_wf (hq e List.mem_cons_self)) ?_)
      refine G_l rfl (opB_f2 (op_appOL (ys := G e) (by kernel_rfl) rfl (BorL.grow hG (fun x hx => List.mem_cons_of_mem _ (List.mem_cons_of_mem _ (List.mem_cons_of_mem _ (hR x hx)))) len_c_int e) oc_c_int n1 (fun v6'' => ?_)))
      refine G_q rfl (op_assign (av := .exact v6'') rfl ?_)
      refine G_nil ?_
      refine kB_normal ?_
      refine kI_normal ⟨(n, out ++ [e], q ++ G e, v7', v6''), ⟨hx, fun y hy => ?_⟩, Nat.lt_succ_self n, ?_⟩
      · rcases List.mem_append.1 hy with hy | hy
        · exact hq y (List.mem_cons_of_mem _ hy)
        · exact hv e y hy
      · refine Sub.trans (SubU.to SubU.f1) ?_
        have e1 : (out ++ [e]).reverse = e :: out.reverse := by simp
        dsimp only
        rw [e1]
        exact Sub.of_le (AF.le_put (AV.le_eq rfl) (AF.le_put (AV.le_eq rfl) (AF.le_put (AV.le_eq rfl) (AF.le_put (AV.le_eq rfl) (AF.le_top _)))))
  · refine k_exit ?_
    refine kC_exit ?_
    refine kI_exit ?_
    refine kB_exit ?_
    have hq0 : q = [] := by cases q with
      | nil => rfl
      | cons e q => simp at hc
    subst hq0
    have hr : out = r := by cases hx; rfl
    subst hr
    refine kC_normal ?_
    refine k_seq ?_
    refine k_reg .free hmixP (by kernel_rfl) ?_
    refine G_q rfl (op_move (av := .exact v7) rfl ?_)
    refine G_q rfl (op_assign (av := .exact v7) rfl ?_)
    refine G_nil ?_
    refine kC_normal ?_
    refine k_ret ?_
    refine kP_any (endN (af' := (AF.put AF0 (some 4) (.exact v7))) (σ' := vecT Try.prog 23 1 c_int v7 out :: σ0) _ rfl ?_ ⟨v7, rfl, rfl⟩)
    refine Sub.trans (SubU.to SubU.f1) ?_
    refine Sub.trans (SubU.to SubU.drop) ?_
    refine Sub.trans (SubU.to SubU.f1) ?_
    refine Sub.trans (SubU.to SubU.drop) ?_
    exact Sub.of_le (AF.le_put (AV.le_eq rfl) (AF.le_top _))
end Go.Proofs.Ytkbbeeeoogjknaa
/- The walk of alphabet.Close. -/
namespace Go.Proofs.Ytkbbeeeoogjknaa
open Go.RowKit Go.Maps

theorem op_extractX {P : Program} {af : AF} {d : Option Tmp} {ty : TypeId} {pos : String} {after : Array Edge} {g : Option (Nat × Bool)} {K : AF → Prop} {x : Operand} {vs : Array Value} {i : Nat} {v : Value} (hx : af.ev x = .exact (.tuple vs)) (hl : vs[i]? = some v) (hk : K (af.put d (.exact v))) : opA P ⟨d, .extract x i, ty, pos, after, g⟩ af K := by
  refine ⟨_, fun M w ev _ h => ?_, hk⟩
  have e1 := opnd h (x := x) (by simp [Op.operands]) hx
  simp [execOp, Instr.extract, e1, hl, go_sem, UponQ]
  exact ⟨Keeps.refl _ _, rfl⟩
theorem cG_app (a : List (Int × Int)) (p : Int × Int) : cG (a ++ [p]) = fun j => if j = p.1 then cG a p.1 ++ [p.2] else cG a j := by
  funext j
  unfold cG
  rw [List.filter_append, List.map_append]
  by_cases h : j = p.1
  · subst h; simp
  · have : ¬ p.1 = j := fun e => h e.symm
    simp [h, this]
theorem cG_vis {l : List (Int × Int)} (hv : ∀ p ∈ l, cVis p.1 ∧ cVis p.2) (k x : Int) (h : x ∈ cG l k) : cVis x := by
  unfold cG at h
  obtain ⟨p, hp, rfl⟩ := List.mem_map.1 h
  exact (hv p (List.mem_filter.1 hp).1).2
theorem cG_len (l : List (Int × Int)) (k : Int) : (cG l k).length ≤ l.length := by
  unfold cG
  rw [List.length_map]
  exact List.length_filter_le _ _
theorem cQ_snoc (l : List (Int × Int)) (ks : List Int) (k : Int) : cQ l (ks ++ [k]) = cQ l ks ++ (cRd l k).map (fun e => (k, e)) := by
  unfold cQ; rw [List.flatMap_append]; simp
theorem cRd_emp {l : List (Int × Int)} {k : Int} (h : cG l k = []) : cRd l k = [] := by
  unfold cRd cR
  have : ∃ n, FU = n + 1 := ⟨FU - 1, by have := FU_ge; omega⟩
  obtain ⟨n, hn⟩ := this
  rw [h, hn]
  rfl
theorem cQ_sub {l : List (Int × Int)} {ks : List Int} (hn : ks.Nodup) (hv : ∀ k ∈ ks, cVis k) : (cQ l ks).length ≤ (cP l).length :=
  nodup_leZ (cQ_nodup l hn) (fun p hp => by
    have := cQ_mem.1 hp
    exact (cQ_mem (ks := cKeys)).2 ⟨cKeys_mem.2 (hv _ this.1), this.2⟩)

attribute [local irreducible] AV.exact AV.top AV.row AV.ptr AV.agg AV.tup AV.eptr AV.fn AV.nilq AV.nilqn AV.eptrO opA opB opM opR Quiet Loud Reads wpG awp den Sub SubU Pure Fun vecI vecT vecO mapS itS boxI CellsAll CellsOf OneC LEs LEss FU
set_option maxRecDepth 100000

set_option maxHeartbeats 4000000 in
theorem m_close_ok (l : List (Int × Int)) (r : List (Int × Int) × Int) (h : m_close l = some r) : Pure Try.prog 13 [.row 2 c_api_Above l] (.tup [.row 2 c_api_Above r.1, .exact (.int .i64 r.2)]) := by
  have hl : l.length ≤ 137438953472 := Classical.byContradiction fun hc => by unfold m_close at h; rw [if_neg hc] at h; cases h
  have hbad : (∃ p ∈ l, ¬ (cVis p.1 ∧ cVis p.2)) → r = ([], 1) := fun hb => by
    unfold m_close at h; rw [if_pos hl, if_pos hb] at h; cases h; rfl
  have hrest : (∀ p ∈ l, cVis p.1 ∧ cVis p.2) → (∀ k, (cR l k).isSome = true) ∧ (cP l).length ≤ 137438953472 ∧ ((∃ k, k ∈ cRd l k) → r = ([], 14)) ∧ ((¬ ∃ k, k ∈ cRd l k) → r = (sortC pcmp (cP l), 0)) := fun hv => by
    unfold m_close at h
    rw [if_pos hl, if_neg (by rintro ⟨p, hp, hn⟩; exact hn (hv p hp))] at h
    split at h
    · rename_i h1
      refine ⟨h1.1, h1.2, fun hk => ?_, fun hk => ?_⟩
      · rw [if_pos hk] at h; cases h; rfl
      · rw [if_neg hk] at h; cases h; rfl
    · cases h
  clear h
  refine Pure.ofFun (fun_of_awp Try.func13 rfl Try.ntmps13 (by simp) rfl (res2 rfl) fun E hE => k_end ?_)
  refine k_seq ?_
  refine k_reg .free hmixP (by kernel_rfl) ?_
  refine G_q rfl (op_assign (av := .exact (.slice none 0 0)) rfl ?_)
  refine G_q rfl (op_assign (av := .exact (.int .i64 0)) rfl ?_)
  refine G_nil ?_
  refine kC_normal ?_
  refine k_seq ?_
  refine k_reg .free hmixP (by kernel_rfl) ?_
  refine G_l rfl (op_makeMap (P := Try.prog) (kt := 3) (fun b => ?_))
  refine G_q rfl (op_assign (av := .exact (.map (some b))) rfl ?_)
  refine G_nil ?_
  refine kC_normal ?_
  refine k_seq ?_
  refine k_seq ?_
  refine k_reg .free hmixP (by kernel_rfl) ?_
  refine G_q rfl (op_move (av := .row 2 c_api_Above l) rfl ?_)
  refine G_q rfl (op_len_row (by kernel_rfl) rfl ?_)
  refine G_q rfl (op_move (av := .exact (.int .i64 0)) rfl ?_)
  refine G_nil ?_
  refine kC_normal ?_
  refine k_block ?_
  refine k_loop (α := Nat × (Int → Option Value) × List (Int × Value × List Int)) (fun x => AF.put (AF.put (AF.put (AF.put AF0 (some 4) (.exact (.map (some b)))) (some 12) (.row 2 c_api_Above l)) (some 13) (.exact (.int .i64 (l.length : Int)))) (some 14) (.exact (.int .i64 (x.1 : Int)))) (fun x => mapS Try.prog 3 b x.1 x.2.1 :: rowsI Try.prog 23 1 c_int x.2.2) (fun x => x.1 ≤ l.length ∧ GCons x.2.1 x.2.2 (cG (l.take x.1)) ∧ (∀ p ∈ l.take x.1, cVis p.1 ∧ cVis p.2) ∧ ∀ k, (x.2.1 k).isSome = true → cVis k) (fun x => l.length - x.1) (0, fun _ => none, []) ⟨Nat.zero_le _, gcons_emp, fun p hp => by (rw [List.take_zero] at hp; cases hp), fun k hk => by (cases hk)⟩ ?_ (fun x hx => ?_)
  · exact Sub.of_le (AF.le_put (AV.le_eq rfl) (AF.le_put (AV.le_eq rfl) (AF.le_put (AV.le_eq rfl) (AF.le_put (AV.le_eq rfl) (AF.le_top _)))))
  obtain ⟨i, f, R⟩ := x
  obtain ⟨hi, hG, hv, hfv⟩ := hx
  dsimp only at hi hG hv hfv ⊢
  refine k_seq ?_
  refine k_reg .free hmixP (by kernel_rfl) ?_
  refine G_q rfl (op_lss rfl rfl ?_)
  refine G_nil ?_
  refine kC_normal ?_
  refine k_seq ?_
  refine k_cond_d (p := (i : Int) < (l.length : Int)) rfl (fun hc => ?_) (fun hc => ?_)
  · have hil : i < l.length := by omega
    have hp := gi_get (xs := l) (i := (i : Int)) (by omega) (by omega)
    simp only [Int.toNat_natCast] at hp
    have hpm : gi l (i : Int) ∈ l := List.mem_of_getElem? hp
    have htk : l.take (i + 1) = l.take i ++ [gi l (i : Int)] := by rw [List.take_add_one, hp]; rfl
    generalize hpe : gi l (i : Int) = p at *
    refine k_skip ?_
    refine kC_normal ?_
    refine k_seq ?_
    refine k_block ?_
    refine k_seq ?_
    refine k_reg .free hmixP (by kernel_rfl) ?_
    refine G_q rfl (op_index_row (by kernel_rfl) rfl rfl (by omega) (by omega) ?_)
    refine G_q rfl (op_loadNp (m := 2) (c' := c_api_Above (gi l (i : Int))) (by kernel_rfl) rfl rfl rfl ?_)
    rw [hpe]
    refine G_l rfl (op_alloc (c := [.exact (.int .i64 (((0 : Int), (0 : Int)).1)), .exact (.int .i64 (((0 : Int), (0 : Int)).2))]) rfl (LEs.cons (AV.le_eq rfl) (LEs.cons (AV.le_eq rfl) LEs.nil)) (fun b1 => ?_))
    refine G_l rfl (op_store_box (c' := [.exact (.int .i64 p.1), .exact (.int .i64 p.2)]) (c3 := [.exact (.int .i64 p.1), .exact (.int .i64 p.2)]) rfl rfl CellsOf.agg (LEs.cons (AV.le_eq rfl) (LEs.cons (AV.le_eq rfl) LEs.nil)) (oc_c_api_Above _) (by kernel_rfl) (Nat.le_of_ble_eq_true rfl) rfl ?_)
    refine G_nil ?_
    refine kC_normal ?_
    refine awp_sub (SubU.to (SubU.freezeBox (s := 6) rfl)) ?_
    refine k_seq ?_
    refine k_seq ?_
    refine k_reg .free hmixP (by kernel_rfl) ?_
    refine G_q rfl (op_fieldAddr_ptr (o := 0) (c' := (List.drop 0 (c_api_Above p))) (by kernel_rfl) rfl rfl ?_)
    refine G_q rfl (op_load1p (a := .exact (.int .i64 p.1)) (by kernel_rfl) rfl rfl ?_)
    refine G_q rfl (op_pure (m_alphabet_visible_ok _ _ (visZ p.1)) Try.func51 (by kernel_rfl) (LEs.cons (AV.le_eq rfl) LEs.nil) ?_)
    refine G_q rfl (op_not_d (p := cVis p.1) rfl ?_)
    refine G_q rfl (op_move (av := .exact (.bool (decide (¬ cVis p.1)))) rfl ?_)
    refine G_split (p := ¬ cVis p.1) 22 rfl (fun hv1 => ?_) (fun hv1 => ?_)
    · have hrr := hbad ⟨p, hpm, fun h => hv1 h.1⟩
      subst hrr
      refine G_n rfl rfl ?_
      refine G_n rfl rfl ?_
      refine G_n rfl rfl ?_
      refine G_n rfl rfl ?_
      refine G_q rfl (op_pick_t rfl (av := .exact (.bool true)) rfl ?_)
      refine G_nil ?_
      refine kC_normal ?_
      refine k_cond_t rfl ?_
      refine k_seq ?_
      refine k_reg .free hmixP (by kernel_rfl) ?_
      refine G_q rfl (op_assign (av := .exact (.slice none 0 0)) rfl ?_)
      refine G_q rfl (op_assign (av := .exact (.int .i64 1)) rfl ?_)
      refine G_nil ?_
      refine kC_normal ?_
      refine k_ret ?_
      repeat (first | refine kC_ret ?_ | refine kB_ret ?_ | refine kI_ret ?_)
      refine kP_any (endN (af' := AF.put (AF.put AF0 (some 2) (.row 2 c_api_Above [])) (some 3) (.exact (.int .i64 1))) (σ' := []) _ rfl ?_ ⟨rfl, rfl⟩)
      refine Sub.trans (SubU.to SubU.dropAll) ?_
      exact Sub.of_le (AF.le_put (AV.le_eq rfl) (AF.le_put (row_nil (by omega)) (AF.le_top _)))
    · have hv1' : cVis p.1 := Classical.not_not.1 hv1
      refine Gy_q rfl rfl rfl (op_fieldAddr_ptr (o := 1) (c' := (List.drop 1 (c_api_Above p))) (by kernel_rfl) rfl rfl ?_)
      refine Gy_q rfl rfl rfl (op_load1p (a := .exact (.int .i64 p.2)) (by kernel_rfl) rfl rfl ?_)
      refine Gy_q rfl rfl rfl (op_pure (m_alphabet_visible_ok _ _ (visZ p.2)) Try.func51 (by kernel_rfl) (LEs.cons (AV.le_eq rfl) LEs.nil) ?_)
      refine Gy_q rfl rfl rfl (op_not_d (p := cVis p.2) rfl ?_)
      refine G_q rfl (op_pick_f rfl (av := .exact (.bool (decide (¬ cVis p.2)))) rfl ?_)
      refine G_nil ?_
      refine kC_normal ?_
      refine k_cond_d (p := ¬ cVis p.2) rfl (fun hv2 => ?_) (fun hv2 => ?_)
      · have hrr := hbad ⟨p, hpm, fun h => hv2 h.2⟩
        subst hrr
        refine k_seq ?_
        refine k_reg .free hmixP (by kernel_rfl) ?_
        refine G_q rfl (op_assign (av := .exact (.slice none 0 0)) rfl ?_)
        refine G_q rfl (op_assign (av := .exact (.int .i64 1)) rfl ?_)
        refine G_nil ?_
        refine kC_normal ?_
        refine k_ret ?_
        repeat (first | refine kC_ret ?_ | refine kB_ret ?_ | refine kI_ret ?_)
        refine kP_any (endN (af' := AF.put (AF.put AF0 (some 2) (.row 2 c_api_Above [])) (some 3) (.exact (.int .i64 1))) (σ' := []) _ rfl ?_ ⟨rfl, rfl⟩)
        refine Sub.trans (SubU.to SubU.dropAll) ?_
        exact Sub.of_le (AF.le_put (AV.le_eq rfl) (AF.le_put (row_nil (by omega)) (AF.le_top _)))
      · have hv2' : cVis p.2 := Classical.not_not.1 hv2
        refine k_skip ?_
        refine kC_normal ?_
        obtain ⟨R0, hsub, hG'⟩ := rows_split (P := Try.prog) (kt := 3) (t := 23) (n := 1) (enc := c_int) (b := b) (N := i) hG p.1
        refine awp_sub (SubU.to (hsub _)) ?_
        refine k_plan [] [(0, 0), (0, 1), (0, 2), (0, 3), (0, 4), (0, 5), (0, 7), (0, 8), (0, 9), (1, 6), (2, 10), (2, 11)] hmixP (by kernel_rfl) ?_
        refine P_q no34_0 rfl (op_move (av := .exact (.map (some b))) rfl ?_)
        refine P_q no34_0 rfl (op_fieldAddr_ptr (o := 0) (c' := (List.drop 0 (c_api_Above p))) (by kernel_rfl) rfl rfl ?_)
        refine P_q no34_0 rfl (op_load1p (a := .exact (.int .i64 p.1)) (by kernel_rfl) rfl rfl ?_)
        refine P_q no34_0 rfl (op_move (av := .exact (.map (some b))) rfl ?_)
        refine P_q no34_0 rfl (op_fieldAddr_ptr (o := 0) (c' := (List.drop 0 (c_api_Above p))) (by kernel_rfl) rfl rfl ?_)
        refine P_q no34_0 rfl (op_load1p (a := .exact (.int .i64 p.1)) (by kernel_rfl) rfl rfl ?_)
        refine P_q no34_0 rfl (op_fieldAddr_ptr (o := 1) (c' := (List.drop 1 (c_api_Above p))) (by kernel_rfl) rfl rfl ?_)
        refine P_q no34_0 rfl (op_load1p (a := .exact (.int .i64 p.2)) (by kernel_rfl) rfl rfl ?_)
        refine P_q no34_0 rfl (op_litT (n := 1) (enc := c_int) [p.2] (CellsAll.cons rfl CellsOf.int CellsAll.nil) rfl (by kernel_rfl) (LEss.cons (LEs.cons (AV.le_eq rfl) LEs.nil) LEss.nil) ?_)
        refine P_r rfl (opR_f1 (op_lookup Try.underlying59 Try.underlying3 zero_ints rfl rfl (cVis_wf hv1') ?_))
        have hgl : (cG (l.take i) p.1).length + [p.2].length ≤ 137438953472 := by
          have := cG_len (l.take i) p.1
          simp only [List.length_take, List.length_cons, List.length_nil] at *
          omega
        refine P_l rfl (op_appT (by kernel_rfl) rfl rfl oc_c_int hgl (fun v' => ?_))
        refine P_l rfl (opB_f1 (op_mapUpdate (v := v') Try.underlying59 Try.underlying3 rfl rfl rfl (cVis_wf hv1') (by simp only [maxLen]; omega) ?_))
        refine P_nil ?_
        refine kB_normal ?_
        refine kC_normal ?_
        refine k_reg .free hmixP (by kernel_rfl) ?_
        refine G_q rfl (op_add (r := ((i + 1 : Nat) : Int)) rfl rfl (by rw [wrap_i64 _ (by omega)]; omega) ?_)
        refine G_q rfl (op_move (av := .exact (.int .i64 ((i + 1 : Nat) : Int))) rfl ?_)
        refine G_nil ?_
        have hG2 := hG' v' (cG (l.take i) p.1 ++ [p.2])
        have hG3 : GCons (updM f p.1 v') ((p.1, v', cG (l.take i) p.1 ++ [p.2]) :: R0) (cG (l.take (i + 1))) := by
          rw [htk, cG_app]; exact hG2
        refine kI_normal ⟨(i + 1, updM f p.1 v', (p.1, v', cG (l.take i) p.1 ++ [p.2]) :: R0), ⟨by dsimp only; omega, hG3, fun q hq => ?_, fun k hk => ?_⟩, by dsimp only; omega, ?_⟩
        · dsimp only at hq
          rw [htk] at hq
          rcases List.mem_append.1 hq with hq | hq
          · exact hv q hq
          · simp only [List.mem_singleton] at hq
            subst hq; exact ⟨hv1', hv2'⟩
        · dsimp only [updM] at hk
          by_cases hkp : k = p.1
          · rw [hkp]; exact hv1'
          · rw [if_neg hkp] at hk; exact hfv k hk
        · exact Sub.of_le (AF.le_put (AV.le_eq rfl) (AF.le_put (AV.le_eq rfl) (AF.le_put (AV.le_eq rfl) (AF.le_put (AV.le_eq rfl) (AF.le_top _)))))
  · obtain rfl : i = l.length := by omega
    rw [List.take_length] at hG hv
    obtain ⟨hall, htot, hcyc, hnc⟩ := hrest hv
    refine k_exit ?_
    repeat (first | refine kC_exit ?_ | refine kI_exit ?_)
    refine kB_exit ?_
    refine kC_normal ?_
    refine k_seq ?_
    refine k_reg .free hmixP (by kernel_rfl) ?_
    refine G_q rfl (op_assign (av := .exact (.slice none 0 0)) rfl ?_)
    refine G_nil ?_
    refine kC_normal ?_
    repeat (refine k_seq ?_)
    refine k_reg .free hmixP (by kernel_rfl) ?_
    refine G_q rfl (op_move (av := .exact (.map (some b))) rfl ?_)
    refine G_l rfl (op_range (left := R.map (fun x => x.1)) Try.underlying59 Try.underlying3 rfl (fun k => ?_) (fun rr => ?_))
    · constructor
      · intro hk
        obtain ⟨v, hv'⟩ := Option.isSome_iff_exists.1 hk
        exact List.mem_map.2 ⟨_, hG.at_ k v hv', rfl⟩
      · intro hk
        obtain ⟨x, hx, rfl⟩ := List.mem_map.1 hk
        rw [(hG.keys x hx).1]; rfl
    refine G_nil ?_
    refine kC_normal ?_
    repeat (first | refine k_seq ?_ | refine k_block ?_)
    refine k_loop (α := List Int × Option (Int × Value) × List Int × Value) (fun x => AF.put (AF.put (AF.put AF0 (some 4) (.exact (.map (some b)))) (some 7) (.exact x.2.2.2)) (some 41) (pA rr 0)) (fun x => vecT Try.prog 22 2 c_api_Above x.2.2.2 (cQ l x.2.2.1) :: itS Try.prog 3 b rr l.length f x.1 x.2.1 :: rowsI Try.prog 23 1 c_int R) (fun x => x.2.2.1.Nodup ∧ (∀ k ∈ x.2.2.1, k ∉ x.1) ∧ (∀ k, (f k).isSome = true ↔ k ∈ x.2.2.1 ∨ k ∈ x.1) ∧ ∀ k ∈ x.2.2.1, k ∉ cRd l k) (fun x => x.1.length) (R.map (fun x => x.1), none, [], .slice none 0 0) ⟨List.nodup_nil, fun k hk => by (cases hk), fun k => ?_, fun k hk => by (cases hk)⟩ ?_ (fun x hx => ?_)
    · constructor
      · intro hk
        obtain ⟨v, hv'⟩ := Option.isSome_iff_exists.1 hk
        exact .inr (List.mem_map.2 ⟨_, hG.at_ k v hv', rfl⟩)
      · rintro (hk | hk)
        · cases hk
        · obtain ⟨x, hx, rfl⟩ := List.mem_map.1 hk
          rw [(hG.keys x hx).1]; rfl
    · refine Sub.trans (SubU.to (SubU.nilT (P := Try.prog) (t := 22) (n := 2) (enc := c_api_Above))) ?_
      exact Sub.of_le (AF.le_put (AV.le_eq rfl) (AF.le_put (AV.le_eq rfl) (AF.le_put (AV.le_eq rfl) (AF.le_top _))))
    obtain ⟨left, lst, ks, v7⟩ := x
    obtain ⟨hkn, hkl, hkf, hkc⟩ := hx
    dsimp only at hkn hkl hkf hkc ⊢
    have hkv : ∀ k ∈ ks, cVis k := fun k hk => hfv k ((hkf k).2 (.inl hk))
    repeat (refine k_seq ?_)
    refine k_reg .free hmixP (by kernel_rfl) ?_
    refine G_l rfl (opB_f1 (op_next Try.underlying3 rfl (fun hle => ?_) (fun k v left' hk hfk hlf hln hkw => ?_)))
    · refine G_q rfl (op_extractX (v := .bool false) rfl rfl ?_)
      refine G_nil ?_
      refine kC_normal ?_
      repeat (refine k_seq ?_)
      refine k_cond_f rfl ?_
      refine k_exit ?_
      repeat (first | refine kC_exit ?_ | refine kI_exit ?_)
      refine kB_exit ?_
      refine kC_normal ?_
      have hf0 : ∀ k, k ∉ ks → cRd l k = [] := fun k hk => by
        refine cRd_emp (hG.none k ?_)
        cases hf : f k with
        | none => rfl
        | some v =>
          rcases (hkf k).1 (by rw [hf]; rfl) with h | h
          · exact absurd h hk
          · rw [hle] at h; cases h
      have hno : ¬ ∃ k, k ∈ cRd l k := by
        rintro ⟨k, hk⟩
        by_cases hm : k ∈ ks
        · exact hkc k hm hk
        · rw [hf0 k hm] at hk; cases hk
      have hrr := hnc hno
      subst hrr
      have hperm : (cQ l ks).Perm (cP l) := perm_of_nodupZ (cQ_nodup l hkn) (cQ_nodup l cKeys_nodup) (fun p => by
        show p ∈ cQ l ks ↔ p ∈ cQ l cKeys
        rw [cQ_mem, cQ_mem]
        constructor
        · rintro ⟨h1, h2⟩; exact ⟨cKeys_mem.2 (hkv _ h1), h2⟩
        · rintro ⟨h1, h2⟩
          refine ⟨Classical.byContradiction fun hn => ?_, h2⟩
          rw [hf0 _ hn] at h2; cases h2)
      have hsort : m_sortby m_alphabet_compareAbove (cQ l ks) = some (sortC pcmp (cP l)) := by
        rw [cmpAbove, m_sortby_eq (by have := cQ_sub (l := l) hkn hkv; omega) pcmp_ok, sortC_pcmp_perm hperm]
      refine k_seq ?_
      refine k_reg .free hmixP (by kernel_rfl) ?_
      refine G_q rfl (op_move (av := .exact v7) rfl ?_)
      refine G_l rfl (opB_f1 (op_fun_1_0_1 (m_sort_api_Above_ok m_alphabet_compareAbove_ok _ _ hsort) Try.func53 (by kernel_rfl) (LEs.cons (AV.le_eq rfl) (LEs.cons (AV.le_eq rfl) LEs.nil)) ?_))
      refine G_nil ?_
      refine kC_normal ?_
      refine k_seq ?_
      refine k_reg .free hmixP (by kernel_rfl) ?_
      refine G_q rfl (op_move (av := .exact v7) rfl ?_)
      refine G_l rfl (op_fun_1_0_0 (m_slices_Clip_L_api_Above_api_Above_ok _ _ (clipZ _)) Try.func55 (by kernel_rfl) (LEs.cons (AV.le_eq rfl) LEs.nil) ?_)
      refine G_q rfl (op_assign (av := .row 2 c_api_Above (sortC pcmp (cP l))) rfl ?_)
      refine G_q rfl (op_assign (av := .exact (.int .i64 0)) rfl ?_)
      refine G_nil ?_
      refine kC_normal ?_
      refine k_ret ?_
      refine kP_any (endN (af' := AF.put (AF.put AF0 (some 2) (.row 2 c_api_Above (sortC pcmp (cP l)))) (some 3) (.exact (.int .i64 0))) (σ' := []) _ rfl ?_ ⟨rfl, rfl⟩)
      refine Sub.trans (SubU.to SubU.dropAll) ?_
      exact Sub.of_le (AF.le_put (AV.le_eq rfl) (AF.le_put (AV.le_eq rfl) (AF.le_top _)))
    · have hkvis : cVis k := hfv k (by rw [hfk]; rfl)
      have hknk : k ∉ ks := fun h => hkl k h hk
      obtain ⟨Rk, hRk⟩ := Option.isSome_iff_exists.1 (hall k)
      have hRd : cRd l k = Rk := by unfold cRd; rw [hRk]; rfl
      refine G_q rfl (op_extractX (v := .bool true) rfl rfl ?_)
      refine G_nil ?_
      refine kC_normal ?_
      repeat (refine k_seq ?_)
      refine k_cond_t rfl ?_
      refine k_skip ?_
      refine kC_normal ?_
      repeat (first | refine k_seq ?_ | refine k_block ?_)
      refine k_reg .free hmixP (by kernel_rfl) ?_
      refine G_r rfl (op_entry rfl ?_)
      refine G_q rfl (op_extractX (v := .int .i64 k) rfl rfl ?_)
      refine G_q rfl (op_assign (av := .exact (.int .i64 k)) rfl ?_)
      refine G_nil ?_
      refine kC_normal ?_
      repeat (refine k_seq ?_)
      refine k_reg .free hmixP (by kernel_rfl) ?_
      refine G_q rfl (op_move (av := .exact (.map (some b))) rfl ?_)
      refine G_q rfl (op_move (av := .exact (.int .i64 k)) rfl ?_)
      refine G_l rfl (op_fun (reach_ok (R := R) (G := cG l) List.mem_cons_self MapLike.it hG (fun x hx => List.mem_cons_of_mem _ (List.mem_cons_of_mem _ hx)) (cG_vis hv) k hkvis (Nat.le_trans (cG_len l k) hl) Rk hRk) Try.func52 (by kernel_rfl) (LEs.cons (AV.le_eq rfl) (LEs.cons (AV.le_eq rfl) LEs.nil)) ?_)
      rintro av s ⟨z, rfl, rfl⟩
      refine G_r rfl (op_len_vec (by kernel_rfl) rfl ?_)
      refine G_q rfl (op_move (av := .exact (.int .i64 0)) rfl ?_)
      refine G_nil ?_
      refine kC_normal ?_
      refine awp_sub (SubU.to (SubU.freezeT (s := 48) rfl len_c_int)) ?_
      repeat (first | refine k_seq ?_ | refine k_block ?_)
      refine k_loop (α := Nat × Value) (fun x => AF.put (AF.put (AF.put (AF.put (AF.put (AF.put (AF.put AF0 (some 4) (.exact (.map (some b)))) (some 7) (.exact x.2)) (some 8) (.exact (.int .i64 k))) (some 41) (pA rr 0)) (some 48) (.row 1 c_int Rk)) (some 49) (.exact (.int .i64 (Rk.length : Int)))) (some 50) (.exact (.int .i64 (x.1 : Int)))) (fun x => vecT Try.prog 22 2 c_api_Above x.2 (cQ l ks ++ (Rk.take x.1).map (fun e => (k, e))) :: itS Try.prog 3 b rr l.length f left' (some (k, v)) :: rowsI Try.prog 23 1 c_int R) (fun x => x.1 ≤ Rk.length ∧ ∀ e ∈ Rk.take x.1, e ≠ k) (fun x => Rk.length - x.1) (0, v7) ⟨Nat.zero_le _, fun e he => by (rw [List.take_zero] at he; cases he)⟩ ?_ (fun x hx => ?_)
      · refine Sub.trans (SubU.to SubU.f1) ?_
        dsimp only
        rw [List.take_zero, List.map_nil, List.append_nil]
        exact Sub.of_le (AF.le_put (AV.le_eq rfl) (AF.le_put (AV.le_eq rfl) (AF.le_put (AV.le_eq rfl) (AF.le_put (AV.le_eq rfl) (AF.le_put (AV.le_eq rfl) (AF.le_put (AV.le_eq rfl) (AF.le_put (AV.le_eq rfl) (AF.le_top _))))))))
      obtain ⟨j, v8⟩ := x
      obtain ⟨hj, hje⟩ := hx
      dsimp only at hj hje ⊢
      have hks' : (ks ++ [k]).Nodup := by
        rw [List.nodup_append]
        refine ⟨hkn, by simp, fun a ha c hc' => ?_⟩
        simp at hc'; subst hc'
        exact fun e => hknk (e ▸ ha)
      have hkv' : ∀ k' ∈ ks ++ [k], cVis k' := fun k' hk' => by
        rcases List.mem_append.1 hk' with h | h
        · exact hkv _ h
        · simp only [List.mem_singleton] at h; rw [h]; exact hkvis
      have htot' : (cQ l ks).length + Rk.length ≤ 137438953472 := by
        have := cQ_sub (l := l) hks' hkv'
        rw [cQ_snoc, hRd] at this
        simp only [List.length_append, List.length_map] at this
        omega
      repeat (refine k_seq ?_)
      refine k_reg .free hmixP (by kernel_rfl) ?_
      refine G_q rfl (op_lss rfl rfl ?_)
      refine G_nil ?_
      refine kC_normal ?_
      repeat (refine k_seq ?_)
      refine k_cond_d (p := (j : Int) < (Rk.length : Int)) rfl (fun hc => ?_) (fun hc => ?_)
      · have hp := gi_get (xs := Rk) (i := (j : Int)) (by omega) (by omega)
        simp only [Int.toNat_natCast] at hp
        have hem : gi Rk (j : Int) ∈ Rk := List.mem_of_getElem? hp
        have htk : Rk.take (j + 1) = Rk.take j ++ [gi Rk (j : Int)] := by rw [List.take_add_one, hp]; rfl
        refine k_skip ?_
        refine kC_normal ?_
        repeat (first | refine k_seq ?_ | refine k_block ?_)
        refine k_reg .free hmixP (by kernel_rfl) ?_
        refine G_q rfl (op_index_row (by kernel_rfl) rfl rfl (by omega) (by omega) ?_)
        refine G_q rfl (op_load1p (a := .exact (.int .i64 (gi Rk (j : Int)))) (by kernel_rfl) rfl rfl ?_)
        refine G_q rfl (op_assign (av := .exact (.int .i64 (gi Rk (j : Int)))) rfl ?_)
        refine G_nil ?_
        refine kC_normal ?_
        generalize hee : gi Rk (j : Int) = e at *
        repeat (refine k_seq ?_)
        refine k_reg .free hmixP (by kernel_rfl) ?_
        refine G_q rfl (op_move (av := .exact (.int .i64 e)) rfl ?_)
        refine G_q rfl (op_move (av := .exact (.int .i64 k)) rfl ?_)
        refine G_q rfl (op_eql rfl rfl ?_)
        refine G_nil ?_
        refine kC_normal ?_
        repeat (refine k_seq ?_)
        refine k_cond_d (p := e = k) rfl (fun hek => ?_) (fun hek => ?_)
        · have hrr := hcyc ⟨k, by rw [hRd, ← hek]; exact hem⟩
          subst hrr
          refine k_seq ?_
          refine k_reg .free hmixP (by kernel_rfl) ?_
          refine G_q rfl (op_assign (av := .exact (.slice none 0 0)) rfl ?_)
          refine G_q rfl (op_assign (av := .exact (.int .i64 14)) rfl ?_)
          refine G_nil ?_
          refine kC_normal ?_
          refine k_ret ?_
          repeat (first | refine kC_ret ?_ | refine kB_ret ?_ | refine kI_ret ?_)
          refine kP_any (endN (af' := AF.put (AF.put AF0 (some 2) (.row 2 c_api_Above [])) (some 3) (.exact (.int .i64 14))) (σ' := []) _ rfl ?_ ⟨rfl, rfl⟩)
          refine Sub.trans (SubU.to SubU.dropAll) ?_
          exact Sub.of_le (AF.le_put (AV.le_eq rfl) (AF.le_put (row_nil (by omega)) (AF.le_top _)))
        · refine k_skip ?_
          refine kC_normal ?_
          repeat (refine k_seq ?_)
          refine k_reg .free hmixP (by kernel_rfl) ?_
          refine G_q rfl (op_move (av := .exact v8) rfl ?_)
          refine G_q rfl (op_move (av := .exact (.int .i64 k)) rfl ?_)
          refine G_q rfl (op_move (av := .exact (.int .i64 e)) rfl ?_)
          refine G_q rfl (op_bld (c' := c_api_Above (k, e)) (CellsAll.cons rfl CellsOf.int (CellsAll.cons rfl CellsOf.int CellsAll.nil)) rfl (LEs.cons (AV.le_eq rfl) (LEs.cons (AV.le_eq rfl) LEs.nil)) ?_)
          refine G_q rfl (op_litT (n := 2) (enc := c_api_Above) [(k, e)] (CellsAll.cons rfl CellsOf.agg CellsAll.nil) rfl (by kernel_rfl) (LEss.cons (LEs.cons (AV.le_eq rfl) (LEs.cons (AV.le_eq rfl) LEs.nil)) LEss.nil) ?_)
          have hlen : (cQ l ks ++ (Rk.take j).map (fun e => (k, e))).length + [(k, e)].length ≤ 137438953472 := by
            simp only [List.length_append, List.length_map, List.length_take, List.length_cons, List.length_nil]; omega
          refine G_l rfl (op_appT (by kernel_rfl) rfl rfl oc_c_api_Above hlen (fun v8' => ?_))
          refine G_q rfl (op_assign (av := .exact v8') rfl ?_)
          refine G_nil ?_
          refine kB_normal ?_
          refine kC_normal ?_
          refine k_reg .free hmixP (by kernel_rfl) ?_
          refine G_q rfl (op_add (r := ((j + 1 : Nat) : Int)) rfl rfl (by rw [wrap_i64 _ (by omega)]; omega) ?_)
          refine G_q rfl (op_move (av := .exact (.int .i64 ((j + 1 : Nat) : Int))) rfl ?_)
          refine G_nil ?_
          refine kI_normal ⟨(j + 1, v8'), ⟨by dsimp only; omega, fun e' he' => ?_⟩, by dsimp only; omega, ?_⟩
          · dsimp only at he'
            rw [htk] at he'
            rcases List.mem_append.1 he' with h | h
            · exact hje _ h
            · simp only [List.mem_singleton] at h
              rw [h]; exact hek
          · dsimp only
            rw [htk, List.map_append, ← List.append_assoc]
            exact Sub.of_le (AF.le_put (AV.le_eq rfl) (AF.le_put (AV.le_eq rfl) (AF.le_put (AV.le_eq rfl) (AF.le_put (AV.le_eq rfl) (AF.le_put (AV.le_eq rfl) (AF.le_put (AV.le_eq rfl) (AF.le_put (AV.le_eq rfl) (AF.le_top _))))))))
      · obtain rfl : j = Rk.length := by omega
        rw [List.take_length] at hje ⊢
        refine k_exit ?_
        repeat (first | refine kC_exit ?_ | refine kI_exit ?_)
        refine kB_exit ?_
        repeat (first | refine kB_normal ?_ | refine kC_normal ?_)
        refine kI_normal ⟨(left', some (k, v), ks ++ [k], v8), ⟨hks', fun k' hk' => ?_, fun k' => ?_, fun k' hk' => ?_⟩, hln, ?_⟩
        · dsimp only at hk' ⊢
          rcases List.mem_append.1 hk' with h | h
          · exact fun hm => hkl k' h ((hlf k').1 hm).1
          · simp only [List.mem_singleton] at h
            rw [h]; exact fun hm => ((hlf k).1 hm).2 rfl
        · dsimp only
          rw [hkf k', List.mem_append, List.mem_singleton, hlf k']
          constructor
          · rintro (h | h)
            · exact .inl (.inl h)
            · by_cases e : k' = k
              · exact .inl (.inr e)
              · exact .inr ⟨h, e⟩
          · rintro ((h | h) | h)
            · exact .inl h
            · exact .inr (h ▸ hk)
            · exact .inr h.1
        · dsimp only at hk'
          rcases List.mem_append.1 hk' with h | h
          · exact hkc _ h
          · simp only [List.mem_singleton] at h
            rw [h, hRd]; exact fun hm => hje _ hm rfl
        · dsimp only
          rw [cQ_snoc, hRd]
          exact Sub.of_le (AF.le_put (AV.le_eq rfl) (AF.le_put (AV.le_eq rfl) (AF.le_put (AV.le_eq rfl) (AF.le_top _))))
end Go.Proofs.Ytkbbeeeoogjknaa
/- The functions compute their models, by program. -/
namespace Go.Proofs.Ytkbbeeeoogjknaa
open Go.RowKit
attribute [local irreducible] AV.exact AV.top AV.row AV.ptr AV.agg AV.tup AV.eptr AV.fn AV.nilq AV.nilqn opA opB opM opR Quiet Loud Reads wpG awp den Sub SubU Pure Fun vecI vecT boxI CellsAll CellsOf OneC LEs LEss
set_option maxRecDepth 100000

set_option maxHeartbeats 4000000 in
theorem m_ref16_Visible_ok (a0 : Int) (r : Bool) (h : m_ref16_Visible a0 = some r) : Pure Try.prog 56 [(.exact (.int .i64 a0))] (.exact (.bool r)) := by
  unfold m_ref16_Visible at h
  refine Pure.ofFun (fun_of_awp Try.func56 rfl Try.ntmps56 (by simp) rfl (res1 rfl) fun E hE => k_end ?_)
  refine k_seq ?_
  refine k_reg .free hmixP (by kernel_rfl) ?_
  refine G_q rfl (op_assign (av := .exact (.bool false)) rfl ?_)
  refine G_nil ?_
  refine kC_normal ?_
  refine k_join1_0 h (fun (x2_j1 : Bool) => (AF.put AF0 (some 2) (.exact (.bool x2_j1)))) (fun (x2_j1 : Bool) => []) (fun k1 h => ?_) (fun x2_j1 h => ?_)
  · refine k_reg .free hmixP (by kernel_rfl) ?_
    refine G_q rfl (op_move (av := .exact (.int .i64 a0)) rfl ?_)
    refine G_q rfl (op_geq rfl rfl ?_)
    refine G_q rfl (op_move (av := .exact (.bool (decide (2 ≤ a0)))) rfl ?_)
    refine G_split (p := 2 ≤ a0) 5 rfl (fun hc => ?_) (fun hc => ?_)
    · replace h := ite_t h hc
      refine Gy_q rfl rfl rfl (op_move (av := .exact (.int .i64 a0)) rfl ?_)
      refine Gy_q rfl rfl rfl (op_lss rfl rfl ?_)
      refine G_q rfl (op_pick_t rfl (av := .exact (.bool (decide (a0 < 1026)))) rfl ?_)
      refine G_q rfl (op_assign (av := .exact (.bool (decide (a0 < 1026)))) rfl ?_)
      refine G_nil ?_
      refine kI_normal ⟨_, h, ?_⟩
      exact Sub.of_le (AF.le_put (AV.le_eq rfl) (AF.le_top _))
    · replace h := ite_f h hc
      refine G_n rfl rfl ?_
      refine G_n rfl rfl ?_
      refine G_q rfl (op_pick_f rfl (av := .exact (.bool false)) rfl ?_)
      refine G_q rfl (op_assign (av := .exact (.bool false)) rfl ?_)
      refine G_nil ?_
      refine kI_normal ⟨_, h, ?_⟩
      exact Sub.of_le (AF.le_put (AV.le_eq rfl) (AF.le_top _))
  · refine k_ret ?_
    obtain rfl := Option.some.inj h
    refine kP_any (endN (af' := (AF.put AF0 (some 2) (.exact (.bool x2_j1)))) (σ' := []) _ rfl ?_ ⟨rfl, rfl⟩)
    exact Sub.of_le (AF.le_put (AV.le_eq rfl) (AF.le_top _))
set_option maxHeartbeats 4000000 in
theorem m_ref16_before_ok (a0 : Int × Int) (a1 : Int × Int) (r : Bool) (h : m_ref16_before a0 a1 = some r) : Pure Try.prog 58 [(.agg (c_api_Pair a0)), (.agg (c_api_Pair a1))] (.exact (.bool r)) := by
  unfold m_ref16_before at h
  refine Pure.ofFun (fun_of_awp Try.func58 rfl Try.ntmps58 (by simp) rfl (res1 rfl) fun E hE => k_end ?_)
  refine k_seq ?_
  refine k_reg .free hmixP (by kernel_rfl) ?_
  refine G_q rfl (op_box (c := c_api_Pair a0) rfl CellsOf.agg ?_)
  refine G_q rfl (op_box (c := c_api_Pair a1) rfl CellsOf.agg ?_)
  refine G_q rfl (op_assign (av := .exact (.bool false)) rfl ?_)
  refine G_nil ?_
  refine kC_normal ?_
  refine k_join1_0 h (fun (x4_j1 : Bool) => (AF.put AF0 (some 4) (.exact (.bool x4_j1)))) (fun (x4_j1 : Bool) => []) (fun k1 h => ?_) (fun x4_j1 h => ?_)
  · refine k_reg .free hmixP (by kernel_rfl) ?_
    refine G_q rfl (op_fieldAddr_ptr (o := 0) (c' := (List.drop 0 (c_api_Pair a0))) (by kernel_rfl) rfl rfl ?_)
    refine G_q rfl (op_load1p (a := .exact (.int .i64 a0.1)) (by kernel_rfl) rfl rfl ?_)
    refine G_q rfl (op_fieldAddr_ptr (o := 0) (c' := (List.drop 0 (c_api_Pair a1))) (by kernel_rfl) rfl rfl ?_)
    refine G_q rfl (op_load1p (a := .exact (.int .i64 a1.1)) (by kernel_rfl) rfl rfl ?_)
    refine G_q rfl (op_lss rfl rfl ?_)
    refine G_q rfl (op_move (av := .exact (.bool (decide (a0.1 < a1.1)))) rfl ?_)
    refine G_split (p := a0.1 < a1.1) 10 rfl (fun hc => ?_) (fun hc => ?_)
    · replace h := ite_t h hc
      refine G_n rfl rfl ?_
      refine G_n rfl rfl ?_
      refine G_n rfl rfl ?_
      refine G_n rfl rfl ?_
      refine G_n rfl rfl ?_
      refine G_n rfl rfl ?_
      refine G_u rfl rfl ?_
      refine G_u rfl rfl ?_
      refine G_u rfl rfl ?_
      refine G_u rfl rfl ?_
      refine G_u rfl rfl ?_
      refine G_n rfl rfl ?_
      refine G_q rfl (op_pick_t rfl (av := .exact (.bool true)) rfl ?_)
      refine G_q rfl (op_assign (av := .exact (.bool true)) rfl ?_)
      refine G_nil ?_
      refine kI_normal ⟨_, h, ?_⟩
      exact Sub.of_le (AF.le_put (AV.le_eq rfl) (AF.le_top _))
    · replace h := ite_f h hc
      refine Gy_q rfl rfl rfl (op_fieldAddr_ptr (o := 0) (c' := (List.drop 0 (c_api_Pair a0))) (by kernel_rfl) rfl rfl ?_)
      refine Gy_q rfl rfl rfl (op_load1p (a := .exact (.int .i64 a0.1)) (by kernel_rfl) rfl rfl ?_)
      refine Gy_q rfl rfl rfl (op_fieldAddr_ptr (o := 0) (c' := (List.drop 0 (c_api_Pair a1))) (by kernel_rfl) rfl rfl ?_)
      refine Gy_q rfl rfl rfl (op_load1p (a := .exact (.int .i64 a1.1)) (by kernel_rfl) rfl rfl ?_)
      refine Gy_q rfl rfl rfl (op_eql rfl rfl ?_)
      refine Gy_q rfl rfl rfl (op_move (av := .exact (.bool (decide (a0.1 = a1.1)))) rfl ?_)
      refine G_split (p := a0.1 = a1.1) 16 rfl (fun hc => ?_) (fun hc => ?_)
      · replace h := ite_t h hc
        refine Gy_q rfl rfl rfl (op_fieldAddr_ptr (o := 1) (c' := (List.drop 1 (c_api_Pair a0))) (by kernel_rfl) rfl rfl ?_)
        refine Gy_q rfl rfl rfl (op_load1p (a := .exact (.int .i64 a0.2)) (by kernel_rfl) rfl rfl ?_)
        refine Gy_q rfl rfl rfl (op_fieldAddr_ptr (o := 1) (c' := (List.drop 1 (c_api_Pair a1))) (by kernel_rfl) rfl rfl ?_)
        refine Gy_q rfl rfl rfl (op_load1p (a := .exact (.int .i64 a1.2)) (by kernel_rfl) rfl rfl ?_)
        refine Gy_q rfl rfl rfl (op_lss rfl rfl ?_)
        refine Gy_q rfl rfl rfl (op_pick_t rfl (av := .exact (.bool (decide (a0.2 < a1.2)))) rfl ?_)
        refine G_q rfl (op_pick_f rfl (av := .exact (.bool (decide (a0.2 < a1.2)))) rfl ?_)
        refine G_q rfl (op_assign (av := .exact (.bool (decide (a0.2 < a1.2)))) rfl ?_)
        refine G_nil ?_
        refine kI_normal ⟨_, h, ?_⟩
        exact Sub.of_le (AF.le_put (AV.le_eq rfl) (AF.le_top _))
      · replace h := ite_f h hc
        refine G_n rfl rfl ?_
        refine G_n rfl rfl ?_
        refine G_n rfl rfl ?_
        refine G_n rfl rfl ?_
        refine G_n rfl rfl ?_
        refine Gy_q rfl rfl rfl (op_pick_f rfl (av := .exact (.bool false)) rfl ?_)
        refine G_q rfl (op_pick_f rfl (av := .exact (.bool false)) rfl ?_)
        refine G_q rfl (op_assign (av := .exact (.bool false)) rfl ?_)
        refine G_nil ?_
        refine kI_normal ⟨_, h, ?_⟩
        exact Sub.of_le (AF.le_put (AV.le_eq rfl) (AF.le_top _))
  · refine k_ret ?_
    obtain rfl := Option.some.inj h
    refine kP_any (endN (af' := (AF.put AF0 (some 4) (.exact (.bool x4_j1)))) (σ' := []) _ rfl ?_ ⟨rfl, rfl⟩)
    exact Sub.of_le (AF.le_put (AV.le_eq rfl) (AF.le_top _))
set_option maxHeartbeats 4000000 in
theorem m_ref16_Relation_ok (a0 : List (Int × Int)) (r : (List (Int × Int))) (h : m_ref16_Relation a0 = some r) : Fun Try.prog 31 [(.row 2 c_api_Pair a0)] [] (fun a s => ∃ z0, a = .exact z0 ∧ s = [vecT Try.prog 44 2 c_api_Pair z0 r]) := by
  unfold m_ref16_Relation at h
  refine fun_of_awp Try.func31 rfl Try.ntmps31 (by simp) rfl (res1 rfl) fun E hE => k_end ?_
  refine k_seq ?_
  refine k_reg .free hmixP (by kernel_rfl) ?_
  refine G_q rfl (op_assign (av := .exact (.slice none 0 0)) rfl ?_)
  refine G_nil ?_
  refine kC_normal ?_
  refine k_seq ?_
  refine k_reg .free hmixP (by kernel_rfl) ?_
  refine G_q rfl (op_assign (av := .exact (.slice none 0 0)) rfl ?_)
  refine G_nil ?_
  refine kC_normal ?_
  refine k_join1_1 h (fun (x3_j1 : List (Int × Int)) (v3_j1 : Value) => (AF.put AF0 (some 3) (.exact v3_j1))) (fun (x3_j1 : List (Int × Int)) (v3_j1 : Value) => [vecT Try.prog 44 2 c_api_Pair v3_j1 x3_j1]) (fun k1 h => ?_) (fun x3_j1 v3_j1 h => ?_)
  · refine k_seq ?_
    refine k_reg .free hmixP (by kernel_rfl) ?_
    refine G_q rfl (op_assign (av := .exact (.int .i64 0)) rfl ?_)
    refine G_nil ?_
    refine kC_normal ?_
    refine k_block ?_
    refine k_loop2_1 (m_ref16_Relation_L14 a0 k1) (m_ref16_Relation_B14 a0 k1) (fun _ _ => rfl) (fun m _ _ => rfl) h (fun (x3_l14 : List (Int × Int)) (x4_l14 : Int) (v3_l14 : Value) => (AF.put (AF.put (AF.put AF0 (some 0) (.row 2 c_api_Pair a0)) (some 3) (.exact v3_l14)) (some 4) (.exact (.int .i64 x4_l14)))) (fun (x3_l14 : List (Int × Int)) (x4_l14 : Int) (v3_l14 : Value) => [vecT Try.prog 44 2 c_api_Pair v3_l14 x3_l14]) (.slice none 0 0) ?_ (fun rec14 x3_l14 x4_l14 v3_l14 h => ?_)
    · refine Sub.trans (SubU.to (SubU.nilT (P := Try.prog) (t := 44) (n := 2) (enc := c_api_Pair))) ?_
      exact Sub.of_le (AF.le_put (AV.le_eq rfl) (AF.le_put (AV.le_eq rfl) (AF.le_put (AV.le_eq rfl) (AF.le_top _))))
    · unfold m_ref16_Relation_B14 at h
      refine k_seq ?_
      refine k_seq ?_
      refine k_reg .free hmixP (by kernel_rfl) ?_
      refine G_q rfl (op_move (av := .exact (.int .i64 x4_l14)) rfl ?_)
      refine G_q rfl (op_move (av := .row 2 c_api_Pair a0) rfl ?_)
      refine G_q rfl (op_len_row (by kernel_rfl) rfl ?_)
      refine G_q rfl (op_lss rfl rfl ?_)
      refine G_nil ?_
      refine kC_normal ?_
      refine k_cond_d (p := x4_l14 < (List.length a0 : Int)) rfl (fun hc => ?_) (fun hc => ?_)
      · replace h := ite_t h hc
        refine k_skip ?_
        refine kC_normal ?_
        refine k_join1_1 h (fun (x3_j1034 : List (Int × Int)) (v3_j1034 : Value) => (AF.put (AF.put (AF.put AF0 (some 0) (.row 2 c_api_Pair a0)) (some 3) (.exact v3_j1034)) (some 4) (.exact (.int .i64 x4_l14)))) (fun (x3_j1034 : List (Int × Int)) (v3_j1034 : Value) => [vecT Try.prog 44 2 c_api_Pair v3_j1034 x3_j1034]) (fun k1034 h => ?_) (fun x3_j1034 v3_j1034 h => ?_)
        · refine k_block ?_
          refine k_seq ?_
          refine k_join1_0 h (fun (x27_j1174 : Bool) => (AF.put (AF.put (AF.put (AF.put AF0 (some 0) (.row 2 c_api_Pair a0)) (some 3) (.exact v3_l14)) (some 4) (.exact (.int .i64 x4_l14))) (some 27) (.exact (.bool x27_j1174)))) (fun (x27_j1174 : Bool) => [vecT Try.prog 44 2 c_api_Pair v3_l14 x3_l14]) (fun k1174 h => ?_) (fun x27_j1174 h => ?_)
          · refine k_reg .free hmixP (by kernel_rfl) ?_
            refine G_q rfl (op_move (av := .row 2 c_api_Pair a0) rfl ?_)
            refine G_q rfl (op_move (av := .exact (.int .i64 x4_l14)) rfl ?_)
            obtain ⟨n1179, h⟩ := need_some h
            refine G_q rfl (op_index_row (by kernel_rfl) rfl rfl n1179.1 n1179.2 ?_)
            refine G_q rfl (op_fieldAddr_ptr (o := 0) (c' := (List.drop 0 (c_api_Pair (gi a0 x4_l14)))) (by kernel_rfl) rfl rfl ?_)
            refine G_q rfl (op_load1p (a := .exact (.int .i64 ((gi a0 x4_l14).1))) (by kernel_rfl) rfl rfl ?_)
            obtain ⟨y1180, hy1180, h⟩ := bnd1_some h
            refine G_q rfl (op_pure (m_ref16_Visible_ok _ _ hy1180) Try.func56 (by kernel_rfl) (LEs.cons (AV.le_eq rfl) LEs.nil) ?_)
            refine G_q rfl (op_not rfl ?_)
            refine G_q rfl (op_move (av := .exact (.bool (!y1180))) rfl ?_)
            refine G_splitB (c := !y1180) 19 rfl (fun hc => ?_) (fun hc => ?_)
            · replace h := ite_t h hc
              refine G_n rfl rfl ?_
              refine G_n rfl rfl ?_
              refine G_n rfl rfl ?_
              refine G_n rfl rfl ?_
              refine G_n rfl rfl ?_
              refine G_n rfl rfl ?_
              refine G_n rfl rfl ?_
              refine G_q rfl (op_pick_t rfl (av := .exact (.bool true)) rfl ?_)
              refine G_nil ?_
              refine kI_normal ⟨_, h, ?_⟩
              exact Sub.of_le (AF.le_put (AV.le_eq rfl) (AF.le_put (AV.le_eq rfl) (AF.le_put (AV.le_eq rfl) (AF.le_put (AV.le_eq rfl) (AF.le_top _)))))
            · replace h := ite_f h hc
              refine Gy_q rfl rfl rfl (op_move (av := .row 2 c_api_Pair a0) rfl ?_)
              refine Gy_q rfl rfl rfl (op_move (av := .exact (.int .i64 x4_l14)) rfl ?_)
              obtain ⟨n1181, h⟩ := need_some h
              refine Gy_q rfl rfl rfl (op_index_row (by kernel_rfl) rfl rfl n1181.1 n1181.2 ?_)
              refine Gy_q rfl rfl rfl (op_fieldAddr_ptr (o := 1) (c' := (List.drop 1 (c_api_Pair (gi a0 x4_l14)))) (by kernel_rfl) rfl rfl ?_)
              refine Gy_q rfl rfl rfl (op_load1p (a := .exact (.int .i64 ((gi a0 x4_l14).2))) (by kernel_rfl) rfl rfl ?_)
              obtain ⟨y1182, hy1182, h⟩ := bnd1_some h
              refine Gy_q rfl rfl rfl (op_pure (m_ref16_Visible_ok _ _ hy1182) Try.func56 (by kernel_rfl) (LEs.cons (AV.le_eq rfl) LEs.nil) ?_)
              refine Gy_q rfl rfl rfl (op_not rfl ?_)
              refine G_q rfl (op_pick_f rfl (av := .exact (.bool (!y1182))) rfl ?_)
              refine G_nil ?_
              refine kI_normal ⟨_, h, ?_⟩
              exact Sub.of_le (AF.le_put (AV.le_eq rfl) (AF.le_put (AV.le_eq rfl) (AF.le_put (AV.le_eq rfl) (AF.le_put (AV.le_eq rfl) (AF.le_top _)))))
          · refine k_cond_b (c := x27_j1174) rfl (fun hc => ?_) (fun hc => ?_)
            · replace h := ite_t h hc
              refine k_exit ?_
              refine kC_exit ?_
              refine kB_exit ?_
              refine kI_normal ⟨_, v3_l14, h, ?_⟩
              exact Sub.of_le (AF.le_put (AV.le_eq rfl) (AF.le_put (AV.le_eq rfl) (AF.le_put (AV.le_eq rfl) (AF.le_top _))))
            · replace h := ite_f h hc
              refine k_skip ?_
              refine kC_normal ?_
              refine k_seq ?_
              refine k_reg .free hmixP (by kernel_rfl) ?_
              refine G_q rfl (op_assign (av := .exact (.int .i64 0)) rfl ?_)
              refine G_nil ?_
              refine kC_normal ?_
              refine k_join1_0 h (fun (x5_j1183 : Int) => (AF.put (AF.put (AF.put (AF.put AF0 (some 0) (.row 2 c_api_Pair a0)) (some 3) (.exact v3_l14)) (some 4) (.exact (.int .i64 x4_l14))) (some 5) (.exact (.int .i64 x5_j1183)))) (fun (x5_j1183 : Int) => [vecT Try.prog 44 2 c_api_Pair v3_l14 x3_l14]) (fun k1183 h => ?_) (fun x5_j1183 h => ?_)
              · refine k_block ?_
                refine k_loop1_0 (m_ref16_Relation_L26 a0 x3_l14 x4_l14 k1183) (m_ref16_Relation_B26 a0 x3_l14 x4_l14 k1183) (fun _ => rfl) (fun m _ => rfl) h (fun (x5_l26 : Int) => (AF.put (AF.put (AF.put (AF.put AF0 (some 0) (.row 2 c_api_Pair a0)) (some 3) (.exact v3_l14)) (some 4) (.exact (.int .i64 x4_l14))) (some 5) (.exact (.int .i64 x5_l26)))) (fun (x5_l26 : Int) => [vecT Try.prog 44 2 c_api_Pair v3_l14 x3_l14]) ?_ (fun rec26 x5_l26 h => ?_)
                · exact Sub.of_le (AF.le_put (AV.le_eq rfl) (AF.le_put (AV.le_eq rfl) (AF.le_put (AV.le_eq rfl) (AF.le_put (AV.le_eq rfl) (AF.le_top _)))))
                · unfold m_ref16_Relation_B26 at h
                  refine k_seq ?_
                  refine k_join1_0 h (fun (x42_j1268 : Bool) => (AF.put (AF.put (AF.put (AF.put (AF.put AF0 (some 0) (.row 2 c_api_Pair a0)) (some 3) (.exact v3_l14)) (some 4) (.exact (.int .i64 x4_l14))) (some 5) (.exact (.int .i64 x5_l26))) (some 42) (.exact (.bool x42_j1268)))) (fun (x42_j1268 : Bool) => [vecT Try.prog 44 2 c_api_Pair v3_l14 x3_l14]) (fun k1268 h => ?_) (fun x42_j1268 h => ?_)
                  · refine k_plan [] [(0, 0), (0, 1), (1, 2), (0, 3), (0, 4), (0, 5), (0, 6), (0, 9), (0, 10), (0, 11), (0, 12), (1, 7), (1, 8), (0, 13), (0, 14)] hmixP (by kernel_rfl) ?_
                    refine P_q no34_0 rfl (op_move (av := .exact (.int .i64 x5_l26)) rfl ?_)
                    refine P_q no34_0 rfl (op_move (av := .exact v3_l14) rfl ?_)
                    refine P_r rfl (op_len_vec (by kernel_rfl) rfl ?_)
                    refine P_q no34_0 rfl (op_lss rfl rfl ?_)
                    refine P_q no34_0 rfl (op_move (av := .exact (.bool (decide (x5_l26 < (List.length x3_l14 : Int))))) rfl ?_)
                    refine P_split (p := x5_l26 < (List.length x3_l14 : Int)) 32 rfl (fun hc => ?_) (fun hc => ?_)
                    · replace h := ite_t h hc
                      refine Py_q no34_0 rfl rfl rfl (op_move (av := .exact v3_l14) rfl ?_)
                      refine Py_q no34_0 rfl rfl rfl (op_move (av := .exact (.int .i64 x5_l26)) rfl ?_)
                      refine Py_q no34_0 rfl rfl rfl (op_move (av := .row 2 c_api_Pair a0) rfl ?_)
                      refine Py_q no34_0 rfl rfl rfl (op_move (av := .exact (.int .i64 x4_l14)) rfl ?_)
                      obtain ⟨n1272, h⟩ := need_some h
                      refine Py_q no34_0 rfl rfl rfl (op_index_row (by kernel_rfl) rfl rfl n1272.1 n1272.2 ?_)
                      refine Py_q no34_0 rfl rfl rfl (op_loadNp (m := 2) (c' := c_api_Pair (gi a0 x4_l14)) (by kernel_rfl) rfl rfl rfl ?_)
                      obtain ⟨n1273, h⟩ := need_some h
                      refine Py_r rfl rfl rfl (op_index_vec (by kernel_rfl) rfl rfl n1273.1 n1273.2 ?_)
                      refine Py_r rfl rfl rfl (op_load_vecN (i := x5_l26) (o := 0) (m := 2) (c' := c_api_Pair (gi x3_l14 x5_l26)) (by kernel_rfl) len_c_api_Pair rfl n1273.1 n1273.2 rfl rfl ?_)
                      obtain ⟨y1274, hy1274, h⟩ := bnd1_some h
                      refine Py_q no34_0 rfl rfl rfl (op_pure (m_ref16_before_ok _ _ _ hy1274) Try.func58 (by kernel_rfl) (LEs.cons (AV.le_eq rfl) (LEs.cons (AV.le_eq rfl) LEs.nil)) ?_)
                      refine P_q no34_0 rfl (op_pick_t rfl (av := .exact (.bool y1274)) rfl ?_)
                      refine P_nil ?_
                      refine kI_normal ⟨_, h, ?_⟩
                      exact Sub.of_le (AF.le_put (AV.le_eq rfl) (AF.le_put (AV.le_eq rfl) (AF.le_put (AV.le_eq rfl) (AF.le_put (AV.le_eq rfl) (AF.le_put (AV.le_eq rfl) (AF.le_top _))))))
                    · replace h := ite_f h hc
                      refine P_n no34_0 rfl rfl rfl ?_
                      refine P_n no34_0 rfl rfl rfl ?_
                      refine P_n no34_0 rfl rfl rfl ?_
                      refine P_n no34_0 rfl rfl rfl ?_
                      refine P_n no34_0 rfl rfl rfl ?_
                      refine P_n no34_0 rfl rfl rfl ?_
                      refine P_n no34_1 rfl rfl rfl ?_
                      refine P_n no34_1 rfl rfl rfl ?_
                      refine P_n no34_0 rfl rfl rfl ?_
                      refine P_q no34_0 rfl (op_pick_f rfl (av := .exact (.bool false)) rfl ?_)
                      refine P_nil ?_
                      refine kI_normal ⟨_, h, ?_⟩
                      exact Sub.of_le (AF.le_put (AV.le_eq rfl) (AF.le_put (AV.le_eq rfl) (AF.le_put (AV.le_eq rfl) (AF.le_put (AV.le_eq rfl) (AF.le_put (AV.le_eq rfl) (AF.le_top _))))))
                  · refine k_cond_b (c := x42_j1268) rfl (fun hc => ?_) (fun hc => ?_)
                    · replace h := ite_t h hc
                      refine k_skip ?_
                      refine kC_normal ?_
                      refine k_block ?_
                      refine k_reg .free hmixP (by kernel_rfl) ?_
                      refine G_q rfl (op_move (av := .exact (.int .i64 x5_l26)) rfl ?_)
                      refine G_q rfl (op_add rfl rfl rfl ?_)
                      refine G_q rfl (op_assign (av := .exact (.int .i64 (i64 (x5_l26 + 1)))) rfl ?_)
                      refine G_nil ?_
                      refine kB_normal ?_
                      refine kI_normal ⟨_, h, ?_⟩
                      exact Sub.of_le (AF.le_put (AV.le_eq rfl) (AF.le_put (AV.le_eq rfl) (AF.le_put (AV.le_eq rfl) (AF.le_put (AV.le_eq rfl) (AF.le_top _)))))
                    · replace h := ite_f h hc
                      refine k_exit ?_
                      refine kC_exit ?_
                      refine kI_exit ?_
                      refine kB_exit ?_
                      refine kI_normal ⟨_, h, ?_⟩
                      exact Sub.of_le (AF.le_put (AV.le_eq rfl) (AF.le_put (AV.le_eq rfl) (AF.le_put (AV.le_eq rfl) (AF.le_put (AV.le_eq rfl) (AF.le_top _)))))
              · refine k_seq ?_
                refine k_join1_0 h (fun (x59_j1281 : Bool) => (AF.put (AF.put (AF.put (AF.put (AF.put AF0 (some 0) (.row 2 c_api_Pair a0)) (some 3) (.exact v3_l14)) (some 4) (.exact (.int .i64 x4_l14))) (some 5) (.exact (.int .i64 x5_j1183))) (some 59) (.exact (.bool x59_j1281)))) (fun (x59_j1281 : Bool) => [vecT Try.prog 44 2 c_api_Pair v3_l14 x3_l14]) (fun k1281 h => ?_) (fun x59_j1281 h => ?_)
                · refine k_plan [] [(0, 0), (0, 1), (1, 2), (0, 3), (0, 4), (0, 5), (0, 6), (0, 9), (0, 10), (0, 11), (0, 12), (1, 7), (1, 8), (0, 13), (0, 14)] hmixP (by kernel_rfl) ?_
                  refine P_q no34_0 rfl (op_move (av := .exact (.int .i64 x5_j1183)) rfl ?_)
                  refine P_q no34_0 rfl (op_move (av := .exact v3_l14) rfl ?_)
                  refine P_r rfl (op_len_vec (by kernel_rfl) rfl ?_)
                  refine P_q no34_0 rfl (op_lss rfl rfl ?_)
                  refine P_q no34_0 rfl (op_move (av := .exact (.bool (decide (x5_j1183 < (List.length x3_l14 : Int))))) rfl ?_)
                  refine P_split (p := x5_j1183 < (List.length x3_l14 : Int)) 49 rfl (fun hc => ?_) (fun hc => ?_)
                  · replace h := ite_t h hc
                    refine Py_q no34_0 rfl rfl rfl (op_move (av := .exact v3_l14) rfl ?_)
                    refine Py_q no34_0 rfl rfl rfl (op_move (av := .exact (.int .i64 x5_j1183)) rfl ?_)
                    refine Py_q no34_0 rfl rfl rfl (op_move (av := .row 2 c_api_Pair a0) rfl ?_)
                    refine Py_q no34_0 rfl rfl rfl (op_move (av := .exact (.int .i64 x4_l14)) rfl ?_)
                    obtain ⟨n1284, h⟩ := need_some h
                    refine Py_q no34_0 rfl rfl rfl (op_index_row (by kernel_rfl) rfl rfl n1284.1 n1284.2 ?_)
                    refine Py_q no34_0 rfl rfl rfl (op_loadNp (m := 2) (c' := c_api_Pair (gi a0 x4_l14)) (by kernel_rfl) rfl rfl rfl ?_)
                    obtain ⟨n1285, h⟩ := need_some h
                    refine Py_r rfl rfl rfl (op_index_vec (by kernel_rfl) rfl rfl n1285.1 n1285.2 ?_)
                    refine Py_r rfl rfl rfl (op_load_vecN (i := x5_j1183) (o := 0) (m := 2) (c' := c_api_Pair (gi x3_l14 x5_j1183)) (by kernel_rfl) len_c_api_Pair rfl n1285.1 n1285.2 rfl rfl ?_)
                    refine Py_q no34_0 rfl rfl rfl (op_eqlA (a := (gi x3_l14 x5_j1183)) (b := (gi a0 x4_l14)) (by kernel_rfl) (eq_c_api_Pair _ _) rfl rfl ?_)
                    refine P_q no34_0 rfl (op_pick_t rfl (av := .exact (.bool (decide ((gi x3_l14 x5_j1183) = (gi a0 x4_l14))))) rfl ?_)
                    refine P_nil ?_
                    refine kI_normal ⟨_, h, ?_⟩
                    exact Sub.of_le (AF.le_put (AV.le_eq rfl) (AF.le_put (AV.le_eq rfl) (AF.le_put (AV.le_eq rfl) (AF.le_put (AV.le_eq rfl) (AF.le_put (AV.le_eq rfl) (AF.le_top _))))))
                  · replace h := ite_f h hc
                    refine P_n no34_0 rfl rfl rfl ?_
                    refine P_n no34_0 rfl rfl rfl ?_
                    refine P_n no34_0 rfl rfl rfl ?_
                    refine P_n no34_0 rfl rfl rfl ?_
                    refine P_n no34_0 rfl rfl rfl ?_
                    refine P_n no34_0 rfl rfl rfl ?_
                    refine P_n no34_1 rfl rfl rfl ?_
                    refine P_n no34_1 rfl rfl rfl ?_
                    refine P_n no34_0 rfl rfl rfl ?_
                    refine P_q no34_0 rfl (op_pick_f rfl (av := .exact (.bool false)) rfl ?_)
                    refine P_nil ?_
                    refine kI_normal ⟨_, h, ?_⟩
                    exact Sub.of_le (AF.le_put (AV.le_eq rfl) (AF.le_put (AV.le_eq rfl) (AF.le_put (AV.le_eq rfl) (AF.le_put (AV.le_eq rfl) (AF.le_put (AV.le_eq rfl) (AF.le_top _))))))
                · refine k_cond_b (c := x59_j1281) rfl (fun hc => ?_) (fun hc => ?_)
                  · replace h := ite_t h hc
                    refine k_exit ?_
                    refine kC_exit ?_
                    refine kB_exit ?_
                    refine kI_normal ⟨_, v3_l14, h, ?_⟩
                    exact Sub.of_le (AF.le_put (AV.le_eq rfl) (AF.le_put (AV.le_eq rfl) (AF.le_put (AV.le_eq rfl) (AF.le_top _))))
                  · replace h := ite_f h hc
                    refine k_skip ?_
                    refine kC_normal ?_
                    refine k_seq ?_
                    refine k_reg .free hmixP (by kernel_rfl) ?_
                    refine G_q rfl (op_move (av := .exact v3_l14) rfl ?_)
                    refine G_q rfl (op_bld (c' := c_api_Pair (0, 0)) CellsAll.nil rfl (LEs.cons (AV.le_eq rfl) (LEs.cons (AV.le_eq rfl) LEs.nil)) ?_)
                    refine G_q rfl (op_litT (n := 2) (enc := c_api_Pair) [(0, 0)] (CellsAll.cons rfl CellsOf.agg CellsAll.nil) rfl (by kernel_rfl) (LEss.cons (LEs.cons (AV.le_eq rfl) (LEs.cons (AV.le_eq rfl) LEs.nil)) LEss.nil) ?_)
                    obtain ⟨n1286, h⟩ := need_some h
                    refine G_l rfl (op_appT (by kernel_rfl) rfl rfl oc_c_api_Pair n1286 (fun v1287 => ?_))
                    refine G_q rfl (op_assign (av := .exact v1287) rfl ?_)
                    refine G_nil ?_
                    refine kC_normal ?_
                    refine k_seq ?_
                    refine k_plan [] [(0, 0), (0, 1), (0, 2), (0, 4), (0, 5), (1, 3), (1, 6), (2, 7)] hmixP (by kernel_rfl) ?_
                    refine P_q no34_0 rfl (op_move (av := .exact v1287) rfl ?_)
                    refine P_q no34_0 rfl (op_move (av := .exact (.int .i64 x5_j1183)) rfl ?_)
                    refine P_q no34_0 rfl (op_add rfl rfl rfl ?_)
                    refine P_q no34_0 rfl (op_move (av := .exact v1287) rfl ?_)
                    refine P_q no34_0 rfl (op_move (av := .exact (.int .i64 x5_j1183)) rfl ?_)
                    obtain ⟨n1288, h⟩ := need_some h
                    refine P_r rfl (op_slice_vec (by kernel_rfl) rfl (bnd_some rfl) bnd_none n1288.1 n1288.2.1 n1288.2.2 ?_)
                    obtain ⟨n1289, h⟩ := need_some h
                    refine P_r rfl (op_slice_vec (by kernel_rfl) rfl (bnd_some rfl) bnd_none n1289.1 n1289.2.1 n1289.2.2 ?_)
                    refine P_l rfl (op_copy (q := (Nat.min (Int.toNat (List.length (x3_l14 ++ [(0, 0)]) : Int) - Int.toNat x5_j1183) (Int.toNat (List.length (x3_l14 ++ [(0, 0)]) : Int) - Int.toNat (i64 (x5_j1183 + 1))))) (by kernel_rfl) (by kernel_rfl) len_c_api_Pair oc_c_api_Pair rfl rfl (by have hh := n1288; first | omega | (simp only [i64] at hh; omega) | (simp only [i64] at hh ⊢; omega)) (by have hh := n1289; first | omega | (simp only [i64] at hh; omega) | (simp only [i64] at hh ⊢; omega)) rfl ?_)
                    refine P_nil ?_
                    refine kC_normal ?_
                    refine k_reg .free hmixP (by kernel_rfl) ?_
                    refine G_q rfl (op_move (av := .exact v1287) rfl ?_)
                    refine G_q rfl (op_move (av := .exact (.int .i64 x5_j1183)) rfl ?_)
                    refine G_q rfl (op_move (av := .row 2 c_api_Pair a0) rfl ?_)
                    refine G_q rfl (op_move (av := .exact (.int .i64 x4_l14)) rfl ?_)
                    obtain ⟨n1290, h⟩ := need_some h
                    refine G_q rfl (op_index_row (by kernel_rfl) rfl rfl n1290.1 n1290.2 ?_)
                    refine G_q rfl (op_loadNp (m := 2) (c' := c_api_Pair (gi a0 x4_l14)) (by kernel_rfl) rfl rfl rfl ?_)
                    obtain ⟨n1291, h⟩ := need_some h
                    refine G_r rfl (op_index_vec (by kernel_rfl) rfl rfl n1291.1 n1291.2 ?_)
                    refine G_l rfl (op_store_vec (i := x5_j1183) (o := 0) (z := gi a0 x4_l14) (c' := [.exact (.int .i64 ((gi a0 x4_l14).1)), .exact (.int .i64 ((gi a0 x4_l14).2))]) (by kernel_rfl) len_c_api_Pair rfl n1291.1 n1291.2 rfl CellsOf.agg (LEs.cons (AV.le_eq rfl) (LEs.cons (AV.le_eq rfl) LEs.nil)) (oc_c_api_Pair _) (by kernel_rfl) (Nat.le_of_ble_eq_true rfl) rfl ?_)
                    refine G_nil ?_
                    refine kB_normal ?_
                    refine kI_normal ⟨_, v1287, h, ?_⟩
                    exact Sub.of_le (AF.le_put (AV.le_eq rfl) (AF.le_put (AV.le_eq rfl) (AF.le_put (AV.le_eq rfl) (AF.le_top _))))
        · refine k_reg .free hmixP (by kernel_rfl) ?_
          refine G_q rfl (op_move (av := .exact (.int .i64 x4_l14)) rfl ?_)
          refine G_q rfl (op_add rfl rfl rfl ?_)
          refine G_q rfl (op_assign (av := .exact (.int .i64 (i64 (x4_l14 + 1)))) rfl ?_)
          refine G_nil ?_
          refine kI_normal ⟨_, _, v3_j1034, h, ?_⟩
          exact Sub.of_le (AF.le_put (AV.le_eq rfl) (AF.le_put (AV.le_eq rfl) (AF.le_put (AV.le_eq rfl) (AF.le_top _))))
      · replace h := ite_f h hc
        refine k_exit ?_
        refine kC_exit ?_
        refine kI_exit ?_
        refine kB_exit ?_
        refine kI_normal ⟨_, v3_l14, h, ?_⟩
        exact Sub.of_le (AF.le_put (AV.le_eq rfl) (AF.le_top _))
  · refine k_seq ?_
    refine k_reg .free hmixP (by kernel_rfl) ?_
    refine G_q rfl (op_move (av := .exact v3_j1) rfl ?_)
    refine G_q rfl (op_assign (av := .exact v3_j1) rfl ?_)
    refine G_nil ?_
    refine kC_normal ?_
    refine k_ret ?_
    obtain rfl := Option.some.inj h
    refine kP_any (endN (af' := (AF.put AF0 (some 2) (.exact v3_j1))) (σ' := [vecT Try.prog 44 2 c_api_Pair v3_j1 x3_j1]) _ rfl ?_ ⟨v3_j1, rfl, rfl⟩)
    exact Sub.of_le (AF.le_put (AV.le_eq rfl) (AF.le_top _))
end Go.Proofs.Ytkbbeeeoogjknaa

/- The walk of the reference's Close. -/
namespace Go.Proofs.Ytkbbeeeoogjknaa
open Go.RowKit

theorem rFrom_take (R : List (Int × Int)) (p : Int × Int) {k : Nat} {q : Int × Int} (h : R[k]? = some q) : ((R.take (k + 1)).filter (fun q => decide (p.2 = q.1))).map (fun q => (p.1, q.2)) = ((R.take k).filter (fun q => decide (p.2 = q.1))).map (fun q => (p.1, q.2)) ++ (if p.2 = q.1 then [(p.1, q.2)] else []) := by
  rw [List.take_add_one, h, List.filter_append, List.map_append]
  congr 1
  by_cases e : p.2 = q.1 <;> simp [e]
theorem rStep_take (R : List (Int × Int)) {i : Nat} {p : Int × Int} (h : R[i]? = some p) : (R.take (i + 1)).flatMap (rFrom R) = (R.take i).flatMap (rFrom R) ++ rFrom R p := by
  rw [List.take_add_one, h, List.flatMap_append]; simp
theorem rStep_le (R : List (Int × Int)) (i : Nat) : ((R.take i).flatMap (rFrom R)).length ≤ (rStep R).length := by
  unfold rStep
  have : R.flatMap (rFrom R) = (R.take i).flatMap (rFrom R) ++ (R.drop i).flatMap (rFrom R) := by rw [← List.flatMap_append, List.take_append_drop]
  rw [this, List.length_append]; omega
theorem rFrom_le (R : List (Int × Int)) (p : Int × Int) (k : Nat) : (((R.take k).filter (fun q => decide (p.2 = q.1))).map (fun q => (p.1, q.2))).length ≤ (rFrom R p).length := by
  unfold rFrom
  have : (R.filter (fun q => decide (p.2 = q.1))).map (fun q => (p.1, q.2)) = ((R.take k).filter (fun q => decide (p.2 = q.1))).map (fun q => (p.1, q.2)) ++ ((R.drop k).filter (fun q => decide (p.2 = q.1))).map (fun q => (p.1, q.2)) := by
    rw [← List.map_append, ← List.filter_append, List.take_append_drop]
  rw [this, List.length_append]; omega

attribute [local irreducible] AV.exact AV.top AV.row AV.ptr AV.agg AV.tup AV.eptr AV.fn AV.nilq AV.nilqn AV.eptrO opA opB opM opR Quiet Loud Reads wpG awp den Sub SubU Pure Fun vecI vecT vecO vecA boxI CellsAll CellsOf OneC LEs LEss FU
set_option maxRecDepth 100000

set_option maxHeartbeats 4000000 in
theorem m_rclose_ok (l : List (Int × Int)) (r : List (Int × Int) × Int) (h : m_rclose m_ref16_Relation l = some r) : Pure Try.prog 14 [.row 2 c_api_Above l] (.tup [.row 2 c_api_Above r.1, .exact (.int .i64 r.2)]) := by
  unfold m_rclose at h
  obtain ⟨hl, h⟩ := need_some h
  have hbad : (∃ p ∈ l, ¬ (cVis p.1 ∧ cVis p.2)) → r = ([], 1) := fun hb => by
    rw [if_pos hb] at h; cases h; rfl
  have hrest : (∀ p ∈ l, cVis p.1 ∧ cVis p.2) → ∃ R N, m_ref16_Relation l = some R ∧ rIter m_ref16_Relation FU R = some N ∧ N.length ≤ 137438953472 ∧ ((∃ p ∈ N, p.1 = p.2) → r = ([], 14)) ∧ ((¬ ∃ p ∈ N, p.1 = p.2) → r = (N, 0)) := fun hv => by
    rw [if_neg (by rintro ⟨p, hp, hn⟩; exact hn (hv p hp))] at h
    obtain ⟨R, h1, h⟩ := bnd1_some h
    obtain ⟨N, h2, h⟩ := bnd1_some h
    obtain ⟨h3, h⟩ := need_some h
    refine ⟨R, N, h1, h2, h3, fun hk => ?_, fun hk => ?_⟩
    · rw [if_pos hk] at h; cases h; rfl
    · rw [if_neg hk] at h; cases h; rfl
  clear h
  refine Pure.ofFun (fun_of_awp Try.func14 rfl Try.ntmps14 (by simp) rfl (res2 rfl) fun E hE => k_end ?_)
  refine k_seq ?_
  refine k_reg .free hmixP (by kernel_rfl) ?_
  refine G_q rfl (op_assign (av := .exact (.slice none 0 0)) rfl ?_)
  refine G_q rfl (op_assign (av := .exact (.int .i64 0)) rfl ?_)
  refine G_nil ?_
  refine kC_normal ?_
  refine k_seq ?_
  refine k_reg .free hmixP (by kernel_rfl) ?_
  refine G_q rfl (op_assign (av := .exact (.slice none 0 0)) rfl ?_)
  refine G_nil ?_
  refine kC_normal ?_
  repeat (refine k_seq ?_)
  refine k_reg .free hmixP (by kernel_rfl) ?_
  refine G_q rfl (op_assign (av := .exact (.int .i64 0)) rfl ?_)
  refine G_nil ?_
  refine kC_normal ?_
  repeat (first | refine k_seq ?_ | refine k_block ?_)
  refine k_loop (α := Nat × Value) (fun x => AF.put (AF.put (AF.put AF0 (some 0) (.row 2 c_api_Above l)) (some 4) (.exact x.2)) (some 5) (.exact (.int .i64 (x.1 : Int)))) (fun x => [vecT Try.prog 44 2 c_api_Pair x.2 (l.take x.1)]) (fun x => x.1 ≤ l.length ∧ ∀ p ∈ l.take x.1, cVis p.1 ∧ cVis p.2) (fun x => l.length - x.1) (0, .slice none 0 0) ⟨Nat.zero_le _, fun p hp => by (rw [List.take_zero] at hp; cases hp)⟩ ?_ (fun x hx => ?_)
  · refine Sub.trans (SubU.to (SubU.nilT (P := Try.prog) (t := 44) (n := 2) (enc := c_api_Pair))) ?_
    exact Sub.of_le (AF.le_put (AV.le_eq rfl) (AF.le_put (AV.le_eq rfl) (AF.le_put (AV.le_eq rfl) (AF.le_top _))))
  obtain ⟨i, v4⟩ := x
  obtain ⟨hi, hv⟩ := hx
  dsimp only at hi hv ⊢
  repeat (refine k_seq ?_)
  refine k_reg .free hmixP (by kernel_rfl) ?_
  refine G_q rfl (op_move (av := .exact (.int .i64 (i : Int))) rfl ?_)
  refine G_q rfl (op_move (av := .row 2 c_api_Above l) rfl ?_)
  refine G_q rfl (op_len_row (by kernel_rfl) rfl ?_)
  refine G_q rfl (op_lss rfl rfl ?_)
  refine G_nil ?_
  refine kC_normal ?_
  repeat (refine k_seq ?_)
  refine k_cond_d (p := (i : Int) < (l.length : Int)) rfl (fun hc => ?_) (fun hc => ?_)
  · have hp := gi_get (xs := l) (i := (i : Int)) (by omega) (by omega)
    simp only [Int.toNat_natCast] at hp
    have hpm : gi l (i : Int) ∈ l := List.mem_of_getElem? hp
    have htk : l.take (i + 1) = l.take i ++ [gi l (i : Int)] := by rw [List.take_add_one, hp]; rfl
    refine k_skip ?_
    refine kC_normal ?_
    repeat (first | refine k_seq ?_ | refine k_block ?_)
    refine k_reg .free hmixP (by kernel_rfl) ?_
    refine G_q rfl (op_move (av := .row 2 c_api_Above l) rfl ?_)
    refine G_q rfl (op_move (av := .exact (.int .i64 (i : Int))) rfl ?_)
    refine G_q rfl (op_index_row (by kernel_rfl) rfl rfl (by omega) (by omega) ?_)
    refine G_q rfl (op_fieldAddr_ptr (o := 0) (c' := (List.drop 0 (c_api_Above (gi l (i : Int))))) (by kernel_rfl) rfl rfl ?_)
    refine G_q rfl (op_load1p (a := .exact (.int .i64 (gi l (i : Int)).1)) (by kernel_rfl) rfl rfl ?_)
    refine G_q rfl (op_pure (m_ref16_Visible_ok _ _ (rvisZ (gi l (i : Int)).1)) Try.func56 (by kernel_rfl) (LEs.cons (AV.le_eq rfl) LEs.nil) ?_)
    refine G_q rfl (op_not_d (p := cVis (gi l (i : Int)).1) rfl ?_)
    refine G_q rfl (op_move (av := .exact (.bool (decide (¬ cVis (gi l (i : Int)).1)))) rfl ?_)
    refine G_split (p := ¬ cVis (gi l (i : Int)).1) 25 rfl (fun hv1 => ?_) (fun hv1 => ?_)
    · have hrr := hbad ⟨_, hpm, fun h => hv1 h.1⟩
      subst hrr
      refine G_n rfl rfl ?_
      refine G_n rfl rfl ?_
      refine G_n rfl rfl ?_
      refine G_n rfl rfl ?_
      refine G_n rfl rfl ?_
      refine G_n rfl rfl ?_
      refine G_n rfl rfl ?_
      refine G_q rfl (op_pick_t rfl (av := .exact (.bool true)) rfl ?_)
      refine G_nil ?_
      refine kC_normal ?_
      repeat (refine k_seq ?_)
      refine k_cond_t rfl ?_
      repeat (refine k_seq ?_)
      refine k_reg .free hmixP (by kernel_rfl) ?_
      refine G_q rfl (op_assign (av := .exact (.slice none 0 0)) rfl ?_)
      refine G_q rfl (op_assign (av := .exact (.int .i64 1)) rfl ?_)
      refine G_nil ?_
      refine kC_normal ?_
      refine k_ret ?_
      repeat (first | refine kC_ret ?_ | refine kB_ret ?_ | refine kI_ret ?_)
      refine kP_any (endN (af' := AF.put (AF.put AF0 (some 2) (.row 2 c_api_Above [])) (some 3) (.exact (.int .i64 1))) (σ' := []) _ rfl ?_ ⟨rfl, rfl⟩)
      refine Sub.trans (SubU.to SubU.dropAll) ?_
      exact Sub.of_le (AF.le_put (AV.le_eq rfl) (AF.le_put (row_nil (by omega)) (AF.le_top _)))
    · have hv1' : cVis (gi l (i : Int)).1 := Classical.not_not.1 hv1
      refine Gy_q rfl rfl rfl (op_move (av := .row 2 c_api_Above l) rfl ?_)
      refine Gy_q rfl rfl rfl (op_move (av := .exact (.int .i64 (i : Int))) rfl ?_)
      refine Gy_q rfl rfl rfl (op_index_row (by kernel_rfl) rfl rfl (by omega) (by omega) ?_)
      refine Gy_q rfl rfl rfl (op_fieldAddr_ptr (o := 1) (c' := (List.drop 1 (c_api_Above (gi l (i : Int))))) (by kernel_rfl) rfl rfl ?_)
      refine Gy_q rfl rfl rfl (op_load1p (a := .exact (.int .i64 (gi l (i : Int)).2)) (by kernel_rfl) rfl rfl ?_)
      refine Gy_q rfl rfl rfl (op_pure (m_ref16_Visible_ok _ _ (rvisZ (gi l (i : Int)).2)) Try.func56 (by kernel_rfl) (LEs.cons (AV.le_eq rfl) LEs.nil) ?_)
      refine Gy_q rfl rfl rfl (op_not_d (p := cVis (gi l (i : Int)).2) rfl ?_)
      refine G_q rfl (op_pick_f rfl (av := .exact (.bool (decide (¬ cVis (gi l (i : Int)).2)))) rfl ?_)
      refine G_nil ?_
      refine kC_normal ?_
      repeat (refine k_seq ?_)
      refine k_cond_d (p := ¬ cVis (gi l (i : Int)).2) rfl (fun hv2 => ?_) (fun hv2 => ?_)
      · have hrr := hbad ⟨_, hpm, fun h => hv2 h.2⟩
        subst hrr
        repeat (refine k_seq ?_)
        refine k_reg .free hmixP (by kernel_rfl) ?_
        refine G_q rfl (op_assign (av := .exact (.slice none 0 0)) rfl ?_)
        refine G_q rfl (op_assign (av := .exact (.int .i64 1)) rfl ?_)
        refine G_nil ?_
        refine kC_normal ?_
        refine k_ret ?_
        repeat (first | refine kC_ret ?_ | refine kB_ret ?_ | refine kI_ret ?_)
        refine kP_any (endN (af' := AF.put (AF.put AF0 (some 2) (.row 2 c_api_Above [])) (some 3) (.exact (.int .i64 1))) (σ' := []) _ rfl ?_ ⟨rfl, rfl⟩)
        refine Sub.trans (SubU.to SubU.dropAll) ?_
        exact Sub.of_le (AF.le_put (AV.le_eq rfl) (AF.le_put (row_nil (by omega)) (AF.le_top _)))
      · have hv2' : cVis (gi l (i : Int)).2 := Classical.not_not.1 hv2
        refine k_skip ?_
        refine kC_normal ?_
        repeat (refine k_seq ?_)
        refine k_plan [] [(0, 0), (0, 1), (0, 2), (0, 3), (0, 4), (0, 5), (0, 6), (0, 7), (0, 8), (0, 9), (0, 10), (0, 11), (0, 12), (2, 13), (0, 14)] hmixP (by kernel_rfl) ?_
        refine P_q no34_0 rfl (op_move (av := .exact v4) rfl ?_)
        refine P_q no34_0 rfl (op_move (av := .row 2 c_api_Above l) rfl ?_)
        refine P_q no34_0 rfl (op_move (av := .exact (.int .i64 (i : Int))) rfl ?_)
        refine P_q no34_0 rfl (op_index_row (by kernel_rfl) rfl rfl (by omega) (by omega) ?_)
        refine P_q no34_0 rfl (op_fieldAddr_ptr (o := 0) (c' := (List.drop 0 (c_api_Above (gi l (i : Int))))) (by kernel_rfl) rfl rfl ?_)
        refine P_q no34_0 rfl (op_load1p (a := .exact (.int .i64 (gi l (i : Int)).1)) (by kernel_rfl) rfl rfl ?_)
        refine P_q no34_0 rfl (op_move (av := .row 2 c_api_Above l) rfl ?_)
        refine P_q no34_0 rfl (op_move (av := .exact (.int .i64 (i : Int))) rfl ?_)
        refine P_q no34_0 rfl (op_index_row (by kernel_rfl) rfl rfl (by omega) (by omega) ?_)
        refine P_q no34_0 rfl (op_fieldAddr_ptr (o := 1) (c' := (List.drop 1 (c_api_Above (gi l (i : Int))))) (by kernel_rfl) rfl rfl ?_)
        refine P_q no34_0 rfl (op_load1p (a := .exact (.int .i64 (gi l (i : Int)).2)) (by kernel_rfl) rfl rfl ?_)
        refine P_q no34_0 rfl (op_bld (c' := c_api_Pair (gi l (i : Int))) (CellsAll.cons rfl CellsOf.int (CellsAll.cons rfl CellsOf.int CellsAll.nil)) rfl (LEs.cons (AV.le_eq rfl) (LEs.cons (AV.le_eq rfl) LEs.nil)) ?_)
        refine P_q no34_0 rfl (op_litT (n := 2) (enc := c_api_Pair) [gi l (i : Int)] (CellsAll.cons rfl CellsOf.agg CellsAll.nil) rfl (by kernel_rfl) (LEss.cons (LEs.cons (AV.le_eq rfl) (LEs.cons (AV.le_eq rfl) LEs.nil)) LEss.nil) ?_)
        have hln : (l.take i).length + [gi l (i : Int)].length ≤ 137438953472 := by
          simp only [List.length_take, List.length_cons, List.length_nil]; omega
        refine P_l rfl (op_appT (by kernel_rfl) rfl rfl oc_c_api_Pair hln (fun v4' => ?_))
        refine P_q no34_0 rfl (op_assign (av := .exact v4') rfl ?_)
        refine P_nil ?_
        repeat (first | refine kB_normal ?_ | refine kC_normal ?_)
        refine k_reg .free hmixP (by kernel_rfl) ?_
        refine G_q rfl (op_move (av := .exact (.int .i64 (i : Int))) rfl ?_)
        refine G_q rfl (op_add (r := ((i + 1 : Nat) : Int)) rfl rfl (by rw [wrap_i64 _ (by omega)]; omega) ?_)
        refine G_q rfl (op_assign (av := .exact (.int .i64 ((i + 1 : Nat) : Int))) rfl ?_)
        refine G_nil ?_
        refine kI_normal ⟨(i + 1, v4'), ⟨by dsimp only; omega, fun q hq => ?_⟩, by dsimp only; omega, ?_⟩
        · dsimp only at hq
          rw [htk] at hq
          rcases List.mem_append.1 hq with hq | hq
          · exact hv q hq
          · simp only [List.mem_singleton] at hq
            subst hq; exact ⟨hv1', hv2'⟩
        · dsimp only
          rw [htk]
          exact Sub.of_le (AF.le_put (AV.le_eq rfl) (AF.le_put (AV.le_eq rfl) (AF.le_put (AV.le_eq rfl) (AF.le_top _))))
  · obtain rfl : i = l.length := by omega
    rw [List.take_length] at hv ⊢
    obtain ⟨R0, N, hR0, hN, hNl, hcyc, hnc⟩ := hrest hv
    refine k_exit ?_
    repeat (first | refine kC_exit ?_ | refine kI_exit ?_)
    refine kB_exit ?_
    refine kC_normal ?_
    refine awp_sub (SubU.to (SubU.freezeT (s := 4) rfl len_c_api_Pair)) ?_
    repeat (refine k_seq ?_)
    refine k_reg .free hmixP (by kernel_rfl) ?_
    refine G_q rfl (op_move (av := .row 2 c_api_Pair l) rfl ?_)
    refine G_l rfl (op_fun_0_1_1 (m_ref16_Relation_ok _ _ hR0) Try.func31 (by kernel_rfl) (LEs.cons (AV.le_eq rfl) LEs.nil) (fun z0 => ?_))
    refine G_q rfl (op_assign (av := .exact z0) rfl ?_)
    refine G_nil ?_
    refine kC_normal ?_
    repeat (refine k_seq ?_)
    refine k_reg .free hmixP (by kernel_rfl) ?_
    refine G_q rfl (op_assign (av := .exact (.bool true)) rfl ?_)
    refine G_nil ?_
    refine kC_normal ?_
    repeat (first | refine k_seq ?_ | refine k_block ?_)
    refine k_loop (α := Nat × List (Int × Int) × Value × Bool) (fun x => AF.put (AF.put AF0 (some 4) (.exact x.2.2.1)) (some 6) (.exact (.bool x.2.2.2))) (fun x => [vecT Try.prog 44 2 c_api_Pair x.2.2.1 x.2.1]) (fun x => (x.2.2.2 = true → rIter m_ref16_Relation x.1 x.2.1 = some N) ∧ (x.2.2.2 = false → x.2.1 = N)) (fun x => x.1) (FU, R0, z0, true) ⟨fun _ => hN, fun h => by cases h⟩ ?_ (fun x hx => ?_)
    · exact Sub.of_le (AF.le_put (AV.le_eq rfl) (AF.le_put (AV.le_eq rfl) (AF.le_top _)))
    obtain ⟨n, R, v4, bb⟩ := x
    obtain ⟨hx1, hx2⟩ := hx
    dsimp only at hx1 hx2 ⊢
    cases bb with
    | true =>
      have hx := hx1 rfl
      clear hx1 hx2
      cases n with
      | zero => cases hx
      | succ n =>
      obtain ⟨hRl, hx⟩ := need_some hx
      obtain ⟨N1, hN1, hxr⟩ := bnd1_some hx
      have hlR : R.length + (rStep R).length ≤ 137438953472 := by rw [List.length_append] at hRl; exact hRl
      repeat (refine k_seq ?_)
      refine k_reg .free hmixP (by kernel_rfl) ?_
      refine G_q rfl (op_move (av := .exact (.bool true)) rfl ?_)
      refine G_nil ?_
      refine kC_normal ?_
      repeat (refine k_seq ?_)
      refine k_cond_t rfl ?_
      refine k_skip ?_
      refine kC_normal ?_
      repeat (first | refine k_seq ?_ | refine k_block ?_)
      refine k_reg .free hmixP (by kernel_rfl) ?_
      refine G_q rfl (op_assign (av := .exact (.bool false)) rfl ?_)
      refine G_nil ?_
      refine kC_normal ?_
      repeat (refine k_seq ?_)
      refine k_reg .free hmixP (by kernel_rfl) ?_
      refine G_q rfl (op_move (av := .exact v4) rfl ?_)
      refine G_q rfl (op_assign (av := .exact v4) rfl ?_)
      refine G_nil ?_
      refine kC_normal ?_
      refine awp_sub (SubU.to SubU.toA) ?_
      repeat (refine k_seq ?_)
      refine k_reg .free hmixP (by kernel_rfl) ?_
      refine G_q rfl (op_assign (av := .exact (.int .i64 0)) rfl ?_)
      refine G_nil ?_
      refine kC_normal ?_
      repeat (first | refine k_seq ?_ | refine k_block ?_)
      refine k_loop (α := Nat × Value) (fun x => AF.put (AF.put (AF.put AF0 (some 4) (.exact v4)) (some 7) (.exact x.2)) (some 8) (.exact (.int .i64 (x.1 : Int)))) (fun x => [vecA Try.prog 44 2 c_api_Pair v4 R x.2 (R ++ (R.take x.1).flatMap (rFrom R))]) (fun x => x.1 ≤ R.length) (fun x => R.length - x.1) (0, v4) (Nat.zero_le _) ?_ (fun x hx => ?_)
      · dsimp only
        rw [List.take_zero, List.flatMap_nil, List.append_nil]
        exact Sub.of_le (AF.le_put (AV.le_eq rfl) (AF.le_put (AV.le_eq rfl) (AF.le_put (AV.le_eq rfl) (AF.le_top _))))
      obtain ⟨i, vn⟩ := x
      dsimp only at hx ⊢
      repeat (refine k_seq ?_)
      refine k_reg .free hmixP (by kernel_rfl) ?_
      refine G_q rfl (op_move (av := .exact (.int .i64 (i : Int))) rfl ?_)
      refine G_q rfl (op_move (av := .exact v4) rfl ?_)
      refine G_r rfl (op_len_borL (by kernel_rfl) (BorL.a1 List.mem_cons_self len_c_api_Pair) ?_)
      refine G_q rfl (op_lss rfl rfl ?_)
      refine G_nil ?_
      refine kC_normal ?_
      repeat (refine k_seq ?_)
      refine k_cond_d (p := (i : Int) < (R.length : Int)) rfl (fun hc => ?_) (fun hc => ?_)
      · have hp := gi_get (xs := R) (i := (i : Int)) (by omega) (by omega)
        simp only [Int.toNat_natCast] at hp
        have hst := rStep_take R hp
        have hle1 := rStep_le R (i + 1)
        rw [hst, List.length_append] at hle1
        refine k_skip ?_
        refine kC_normal ?_
        repeat (first | refine k_seq ?_ | refine k_block ?_)
        refine k_reg .free hmixP (by kernel_rfl) ?_
        refine G_q rfl (op_assign (av := .exact (.int .i64 0)) rfl ?_)
        refine G_nil ?_
        refine kC_normal ?_
        repeat (first | refine k_seq ?_ | refine k_block ?_)
        refine k_loop (α := Nat × Value) (fun x => AF.put (AF.put (AF.put (AF.put AF0 (some 4) (.exact v4)) (some 7) (.exact x.2)) (some 8) (.exact (.int .i64 (i : Int)))) (some 9) (.exact (.int .i64 (x.1 : Int)))) (fun x => [vecA Try.prog 44 2 c_api_Pair v4 R x.2 ((R ++ (R.take i).flatMap (rFrom R)) ++ ((R.take x.1).filter (fun q => decide ((gi R (i : Int)).2 = q.1))).map (fun q => ((gi R (i : Int)).1, q.2)))]) (fun x => x.1 ≤ R.length) (fun x => R.length - x.1) (0, vn) (Nat.zero_le _) ?_ (fun x hx2 => ?_)
        · dsimp only
          rw [List.take_zero, List.filter_nil, List.map_nil, List.append_nil]
          exact Sub.of_le (AF.le_put (AV.le_eq rfl) (AF.le_put (AV.le_eq rfl) (AF.le_put (AV.le_eq rfl) (AF.le_put (AV.le_eq rfl) (AF.le_top _)))))
        obtain ⟨k, vk⟩ := x
        dsimp only at hx2 ⊢
        repeat (refine k_seq ?_)
        refine k_reg .free hmixP (by kernel_rfl) ?_
        refine G_q rfl (op_move (av := .exact (.int .i64 (k : Int))) rfl ?_)
        refine G_q rfl (op_move (av := .exact v4) rfl ?_)
        refine G_r rfl (op_len_borL (by kernel_rfl) (BorL.a1 List.mem_cons_self len_c_api_Pair) ?_)
        refine G_q rfl (op_lss rfl rfl ?_)
        refine G_nil ?_
        refine kC_normal ?_
        repeat (refine k_seq ?_)
        refine k_cond_d (p := (k : Int) < (R.length : Int)) rfl (fun hc2 => ?_) (fun hc2 => ?_)
        · have hq := gi_get (xs := R) (i := (k : Int)) (by omega) (by omega)
          simp only [Int.toNat_natCast] at hq
          have hsk := rFrom_take R (gi R (i : Int)) hq
          have hle2 := rFrom_le R (gi R (i : Int)) (k + 1)
          rw [hsk, List.length_append] at hle2
          refine k_skip ?_
          refine kC_normal ?_
          repeat (first | refine k_seq ?_ | refine k_block ?_)
          refine k_plan [] [(0, 0), (0, 1), (1, 2), (0, 3), (1, 4), (0, 5), (0, 6), (1, 7), (0, 8), (1, 9), (0, 10)] hmixP (by kernel_rfl) ?_
          refine P_q no34_0 rfl (op_move (av := .exact v4) rfl ?_)
          refine P_q no34_0 rfl (op_move (av := .exact (.int .i64 (i : Int))) rfl ?_)
          refine P_r rfl (op_index_bor (by kernel_rfl) rfl (BorL.a1 List.mem_cons_self len_c_api_Pair) rfl (by omega) (by omega) ?_)
          refine P_q no34_0 rfl (op_fieldAddr_O (o := 1) (by kernel_rfl) rfl ?_)
          refine P_r rfl (op_load_bor (i := (i : Int)) (o := 1) (a := .exact (.int .i64 (gi R (i : Int)).2)) (by kernel_rfl) (BorL.a1 List.mem_cons_self len_c_api_Pair) rfl (by omega) (by omega) rfl ?_)
          refine P_q no34_0 rfl (op_move (av := .exact v4) rfl ?_)
          refine P_q no34_0 rfl (op_move (av := .exact (.int .i64 (k : Int))) rfl ?_)
          refine P_r rfl (op_index_bor (by kernel_rfl) rfl (BorL.a1 List.mem_cons_self len_c_api_Pair) rfl (by omega) (by omega) ?_)
          refine P_q no34_0 rfl (op_fieldAddr_O (o := 0) (by kernel_rfl) rfl ?_)
          refine P_r rfl (op_load_bor (i := (k : Int)) (o := 0) (a := .exact (.int .i64 (gi R (k : Int)).1)) (by kernel_rfl) (BorL.a1 List.mem_cons_self len_c_api_Pair) rfl (by omega) (by omega) rfl ?_)
          refine P_q no34_0 rfl (op_eql rfl rfl ?_)
          refine P_nil ?_
          refine kC_normal ?_
          repeat (refine k_seq ?_)
          refine k_cond_d (p := (gi R (i : Int)).2 = (gi R (k : Int)).1) rfl (fun he => ?_) (fun he => ?_)
          · rw [if_pos he] at hsk hle2
            refine k_plan [] [(0, 0), (0, 1), (0, 2), (1, 3), (0, 4), (1, 5), (0, 6), (0, 7), (1, 8), (0, 9), (1, 10), (0, 11), (0, 12), (2, 13), (0, 14)] hmixP (by kernel_rfl) ?_
            refine P_q no34_0 rfl (op_move (av := .exact vk) rfl ?_)
            refine P_q no34_0 rfl (op_move (av := .exact v4) rfl ?_)
            refine P_q no34_0 rfl (op_move (av := .exact (.int .i64 (i : Int))) rfl ?_)
            refine P_r rfl (op_index_bor (by kernel_rfl) rfl (BorL.a1 List.mem_cons_self len_c_api_Pair) rfl (by omega) (by omega) ?_)
            refine P_q no34_0 rfl (op_fieldAddr_O (o := 0) (by kernel_rfl) rfl ?_)
            refine P_r rfl (op_load_bor (i := (i : Int)) (o := 0) (a := .exact (.int .i64 (gi R (i : Int)).1)) (by kernel_rfl) (BorL.a1 List.mem_cons_self len_c_api_Pair) rfl (by omega) (by omega) rfl ?_)
            refine P_q no34_0 rfl (op_move (av := .exact v4) rfl ?_)
            refine P_q no34_0 rfl (op_move (av := .exact (.int .i64 (k : Int))) rfl ?_)
            refine P_r rfl (op_index_bor (by kernel_rfl) rfl (BorL.a1 List.mem_cons_self len_c_api_Pair) rfl (by omega) (by omega) ?_)
            refine P_q no34_0 rfl (op_fieldAddr_O (o := 1) (by kernel_rfl) rfl ?_)
            refine P_r rfl (op_load_bor (i := (k : Int)) (o := 1) (a := .exact (.int .i64 (gi R (k : Int)).2)) (by kernel_rfl) (BorL.a1 List.mem_cons_self len_c_api_Pair) rfl (by omega) (by omega) rfl ?_)
            refine P_q no34_0 rfl (op_bld (c' := c_api_Pair ((gi R (i : Int)).1, (gi R (k : Int)).2)) (CellsAll.cons rfl CellsOf.int (CellsAll.cons rfl CellsOf.int CellsAll.nil)) rfl (LEs.cons (AV.le_eq rfl) (LEs.cons (AV.le_eq rfl) LEs.nil)) ?_)
            refine P_q no34_0 rfl (op_litT (n := 2) (enc := c_api_Pair) [((gi R (i : Int)).1, (gi R (k : Int)).2)] (CellsAll.cons rfl CellsOf.agg CellsAll.nil) rfl (by kernel_rfl) (LEss.cons (LEs.cons (AV.le_eq rfl) (LEs.cons (AV.le_eq rfl) LEs.nil)) LEss.nil) ?_)
            have hlen : ((R ++ (R.take i).flatMap (rFrom R)) ++ ((R.take k).filter (fun q => decide ((gi R (i : Int)).2 = q.1))).map (fun q => ((gi R (i : Int)).1, q.2))).length + [((gi R (i : Int)).1, (gi R (k : Int)).2)].length ≤ LIM := by
              rw [List.length_append, List.length_append]
              simp only [List.length_cons, List.length_nil] at hle2 ⊢
              simp only [LIM]
              omega
            refine P_l rfl (op_appA (by kernel_rfl) rfl rfl (by simp) oc_c_api_Pair hlen (fun vk' => ?_))
            refine P_q no34_0 rfl (op_assign (av := .exact vk') rfl ?_)
            refine P_nil ?_
            repeat (first | refine kB_normal ?_ | refine kC_normal ?_)
            refine k_reg .free hmixP (by kernel_rfl) ?_
            refine G_q rfl (op_move (av := .exact (.int .i64 (k : Int))) rfl ?_)
            refine G_q rfl (op_add (r := ((k + 1 : Nat) : Int)) rfl rfl (by rw [wrap_i64 _ (by omega)]; omega) ?_)
            refine G_q rfl (op_assign (av := .exact (.int .i64 ((k + 1 : Nat) : Int))) rfl ?_)
            refine G_nil ?_
            refine kI_normal ⟨(k + 1, vk'), by dsimp only; omega, by dsimp only; omega, ?_⟩
            dsimp only
            rw [hsk, ← List.append_assoc]
            exact Sub.of_le (AF.le_put (AV.le_eq rfl) (AF.le_put (AV.le_eq rfl) (AF.le_put (AV.le_eq rfl) (AF.le_put (AV.le_eq rfl) (AF.le_top _)))))
          · rw [if_neg he, List.append_nil] at hsk
            refine k_skip ?_
            repeat (first | refine kB_normal ?_ | refine kC_normal ?_)
            refine k_reg .free hmixP (by kernel_rfl) ?_
            refine G_q rfl (op_move (av := .exact (.int .i64 (k : Int))) rfl ?_)
            refine G_q rfl (op_add (r := ((k + 1 : Nat) : Int)) rfl rfl (by rw [wrap_i64 _ (by omega)]; omega) ?_)
            refine G_q rfl (op_assign (av := .exact (.int .i64 ((k + 1 : Nat) : Int))) rfl ?_)
            refine G_nil ?_
            refine kI_normal ⟨(k + 1, vk), by dsimp only; omega, by dsimp only; omega, ?_⟩
            dsimp only
            rw [hsk]
            exact Sub.of_le (AF.le_put (AV.le_eq rfl) (AF.le_put (AV.le_eq rfl) (AF.le_put (AV.le_eq rfl) (AF.le_put (AV.le_eq rfl) (AF.le_top _)))))
        · obtain rfl : k = R.length := by omega
          refine k_exit ?_
          repeat (first | refine kC_exit ?_ | refine kI_exit ?_)
          refine kB_exit ?_
          repeat (first | refine kB_normal ?_ | refine kC_normal ?_)
          refine k_reg .free hmixP (by kernel_rfl) ?_
          refine G_q rfl (op_move (av := .exact (.int .i64 (i : Int))) rfl ?_)
          refine G_q rfl (op_add (r := ((i + 1 : Nat) : Int)) rfl rfl (by rw [wrap_i64 _ (by omega)]; omega) ?_)
          refine G_q rfl (op_assign (av := .exact (.int .i64 ((i + 1 : Nat) : Int))) rfl ?_)
          refine G_nil ?_
          refine kI_normal ⟨(i + 1, vk), by dsimp only; omega, by dsimp only; omega, ?_⟩
          dsimp only
          rw [hst, List.take_length, ← List.append_assoc]
          exact Sub.of_le (AF.le_put (AV.le_eq rfl) (AF.le_put (AV.le_eq rfl) (AF.le_put (AV.le_eq rfl) (AF.le_top _))))
      · obtain rfl : i = R.length := by omega
        rw [List.take_length]
        refine k_exit ?_
        repeat (first | refine kC_exit ?_ | refine kI_exit ?_)
        refine kB_exit ?_
        refine kC_normal ?_
        refine awp_sub (SubU.to (SubU.freezeA (s1 := 4) (s2 := 7) rfl rfl rfl len_c_api_Pair)) ?_
        repeat (refine k_seq ?_)
        refine k_reg .free hmixP (by kernel_rfl) ?_
        refine G_q rfl (op_move (av := .row 2 c_api_Pair (R ++ R.flatMap (rFrom R))) rfl ?_)
        refine G_l rfl (op_fun_0_1_1 (m_ref16_Relation_ok _ _ hN1) Try.func31 (by kernel_rfl) (LEs.cons (AV.le_eq rfl) LEs.nil) (fun z1 => ?_))
        refine G_q rfl (op_assign (av := .exact z1) rfl ?_)
        refine G_nil ?_
        refine kC_normal ?_
        repeat (refine k_seq ?_)
        refine k_reg .free hmixP (by kernel_rfl) ?_
        refine G_q rfl (op_move (av := .exact z1) rfl ?_)
        refine G_r rfl (op_len_vec (by kernel_rfl) rfl ?_)
        refine G_q rfl (op_move (av := .row 2 c_api_Pair R) rfl ?_)
        refine G_q rfl (op_len_row (by kernel_rfl) rfl ?_)
        refine G_q rfl (op_gtr rfl rfl ?_)
        refine G_q rfl (op_assign (av := .exact (.bool (decide ((R.length : Int) < (N1.length : Int))))) rfl ?_)
        refine G_nil ?_
        refine kC_normal ?_
        refine k_reg .free hmixP (by kernel_rfl) ?_
        refine G_q rfl (op_move (av := .exact z1) rfl ?_)
        refine G_q rfl (op_assign (av := .exact z1) rfl ?_)
        refine G_nil ?_
        repeat (first | refine kB_normal ?_ | refine kC_normal ?_)
        refine kI_normal ⟨(n, N1, z1, decide ((R.length : Int) < (N1.length : Int))), ⟨fun hb => ?_, fun hb => ?_⟩, Nat.lt_succ_self n, ?_⟩
        · have hb := of_decide_eq_true hb
          rw [if_pos (by omega)] at hxr; exact hxr
        · have hb := of_decide_eq_false hb
          rw [if_neg (by omega)] at hxr; exact Option.some.inj hxr
        · exact Sub.of_le (AF.le_put (AV.le_eq rfl) (AF.le_put (AV.le_eq rfl) (AF.le_top _)))
    | false =>
      obtain rfl : R = N := hx2 rfl
      clear hx1 hx2
      repeat (refine k_seq ?_)
      refine k_reg .free hmixP (by kernel_rfl) ?_
      refine G_q rfl (op_move (av := .exact (.bool false)) rfl ?_)
      refine G_nil ?_
      refine kC_normal ?_
      repeat (refine k_seq ?_)
      refine k_cond_f rfl ?_
      refine k_exit ?_
      repeat (first | refine kC_exit ?_ | refine kI_exit ?_)
      refine kB_exit ?_
      refine kC_normal ?_
      refine awp_sub (SubU.to (SubU.freezeT (s := 4) rfl len_c_api_Pair)) ?_
      repeat (refine k_seq ?_)
      refine k_reg .free hmixP (by kernel_rfl) ?_
      refine G_q rfl (op_assign (av := .exact (.slice none 0 0)) rfl ?_)
      refine G_nil ?_
      refine kC_normal ?_
      repeat (refine k_seq ?_)
      refine k_reg .free hmixP (by kernel_rfl) ?_
      refine G_q rfl (op_assign (av := .exact (.int .i64 0)) rfl ?_)
      refine G_nil ?_
      refine kC_normal ?_
      repeat (first | refine k_seq ?_ | refine k_block ?_)
      refine k_loop (α := Nat × Value) (fun x => AF.put (AF.put (AF.put AF0 (some 4) (.row 2 c_api_Pair R)) (some 10) (.exact x.2)) (some 11) (.exact (.int .i64 (x.1 : Int)))) (fun x => [vecT Try.prog 22 2 c_api_Above x.2 (R.take x.1)]) (fun x => x.1 ≤ R.length ∧ ∀ p ∈ R.take x.1, p.1 ≠ p.2) (fun x => R.length - x.1) (0, .slice none 0 0) ⟨Nat.zero_le _, fun p hp => by (rw [List.take_zero] at hp; cases hp)⟩ ?_ (fun x hx => ?_)
      · refine Sub.trans (SubU.to (SubU.nilT (P := Try.prog) (t := 22) (n := 2) (enc := c_api_Above))) ?_
        exact Sub.of_le (AF.le_put (AV.le_eq rfl) (AF.le_put (AV.le_eq rfl) (AF.le_put (AV.le_eq rfl) (AF.le_top _))))
      obtain ⟨i, v10⟩ := x
      obtain ⟨hi, hne⟩ := hx
      dsimp only at hi hne ⊢
      repeat (refine k_seq ?_)
      refine k_reg .free hmixP (by kernel_rfl) ?_
      refine G_q rfl (op_move (av := .exact (.int .i64 (i : Int))) rfl ?_)
      refine G_q rfl (op_move (av := .row 2 c_api_Pair R) rfl ?_)
      refine G_q rfl (op_len_row (by kernel_rfl) rfl ?_)
      refine G_q rfl (op_lss rfl rfl ?_)
      refine G_nil ?_
      refine kC_normal ?_
      repeat (refine k_seq ?_)
      refine k_cond_d (p := (i : Int) < (R.length : Int)) rfl (fun hc => ?_) (fun hc => ?_)
      · have hp := gi_get (xs := R) (i := (i : Int)) (by omega) (by omega)
        simp only [Int.toNat_natCast] at hp
        have hpm : gi R (i : Int) ∈ R := List.mem_of_getElem? hp
        have htk : R.take (i + 1) = R.take i ++ [gi R (i : Int)] := by rw [List.take_add_one, hp]; rfl
        refine k_skip ?_
        refine kC_normal ?_
        repeat (first | refine k_seq ?_ | refine k_block ?_)
        refine k_plan [] [(0, 0), (0, 1), (0, 2), (0, 3), (0, 4), (0, 5), (0, 6), (0, 7), (0, 8), (0, 9), (0, 10)] hmixP (by kernel_rfl) ?_
        refine P_q no34_0 rfl (op_move (av := .row 2 c_api_Pair R) rfl ?_)
        refine P_q no34_0 rfl (op_move (av := .exact (.int .i64 (i : Int))) rfl ?_)
        refine P_q no34_0 rfl (op_index_row (by kernel_rfl) rfl rfl (by omega) (by omega) ?_)
        refine P_q no34_0 rfl (op_fieldAddr_ptr (o := 0) (c' := (List.drop 0 (c_api_Pair (gi R (i : Int))))) (by kernel_rfl) rfl rfl ?_)
        refine P_q no34_0 rfl (op_load1p (a := .exact (.int .i64 (gi R (i : Int)).1)) (by kernel_rfl) rfl rfl ?_)
        refine P_q no34_0 rfl (op_move (av := .row 2 c_api_Pair R) rfl ?_)
        refine P_q no34_0 rfl (op_move (av := .exact (.int .i64 (i : Int))) rfl ?_)
        refine P_q no34_0 rfl (op_index_row (by kernel_rfl) rfl rfl (by omega) (by omega) ?_)
        refine P_q no34_0 rfl (op_fieldAddr_ptr (o := 1) (c' := (List.drop 1 (c_api_Pair (gi R (i : Int))))) (by kernel_rfl) rfl rfl ?_)
        refine P_q no34_0 rfl (op_load1p (a := .exact (.int .i64 (gi R (i : Int)).2)) (by kernel_rfl) rfl rfl ?_)
        refine P_q no34_0 rfl (op_eql rfl rfl ?_)
        refine P_nil ?_
        refine kC_normal ?_
        repeat (refine k_seq ?_)
        refine k_cond_d (p := (gi R (i : Int)).1 = (gi R (i : Int)).2) rfl (fun he => ?_) (fun he => ?_)
        · have hrr := hcyc ⟨_, hpm, he⟩
          subst hrr
          repeat (refine k_seq ?_)
          refine k_reg .free hmixP (by kernel_rfl) ?_
          refine G_q rfl (op_assign (av := .exact (.slice none 0 0)) rfl ?_)
          refine G_q rfl (op_assign (av := .exact (.int .i64 14)) rfl ?_)
          refine G_nil ?_
          refine kC_normal ?_
          refine k_ret ?_
          repeat (first | refine kC_ret ?_ | refine kB_ret ?_ | refine kI_ret ?_)
          refine kP_any (endN (af' := AF.put (AF.put AF0 (some 2) (.row 2 c_api_Above [])) (some 3) (.exact (.int .i64 14))) (σ' := []) _ rfl ?_ ⟨rfl, rfl⟩)
          refine Sub.trans (SubU.to SubU.dropAll) ?_
          exact Sub.of_le (AF.le_put (AV.le_eq rfl) (AF.le_put (row_nil (by omega)) (AF.le_top _)))
        · refine k_skip ?_
          refine kC_normal ?_
          repeat (refine k_seq ?_)
          refine k_plan [] [(0, 0), (0, 1), (0, 2), (0, 3), (0, 4), (0, 5), (0, 6), (0, 7), (0, 8), (0, 9), (0, 10), (0, 11), (0, 12), (2, 13), (0, 14)] hmixP (by kernel_rfl) ?_
          refine P_q no34_0 rfl (op_move (av := .exact v10) rfl ?_)
          refine P_q no34_0 rfl (op_move (av := .row 2 c_api_Pair R) rfl ?_)
          refine P_q no34_0 rfl (op_move (av := .exact (.int .i64 (i : Int))) rfl ?_)
          refine P_q no34_0 rfl (op_index_row (by kernel_rfl) rfl rfl (by omega) (by omega) ?_)
          refine P_q no34_0 rfl (op_fieldAddr_ptr (o := 0) (c' := (List.drop 0 (c_api_Pair (gi R (i : Int))))) (by kernel_rfl) rfl rfl ?_)
          refine P_q no34_0 rfl (op_load1p (a := .exact (.int .i64 (gi R (i : Int)).1)) (by kernel_rfl) rfl rfl ?_)
          refine P_q no34_0 rfl (op_move (av := .row 2 c_api_Pair R) rfl ?_)
          refine P_q no34_0 rfl (op_move (av := .exact (.int .i64 (i : Int))) rfl ?_)
          refine P_q no34_0 rfl (op_index_row (by kernel_rfl) rfl rfl (by omega) (by omega) ?_)
          refine P_q no34_0 rfl (op_fieldAddr_ptr (o := 1) (c' := (List.drop 1 (c_api_Pair (gi R (i : Int))))) (by kernel_rfl) rfl rfl ?_)
          refine P_q no34_0 rfl (op_load1p (a := .exact (.int .i64 (gi R (i : Int)).2)) (by kernel_rfl) rfl rfl ?_)
          refine P_q no34_0 rfl (op_bld (c' := c_api_Above (gi R (i : Int))) (CellsAll.cons rfl CellsOf.int (CellsAll.cons rfl CellsOf.int CellsAll.nil)) rfl (LEs.cons (AV.le_eq rfl) (LEs.cons (AV.le_eq rfl) LEs.nil)) ?_)
          refine P_q no34_0 rfl (op_litT (n := 2) (enc := c_api_Above) [gi R (i : Int)] (CellsAll.cons rfl CellsOf.agg CellsAll.nil) rfl (by kernel_rfl) (LEss.cons (LEs.cons (AV.le_eq rfl) (LEs.cons (AV.le_eq rfl) LEs.nil)) LEss.nil) ?_)
          have hln : (R.take i).length + [gi R (i : Int)].length ≤ 137438953472 := by
            simp only [List.length_take, List.length_cons, List.length_nil]; omega
          refine P_l rfl (op_appT (by kernel_rfl) rfl rfl oc_c_api_Above hln (fun v10' => ?_))
          refine P_q no34_0 rfl (op_assign (av := .exact v10') rfl ?_)
          refine P_nil ?_
          repeat (first | refine kB_normal ?_ | refine kC_normal ?_)
          refine k_reg .free hmixP (by kernel_rfl) ?_
          refine G_q rfl (op_move (av := .exact (.int .i64 (i : Int))) rfl ?_)
          refine G_q rfl (op_add (r := ((i + 1 : Nat) : Int)) rfl rfl (by rw [wrap_i64 _ (by omega)]; omega) ?_)
          refine G_q rfl (op_assign (av := .exact (.int .i64 ((i + 1 : Nat) : Int))) rfl ?_)
          refine G_nil ?_
          refine kI_normal ⟨(i + 1, v10'), ⟨by dsimp only; omega, fun q hq => ?_⟩, by dsimp only; omega, ?_⟩
          · dsimp only at hq
            rw [htk] at hq
            rcases List.mem_append.1 hq with hq | hq
            · exact hne q hq
            · simp only [List.mem_singleton] at hq
              subst hq; exact he
          · dsimp only
            rw [htk]
            exact Sub.of_le (AF.le_put (AV.le_eq rfl) (AF.le_put (AV.le_eq rfl) (AF.le_put (AV.le_eq rfl) (AF.le_top _))))
      · obtain rfl : i = R.length := by omega
        rw [List.take_length] at hne ⊢
        have hrr := hnc (by rintro ⟨p, hp, e⟩; exact hne p hp e)
        subst hrr
        refine k_exit ?_
        repeat (first | refine kC_exit ?_ | refine kI_exit ?_)
        refine kB_exit ?_
        refine kC_normal ?_
        repeat (refine k_seq ?_)
        refine k_reg .free hmixP (by kernel_rfl) ?_
        refine G_q rfl (op_move (av := .exact v10) rfl ?_)
        refine G_q rfl (op_assign (av := .exact v10) rfl ?_)
        refine G_q rfl (op_assign (av := .exact (.int .i64 0)) rfl ?_)
        refine G_nil ?_
        refine kC_normal ?_
        refine k_ret ?_
        refine kP_any (endN (af' := AF.put (AF.put AF0 (some 2) (.row 2 c_api_Above R)) (some 3) (.exact (.int .i64 0))) (σ' := []) _ rfl ?_ ⟨rfl, rfl⟩)
        refine Sub.trans (SubU.to (SubU.freezeT (s := 2) rfl len_c_api_Above)) ?_
        exact Sub.of_le (AF.le_put (AV.le_eq rfl) (AF.le_put (AV.le_eq rfl) (AF.le_top _)))
end Go.Proofs.Ytkbbeeeoogjknaa
/- The functions compute their models, by program. -/
namespace Go.Proofs.Ytkbbeeeoogjknaa
open Go.RowKit
attribute [local irreducible] AV.exact AV.top AV.row AV.ptr AV.agg AV.tup AV.eptr AV.fn AV.nilq AV.nilqn opA opB opM opR Quiet Loud Reads wpG awp den Sub SubU Pure Fun vecI vecT boxI CellsAll CellsOf OneC LEs LEss
set_option maxRecDepth 100000

set_option maxHeartbeats 4000000 in
theorem m_help_Equal_api_Above_ok (a0 : List (Int × Int)) (a1 : List (Int × Int)) (r : Bool) (h : m_help_Equal_api_Above a0 a1 = some r) : Pure Try.prog 15 [(.row 2 c_api_Above a0), (.row 2 c_api_Above a1)] (.exact (.bool r)) := by
  unfold m_help_Equal_api_Above at h
  refine Pure.ofFun (fun_of_awp Try.func15 rfl Try.ntmps15 (by simp) rfl (res1 rfl) fun E hE => k_end ?_)
  refine k_seq ?_
  refine k_reg .free hmixP (by kernel_rfl) ?_
  refine G_q rfl (op_assign (av := .exact (.bool false)) rfl ?_)
  refine G_nil ?_
  refine kC_normal ?_
  refine k_seq ?_
  refine k_seq ?_
  refine k_reg .free hmixP (by kernel_rfl) ?_
  refine G_q rfl (op_move (av := .row 2 c_api_Above a0) rfl ?_)
  refine G_q rfl (op_len_row (by kernel_rfl) rfl ?_)
  refine G_q rfl (op_move (av := .row 2 c_api_Above a1) rfl ?_)
  refine G_q rfl (op_len_row (by kernel_rfl) rfl ?_)
  refine G_q rfl (op_neq rfl rfl ?_)
  refine G_nil ?_
  refine kC_normal ?_
  refine k_cond_d (p := ¬ (List.length a0 : Int) = (List.length a1 : Int)) rfl (fun hc => ?_) (fun hc => ?_)
  · replace h := ite_t h hc
    refine k_seq ?_
    refine k_reg .free hmixP (by kernel_rfl) ?_
    refine G_q rfl (op_assign (av := .exact (.bool false)) rfl ?_)
    refine G_nil ?_
    refine kC_normal ?_
    refine k_ret ?_
    refine kC_ret ?_
    obtain rfl := Option.some.inj h
    refine kP_any (endN (af' := (AF.put AF0 (some 4) (.exact (.bool false)))) (σ' := []) _ rfl ?_ ⟨rfl, rfl⟩)
    exact Sub.of_le (AF.le_put (AV.le_eq rfl) (AF.le_top _))
  · replace h := ite_f h hc
    refine k_skip ?_
    refine kC_normal ?_
    refine k_join0_0 h (AF0) ([]) (fun k1 h => ?_) (fun  h => ?_)
    · refine k_seq ?_
      refine k_reg .free hmixP (by kernel_rfl) ?_
      refine G_q rfl (op_assign (av := .exact (.int .i64 0)) rfl ?_)
      refine G_nil ?_
      refine kC_normal ?_
      refine k_block ?_
      refine k_loop1_0 (m_help_Equal_api_Above_L2 a0 a1 k1) (m_help_Equal_api_Above_B2 a0 a1 k1) (fun _ => rfl) (fun m _ => rfl) h (fun (x5_l2 : Int) => (AF.put (AF.put (AF.put AF0 (some 0) (.row 2 c_api_Above a0)) (some 1) (.row 2 c_api_Above a1)) (some 5) (.exact (.int .i64 x5_l2)))) (fun (x5_l2 : Int) => []) ?_ (fun rec2 x5_l2 h => ?_)
      · exact Sub.of_le (AF.le_put (AV.le_eq rfl) (AF.le_put (AV.le_eq rfl) (AF.le_put (AV.le_eq rfl) (AF.le_top _))))
      · unfold m_help_Equal_api_Above_B2 at h
        refine k_seq ?_
        refine k_seq ?_
        refine k_reg .free hmixP (by kernel_rfl) ?_
        refine G_q rfl (op_move (av := .exact (.int .i64 x5_l2)) rfl ?_)
        refine G_q rfl (op_move (av := .row 2 c_api_Above a0) rfl ?_)
        refine G_q rfl (op_len_row (by kernel_rfl) rfl ?_)
        refine G_q rfl (op_lss rfl rfl ?_)
        refine G_nil ?_
        refine kC_normal ?_
        refine k_cond_d (p := x5_l2 < (List.length a0 : Int)) rfl (fun hc => ?_) (fun hc => ?_)
        · replace h := ite_t h hc
          refine k_skip ?_
          refine kC_normal ?_
          refine k_seq ?_
          refine k_block ?_
          refine k_seq ?_
          refine k_plan [] [(0, 0), (0, 1), (0, 2), (0, 3), (0, 4), (0, 5), (0, 6), (0, 7), (0, 8)] hmixP (by kernel_rfl) ?_
          refine P_q no34_0 rfl (op_move (av := .row 2 c_api_Above a0) rfl ?_)
          refine P_q no34_0 rfl (op_move (av := .exact (.int .i64 x5_l2)) rfl ?_)
          obtain ⟨n13, h⟩ := need_some h
          refine P_q no34_0 rfl (op_index_row (by kernel_rfl) rfl rfl n13.1 n13.2 ?_)
          refine P_q no34_0 rfl (op_loadNp (m := 2) (c' := c_api_Above (gi a0 x5_l2)) (by kernel_rfl) rfl rfl rfl ?_)
          refine P_q no34_0 rfl (op_move (av := .row 2 c_api_Above a1) rfl ?_)
          refine P_q no34_0 rfl (op_move (av := .exact (.int .i64 x5_l2)) rfl ?_)
          obtain ⟨n14, h⟩ := need_some h
          refine P_q no34_0 rfl (op_index_row (by kernel_rfl) rfl rfl n14.1 n14.2 ?_)
          refine P_q no34_0 rfl (op_loadNp (m := 2) (c' := c_api_Above (gi a1 x5_l2)) (by kernel_rfl) rfl rfl rfl ?_)
          refine P_q no34_0 rfl (op_neqA (a := (gi a0 x5_l2)) (b := (gi a1 x5_l2)) (by kernel_rfl) (eq_c_api_Above _ _) rfl rfl ?_)
          refine P_nil ?_
          refine kC_normal ?_
          refine k_cond_d (p := ¬ (gi a0 x5_l2) = (gi a1 x5_l2)) rfl (fun hc => ?_) (fun hc => ?_)
          · replace h := ite_t h hc
            refine k_seq ?_
            refine k_reg .free hmixP (by kernel_rfl) ?_
            refine G_q rfl (op_assign (av := .exact (.bool false)) rfl ?_)
            refine G_nil ?_
            refine kC_normal ?_
            refine k_ret ?_
            refine kB_ret ?_
            refine kC_ret ?_
            refine kI_ret ?_
            refine kB_ret ?_
            refine kI_ret ?_
            obtain rfl := Option.some.inj h
            refine kP_any (endN (af' := (AF.put AF0 (some 4) (.exact (.bool false)))) (σ' := []) _ rfl ?_ ⟨rfl, rfl⟩)
            exact Sub.of_le (AF.le_put (AV.le_eq rfl) (AF.le_top _))
          · replace h := ite_f h hc
            refine k_skip ?_
            refine kB_normal ?_
            refine kC_normal ?_
            refine k_reg .free hmixP (by kernel_rfl) ?_
            refine G_q rfl (op_move (av := .exact (.int .i64 x5_l2)) rfl ?_)
            refine G_q rfl (op_add rfl rfl rfl ?_)
            refine G_q rfl (op_assign (av := .exact (.int .i64 (i64 (x5_l2 + 1)))) rfl ?_)
            refine G_nil ?_
            refine kI_normal ⟨_, h, ?_⟩
            exact Sub.of_le (AF.le_put (AV.le_eq rfl) (AF.le_put (AV.le_eq rfl) (AF.le_put (AV.le_eq rfl) (AF.le_top _))))
        · replace h := ite_f h hc
          refine k_exit ?_
          refine kC_exit ?_
          refine kI_exit ?_
          refine kB_exit ?_
          refine kI_normal ⟨h, ?_⟩
          exact Sub.of_le (AF.le_top _)
    · refine k_seq ?_
      refine k_reg .free hmixP (by kernel_rfl) ?_
      refine G_q rfl (op_assign (av := .exact (.bool true)) rfl ?_)
      refine G_nil ?_
      refine kC_normal ?_
      refine k_ret ?_
      obtain rfl := Option.some.inj h
      refine kP_any (endN (af' := (AF.put AF0 (some 4) (.exact (.bool true)))) (σ' := []) _ rfl ?_ ⟨rfl, rfl⟩)
      exact Sub.of_le (AF.le_put (AV.le_eq rfl) (AF.le_top _))
set_option maxHeartbeats 4000000 in
theorem m_slices_Equal_L_api_Above_api_Above_ok (a0 : List (Int × Int)) (a1 : List (Int × Int)) (r : Bool) (h : m_slices_Equal_L_api_Above_api_Above a0 a1 = some r) : Pure Try.prog 57 [(.row 2 c_api_Above a0), (.row 2 c_api_Above a1)] (.exact (.bool r)) := by
  unfold m_slices_Equal_L_api_Above_api_Above at h
  refine Pure.ofFun (fun_of_awp Try.func57 rfl Try.ntmps57 (by simp) rfl (res1 rfl) fun E hE => k_end ?_)
  refine k_seq ?_
  refine k_reg .free hmixP (by kernel_rfl) ?_
  refine G_q rfl (op_assign (av := .exact (.bool false)) rfl ?_)
  refine G_nil ?_
  refine kC_normal ?_
  refine k_seq ?_
  refine k_seq ?_
  refine k_reg .free hmixP (by kernel_rfl) ?_
  refine G_q rfl (op_move (av := .row 2 c_api_Above a0) rfl ?_)
  refine G_q rfl (op_len_row (by kernel_rfl) rfl ?_)
  refine G_q rfl (op_move (av := .row 2 c_api_Above a1) rfl ?_)
  refine G_q rfl (op_len_row (by kernel_rfl) rfl ?_)
  refine G_q rfl (op_neq rfl rfl ?_)
  refine G_nil ?_
  refine kC_normal ?_
  refine k_cond_d (p := ¬ (List.length a0 : Int) = (List.length a1 : Int)) rfl (fun hc => ?_) (fun hc => ?_)
  · replace h := ite_t h hc
    refine k_seq ?_
    refine k_reg .free hmixP (by kernel_rfl) ?_
    refine G_q rfl (op_assign (av := .exact (.bool false)) rfl ?_)
    refine G_nil ?_
    refine kC_normal ?_
    refine k_ret ?_
    refine kC_ret ?_
    obtain rfl := Option.some.inj h
    refine kP_any (endN (af' := (AF.put AF0 (some 4) (.exact (.bool false)))) (σ' := []) _ rfl ?_ ⟨rfl, rfl⟩)
    exact Sub.of_le (AF.le_put (AV.le_eq rfl) (AF.le_top _))
  · replace h := ite_f h hc
    refine k_skip ?_
    refine kC_normal ?_
    refine k_join0_0 h (AF0) ([]) (fun k1 h => ?_) (fun  h => ?_)
    · refine k_seq ?_
      refine k_reg .free hmixP (by kernel_rfl) ?_
      refine G_q rfl (op_move (av := .row 2 c_api_Above a0) rfl ?_)
      refine G_q rfl (op_len_row (by kernel_rfl) rfl ?_)
      refine G_q rfl (op_move (av := .exact (.int .i64 0)) rfl ?_)
      refine G_nil ?_
      refine kC_normal ?_
      refine k_block ?_
      refine k_loop1_0 (m_slices_Equal_L_api_Above_api_Above_L2 a0 a1 k1) (m_slices_Equal_L_api_Above_api_Above_B2 a0 a1 k1) (fun _ => rfl) (fun m _ => rfl) h (fun (x13_l2 : Int) => (AF.put (AF.put (AF.put (AF.put AF0 (some 0) (.row 2 c_api_Above a0)) (some 1) (.row 2 c_api_Above a1)) (some 12) (.exact (.int .i64 (List.length a0 : Int)))) (some 13) (.exact (.int .i64 x13_l2)))) (fun (x13_l2 : Int) => []) ?_ (fun rec2 x13_l2 h => ?_)
      · exact Sub.of_le (AF.le_put (AV.le_eq rfl) (AF.le_put (AV.le_eq rfl) (AF.le_put (AV.le_eq rfl) (AF.le_put (AV.le_eq rfl) (AF.le_top _)))))
      · unfold m_slices_Equal_L_api_Above_api_Above_B2 at h
        refine k_seq ?_
        refine k_reg .free hmixP (by kernel_rfl) ?_
        refine G_q rfl (op_lss rfl rfl ?_)
        refine G_nil ?_
        refine kC_normal ?_
        refine k_seq ?_
        refine k_cond_d (p := x13_l2 < (List.length a0 : Int)) rfl (fun hc => ?_) (fun hc => ?_)
        · replace h := ite_t h hc
          refine k_skip ?_
          refine kC_normal ?_
          refine k_seq ?_
          refine k_block ?_
          refine k_seq ?_
          refine k_reg .free hmixP (by kernel_rfl) ?_
          refine G_q rfl (op_move (av := .exact (.int .i64 x13_l2)) rfl ?_)
          refine G_q rfl (op_assign (av := .exact (.int .i64 x13_l2)) rfl ?_)
          refine G_nil ?_
          refine kC_normal ?_
          refine k_seq ?_
          refine k_plan [] [(0, 0), (0, 1), (0, 2), (0, 3), (0, 4), (0, 5), (0, 6), (0, 7), (0, 8)] hmixP (by kernel_rfl) ?_
          refine P_q no34_0 rfl (op_move (av := .row 2 c_api_Above a0) rfl ?_)
          refine P_q no34_0 rfl (op_move (av := .exact (.int .i64 x13_l2)) rfl ?_)
          obtain ⟨n13, h⟩ := need_some h
          refine P_q no34_0 rfl (op_index_row (by kernel_rfl) rfl rfl n13.1 n13.2 ?_)
          refine P_q no34_0 rfl (op_loadNp (m := 2) (c' := c_api_Above (gi a0 x13_l2)) (by kernel_rfl) rfl rfl rfl ?_)
          refine P_q no34_0 rfl (op_move (av := .row 2 c_api_Above a1) rfl ?_)
          refine P_q no34_0 rfl (op_move (av := .exact (.int .i64 x13_l2)) rfl ?_)
          obtain ⟨n14, h⟩ := need_some h
          refine P_q no34_0 rfl (op_index_row (by kernel_rfl) rfl rfl n14.1 n14.2 ?_)
          refine P_q no34_0 rfl (op_loadNp (m := 2) (c' := c_api_Above (gi a1 x13_l2)) (by kernel_rfl) rfl rfl rfl ?_)
          refine P_q no34_0 rfl (op_neqA (a := (gi a0 x13_l2)) (b := (gi a1 x13_l2)) (by kernel_rfl) (eq_c_api_Above _ _) rfl rfl ?_)
          refine P_nil ?_
          refine kC_normal ?_
          refine k_cond_d (p := ¬ (gi a0 x13_l2) = (gi a1 x13_l2)) rfl (fun hc => ?_) (fun hc => ?_)
          · replace h := ite_t h hc
            refine k_seq ?_
            refine k_reg .free hmixP (by kernel_rfl) ?_
            refine G_q rfl (op_assign (av := .exact (.bool false)) rfl ?_)
            refine G_nil ?_
            refine kC_normal ?_
            refine k_ret ?_
            refine kB_ret ?_
            refine kC_ret ?_
            refine kI_ret ?_
            refine kB_ret ?_
            refine kI_ret ?_
            obtain rfl := Option.some.inj h
            refine kP_any (endN (af' := (AF.put AF0 (some 4) (.exact (.bool false)))) (σ' := []) _ rfl ?_ ⟨rfl, rfl⟩)
            exact Sub.of_le (AF.le_put (AV.le_eq rfl) (AF.le_top _))
          · replace h := ite_f h hc
            refine k_skip ?_
            refine kB_normal ?_
            refine kC_normal ?_
            refine k_reg .free hmixP (by kernel_rfl) ?_
            refine G_q rfl (op_add rfl rfl rfl ?_)
            refine G_q rfl (op_move (av := .exact (.int .i64 (i64 (x13_l2 + 1)))) rfl ?_)
            refine G_nil ?_
            refine kI_normal ⟨_, h, ?_⟩
            exact Sub.of_le (AF.le_put (AV.le_eq rfl) (AF.le_put (AV.le_eq rfl) (AF.le_put (AV.le_eq rfl) (AF.le_put (AV.le_eq rfl) (AF.le_top _)))))
        · replace h := ite_f h hc
          refine k_exit ?_
          refine kC_exit ?_
          refine kI_exit ?_
          refine kB_exit ?_
          refine kI_normal ⟨h, ?_⟩
          exact Sub.of_le (AF.le_top _)
    · refine k_seq ?_
      refine k_reg .free hmixP (by kernel_rfl) ?_
      refine G_q rfl (op_assign (av := .exact (.bool true)) rfl ?_)
      refine G_nil ?_
      refine kC_normal ?_
      refine k_ret ?_
      obtain rfl := Option.some.inj h
      refine kP_any (endN (af' := (AF.put AF0 (some 4) (.exact (.bool true)))) (σ' := []) _ rfl ?_ ⟨rfl, rfl⟩)
      exact Sub.of_le (AF.le_put (AV.le_eq rfl) (AF.le_top _))
set_option maxHeartbeats 4000000 in
theorem m_alphabet_ValidOrder_ok (a0 : List (Int × Int)) (r : Bool) (h : m_alphabet_ValidOrder a0 = some r) : Pure Try.prog 16 [(.row 2 c_api_Above a0)] (.exact (.bool r)) := by
  unfold m_alphabet_ValidOrder at h
  refine Pure.ofFun (fun_of_awp Try.func16 rfl Try.ntmps16 (by simp) rfl (res1 rfl) fun E hE => k_end ?_)
  refine k_seq ?_
  refine k_reg .free hmixP (by kernel_rfl) ?_
  refine G_q rfl (op_assign (av := .exact (.bool false)) rfl ?_)
  refine G_nil ?_
  refine kC_normal ?_
  refine k_seq ?_
  refine k_reg .free hmixP (by kernel_rfl) ?_
  refine G_q rfl (op_move (av := .row 2 c_api_Above a0) rfl ?_)
  obtain ⟨y1, hy1, h⟩ := bnd1_some h
  refine G_q rfl (op_pure (m_close_ok _ _ hy1) Try.func13 (by kernel_rfl) (LEs.cons (AV.le_eq rfl) LEs.nil) ?_)
  refine G_q rfl (op_move (av := .tup [.row 2 c_api_Above y1.1, .exact (.int .i64 y1.2)]) rfl ?_)
  refine G_q rfl (op_extract (av := .row 2 c_api_Above y1.1) rfl rfl ?_)
  refine G_q rfl (op_extract (av := .exact (.int .i64 y1.2)) rfl rfl ?_)
  refine G_q rfl (op_assign (av := .row 2 c_api_Above y1.1) rfl ?_)
  refine G_q rfl (op_assign (av := .exact (.int .i64 y1.2)) rfl ?_)
  refine G_nil ?_
  refine kC_normal ?_
  refine k_join1_0 h (fun (x2_j2 : Bool) => (AF.put AF0 (some 2) (.exact (.bool x2_j2)))) (fun (x2_j2 : Bool) => []) (fun k2 h => ?_) (fun x2_j2 h => ?_)
  · refine k_reg .free hmixP (by kernel_rfl) ?_
    refine G_q rfl (op_move (av := .exact (.int .i64 y1.2)) rfl ?_)
    refine G_q rfl (op_eql rfl rfl ?_)
    refine G_q rfl (op_move (av := .exact (.bool (decide (y1.2 = 0)))) rfl ?_)
    refine G_split (p := y1.2 = 0) 12 rfl (fun hc => ?_) (fun hc => ?_)
    · replace h := ite_t h hc
      refine Gy_q rfl rfl rfl (op_move (av := .row 2 c_api_Above a0) rfl ?_)
      refine Gy_q rfl rfl rfl (op_move (av := .row 2 c_api_Above y1.1) rfl ?_)
      obtain ⟨y4, hy4, h⟩ := bnd1_some h
      refine Gy_q rfl rfl rfl (op_pure (m_slices_Equal_L_api_Above_api_Above_ok _ _ _ hy4) Try.func57 (by kernel_rfl) (LEs.cons (AV.le_eq rfl) (LEs.cons (AV.le_eq rfl) LEs.nil)) ?_)
      refine G_q rfl (op_pick_t rfl (av := .exact (.bool y4)) rfl ?_)
      refine G_q rfl (op_assign (av := .exact (.bool y4)) rfl ?_)
      refine G_nil ?_
      refine kI_normal ⟨_, h, ?_⟩
      exact Sub.of_le (AF.le_put (AV.le_eq rfl) (AF.le_top _))
    · replace h := ite_f h hc
      refine G_n rfl rfl ?_
      refine G_n rfl rfl ?_
      refine G_n rfl rfl ?_
      refine G_q rfl (op_pick_f rfl (av := .exact (.bool false)) rfl ?_)
      refine G_q rfl (op_assign (av := .exact (.bool false)) rfl ?_)
      refine G_nil ?_
      refine kI_normal ⟨_, h, ?_⟩
      exact Sub.of_le (AF.le_put (AV.le_eq rfl) (AF.le_top _))
  · refine k_ret ?_
    obtain rfl := Option.some.inj h
    refine kP_any (endN (af' := (AF.put AF0 (some 2) (.exact (.bool x2_j2)))) (σ' := []) _ rfl ?_ ⟨rfl, rfl⟩)
    exact Sub.of_le (AF.le_put (AV.le_eq rfl) (AF.le_top _))
set_option maxHeartbeats 4000000 in
theorem m_ref16_greater_ok (a0 : List (Int × Int)) (a1 : Int) (a2 : Int) (r : Bool) (h : m_ref16_greater a0 a1 a2 = some r) : Pure Try.prog 59 [(.row 2 c_api_Above a0), (.exact (.int .i64 a1)), (.exact (.int .i64 a2))] (.exact (.bool r)) := by
  unfold m_ref16_greater at h
  refine Pure.ofFun (fun_of_awp Try.func59 rfl Try.ntmps59 (by simp) rfl (res1 rfl) fun E hE => k_end ?_)
  refine k_seq ?_
  refine k_reg .free hmixP (by kernel_rfl) ?_
  refine G_q rfl (op_assign (av := .exact (.bool false)) rfl ?_)
  refine G_nil ?_
  refine kC_normal ?_
  refine k_join0_0 h (AF0) ([]) (fun k1 h => ?_) (fun  h => ?_)
  · refine k_seq ?_
    refine k_reg .free hmixP (by kernel_rfl) ?_
    refine G_q rfl (op_assign (av := .exact (.int .i64 0)) rfl ?_)
    refine G_nil ?_
    refine kC_normal ?_
    refine k_block ?_
    refine k_loop1_0 (m_ref16_greater_L2 a0 a1 a2 k1) (m_ref16_greater_B2 a0 a1 a2 k1) (fun _ => rfl) (fun m _ => rfl) h (fun (x7_l2 : Int) => (AF.put (AF.put (AF.put (AF.put AF0 (some 0) (.row 2 c_api_Above a0)) (some 1) (.exact (.int .i64 a1))) (some 2) (.exact (.int .i64 a2))) (some 7) (.exact (.int .i64 x7_l2)))) (fun (x7_l2 : Int) => []) ?_ (fun rec2 x7_l2 h => ?_)
    · exact Sub.of_le (AF.le_put (AV.le_eq rfl) (AF.le_put (AV.le_eq rfl) (AF.le_put (AV.le_eq rfl) (AF.le_put (AV.le_eq rfl) (AF.le_top _)))))
    · unfold m_ref16_greater_B2 at h
      refine k_seq ?_
      refine k_seq ?_
      refine k_reg .free hmixP (by kernel_rfl) ?_
      refine G_q rfl (op_move (av := .exact (.int .i64 x7_l2)) rfl ?_)
      refine G_q rfl (op_move (av := .row 2 c_api_Above a0) rfl ?_)
      refine G_q rfl (op_len_row (by kernel_rfl) rfl ?_)
      refine G_q rfl (op_lss rfl rfl ?_)
      refine G_nil ?_
      refine kC_normal ?_
      refine k_cond_d (p := x7_l2 < (List.length a0 : Int)) rfl (fun hc => ?_) (fun hc => ?_)
      · replace h := ite_t h hc
        refine k_skip ?_
        refine kC_normal ?_
        refine k_seq ?_
        refine k_block ?_
        refine k_join1_0 h (fun (x29_j64 : Bool) => (AF.put (AF.put (AF.put (AF.put (AF.put AF0 (some 0) (.row 2 c_api_Above a0)) (some 1) (.exact (.int .i64 a1))) (some 2) (.exact (.int .i64 a2))) (some 7) (.exact (.int .i64 x7_l2))) (some 29) (.exact (.bool x29_j64)))) (fun (x29_j64 : Bool) => []) (fun k64 h => ?_) (fun x29_j64 h => ?_)
        · refine k_reg .free hmixP (by kernel_rfl) ?_
          refine G_q rfl (op_move (av := .row 2 c_api_Above a0) rfl ?_)
          refine G_q rfl (op_move (av := .exact (.int .i64 x7_l2)) rfl ?_)
          obtain ⟨n67, h⟩ := need_some h
          refine G_q rfl (op_index_row (by kernel_rfl) rfl rfl n67.1 n67.2 ?_)
          refine G_q rfl (op_fieldAddr_ptr (o := 0) (c' := (List.drop 0 (c_api_Above (gi a0 x7_l2)))) (by kernel_rfl) rfl rfl ?_)
          refine G_q rfl (op_load1p (a := .exact (.int .i64 ((gi a0 x7_l2).1))) (by kernel_rfl) rfl rfl ?_)
          refine G_q rfl (op_move (av := .exact (.int .i64 a1)) rfl ?_)
          refine G_q rfl (op_eql rfl rfl ?_)
          refine G_q rfl (op_move (av := .exact (.bool (decide (((gi a0 x7_l2).1) = a1)))) rfl ?_)
          refine G_split (p := ((gi a0 x7_l2).1) = a1) 21 rfl (fun hc => ?_) (fun hc => ?_)
          · replace h := ite_t h hc
            refine Gy_q rfl rfl rfl (op_move (av := .row 2 c_api_Above a0) rfl ?_)
            refine Gy_q rfl rfl rfl (op_move (av := .exact (.int .i64 x7_l2)) rfl ?_)
            obtain ⟨n68, h⟩ := need_some h
            refine Gy_q rfl rfl rfl (op_index_row (by kernel_rfl) rfl rfl n68.1 n68.2 ?_)
            refine Gy_q rfl rfl rfl (op_fieldAddr_ptr (o := 1) (c' := (List.drop 1 (c_api_Above (gi a0 x7_l2)))) (by kernel_rfl) rfl rfl ?_)
            refine Gy_q rfl rfl rfl (op_load1p (a := .exact (.int .i64 ((gi a0 x7_l2).2))) (by kernel_rfl) rfl rfl ?_)
            refine Gy_q rfl rfl rfl (op_move (av := .exact (.int .i64 a2)) rfl ?_)
            refine Gy_q rfl rfl rfl (op_eql rfl rfl ?_)
            refine G_q rfl (op_pick_t rfl (av := .exact (.bool (decide (((gi a0 x7_l2).2) = a2)))) rfl ?_)
            refine G_nil ?_
            refine kI_normal ⟨_, h, ?_⟩
            exact Sub.of_le (AF.le_put (AV.le_eq rfl) (AF.le_put (AV.le_eq rfl) (AF.le_put (AV.le_eq rfl) (AF.le_put (AV.le_eq rfl) (AF.le_put (AV.le_eq rfl) (AF.le_top _))))))
          · replace h := ite_f h hc
            refine G_n rfl rfl ?_
            refine G_n rfl rfl ?_
            refine G_n rfl rfl ?_
            refine G_n rfl rfl ?_
            refine G_n rfl rfl ?_
            refine G_n rfl rfl ?_
            refine G_n rfl rfl ?_
            refine G_q rfl (op_pick_f rfl (av := .exact (.bool false)) rfl ?_)
            refine G_nil ?_
            refine kI_normal ⟨_, h, ?_⟩
            exact Sub.of_le (AF.le_put (AV.le_eq rfl) (AF.le_put (AV.le_eq rfl) (AF.le_put (AV.le_eq rfl) (AF.le_put (AV.le_eq rfl) (AF.le_put (AV.le_eq rfl) (AF.le_top _))))))
        · refine k_cond_b (c := x29_j64) rfl (fun hc => ?_) (fun hc => ?_)
          · replace h := ite_t h hc
            refine k_seq ?_
            refine k_reg .free hmixP (by kernel_rfl) ?_
            refine G_q rfl (op_assign (av := .exact (.bool true)) rfl ?_)
            refine G_nil ?_
            refine kC_normal ?_
            refine k_ret ?_
            refine kB_ret ?_
            refine kC_ret ?_
            refine kI_ret ?_
            refine kB_ret ?_
            refine kI_ret ?_
            obtain rfl := Option.some.inj h
            refine kP_any (endN (af' := (AF.put AF0 (some 6) (.exact (.bool true)))) (σ' := []) _ rfl ?_ ⟨rfl, rfl⟩)
            exact Sub.of_le (AF.le_put (AV.le_eq rfl) (AF.le_top _))
          · replace h := ite_f h hc
            refine k_skip ?_
            refine kB_normal ?_
            refine kC_normal ?_
            refine k_reg .free hmixP (by kernel_rfl) ?_
            refine G_q rfl (op_move (av := .exact (.int .i64 x7_l2)) rfl ?_)
            refine G_q rfl (op_add rfl rfl rfl ?_)
            refine G_q rfl (op_assign (av := .exact (.int .i64 (i64 (x7_l2 + 1)))) rfl ?_)
            refine G_nil ?_
            refine kI_normal ⟨_, h, ?_⟩
            exact Sub.of_le (AF.le_put (AV.le_eq rfl) (AF.le_put (AV.le_eq rfl) (AF.le_put (AV.le_eq rfl) (AF.le_put (AV.le_eq rfl) (AF.le_top _)))))
      · replace h := ite_f h hc
        refine k_exit ?_
        refine kC_exit ?_
        refine kI_exit ?_
        refine kB_exit ?_
        refine kI_normal ⟨h, ?_⟩
        exact Sub.of_le (AF.le_top _)
  · refine k_seq ?_
    refine k_reg .free hmixP (by kernel_rfl) ?_
    refine G_q rfl (op_assign (av := .exact (.bool false)) rfl ?_)
    refine G_nil ?_
    refine kC_normal ?_
    refine k_ret ?_
    obtain rfl := Option.some.inj h
    refine kP_any (endN (af' := (AF.put AF0 (some 6) (.exact (.bool false)))) (σ' := []) _ rfl ?_ ⟨rfl, rfl⟩)
    exact Sub.of_le (AF.le_put (AV.le_eq rfl) (AF.le_top _))
set_option maxHeartbeats 4000000 in
theorem m_ref16_ValidOrder_ok (a0 : List (Int × Int)) (r : Bool) (h : m_ref16_ValidOrder a0 = some r) : Pure Try.prog 17 [(.row 2 c_api_Above a0)] (.exact (.bool r)) := by
  unfold m_ref16_ValidOrder at h
  refine Pure.ofFun (fun_of_awp Try.func17 rfl Try.ntmps17 (by simp) rfl (res1 rfl) fun E hE => k_end ?_)
  refine k_seq ?_
  refine k_reg .free hmixP (by kernel_rfl) ?_
  refine G_q rfl (op_assign (av := .exact (.bool false)) rfl ?_)
  refine G_nil ?_
  refine kC_normal ?_
  refine k_join0_0 h ((AF.put AF0 (some 0) (.row 2 c_api_Above a0))) ([]) (fun k1 h => ?_) (fun  h => ?_)
  · refine k_seq ?_
    refine k_reg .free hmixP (by kernel_rfl) ?_
    refine G_q rfl (op_assign (av := .exact (.int .i64 0)) rfl ?_)
    refine G_nil ?_
    refine kC_normal ?_
    refine k_block ?_
    refine k_loop1_0 (m_ref16_ValidOrder_L2 a0 k1) (m_ref16_ValidOrder_B2 a0 k1) (fun _ => rfl) (fun m _ => rfl) h (fun (x3_l2 : Int) => (AF.put (AF.put AF0 (some 0) (.row 2 c_api_Above a0)) (some 3) (.exact (.int .i64 x3_l2)))) (fun (x3_l2 : Int) => []) ?_ (fun rec2 x3_l2 h => ?_)
    · exact Sub.of_le (AF.le_put (AV.le_eq rfl) (AF.le_put (AV.le_eq rfl) (AF.le_top _)))
    · unfold m_ref16_ValidOrder_B2 at h
      refine k_seq ?_
      refine k_seq ?_
      refine k_reg .free hmixP (by kernel_rfl) ?_
      refine G_q rfl (op_move (av := .exact (.int .i64 x3_l2)) rfl ?_)
      refine G_q rfl (op_move (av := .row 2 c_api_Above a0) rfl ?_)
      refine G_q rfl (op_len_row (by kernel_rfl) rfl ?_)
      refine G_q rfl (op_lss rfl rfl ?_)
      refine G_nil ?_
      refine kC_normal ?_
      refine k_cond_d (p := x3_l2 < (List.length a0 : Int)) rfl (fun hc => ?_) (fun hc => ?_)
      · replace h := ite_t h hc
        refine k_skip ?_
        refine kC_normal ?_
        refine k_seq ?_
        refine k_block ?_
        refine k_seq ?_
        refine k_reg .free hmixP (by kernel_rfl) ?_
        refine G_q rfl (op_move (av := .row 2 c_api_Above a0) rfl ?_)
        refine G_q rfl (op_move (av := .exact (.int .i64 x3_l2)) rfl ?_)
        obtain ⟨n152, h⟩ := need_some h
        refine G_q rfl (op_index_row (by kernel_rfl) rfl rfl n152.1 n152.2 ?_)
        refine G_q rfl (op_loadNp (m := 2) (c' := c_api_Above (gi a0 x3_l2)) (by kernel_rfl) rfl rfl rfl ?_)
        refine G_l rfl (op_alloc (c := [.exact (.int .i64 ((0, 0).1)), .exact (.int .i64 ((0, 0).2))]) rfl (LEs.cons (AV.le_eq rfl) (LEs.cons (AV.le_eq rfl) LEs.nil)) (fun b153 => ?_))
        refine G_l rfl (op_store_box (c' := [.exact (.int .i64 ((gi a0 x3_l2).1)), .exact (.int .i64 ((gi a0 x3_l2).2))]) (c3 := [.exact (.int .i64 ((gi a0 x3_l2).1)), .exact (.int .i64 ((gi a0 x3_l2).2))]) rfl rfl CellsOf.agg (LEs.cons (AV.le_eq rfl) (LEs.cons (AV.le_eq rfl) LEs.nil)) (oc_c_api_Above _) (by kernel_rfl) (Nat.le_of_ble_eq_true rfl) rfl ?_)
        refine G_nil ?_
        refine kC_normal ?_
        refine k_join1_0 h (fun (x59_j154 : Bool) => (AF.put (AF.put (AF.put AF0 (some 0) (.row 2 c_api_Above a0)) (some 3) (.exact (.int .i64 x3_l2))) (some 59) (.exact (.bool x59_j154)))) (fun (x59_j154 : Bool) => []) (fun k154 h => ?_) (fun x59_j154 h => ?_)
        · refine k_plan [] [(0, 0), (1, 1), (0, 2), (0, 3), (0, 4), (0, 5), (1, 6), (0, 7), (0, 8), (0, 9), (0, 10), (0, 11), (0, 13), (1, 12), (1, 14), (0, 15), (0, 16), (0, 17), (0, 18), (0, 19), (0, 20), (0, 21), (0, 22), (0, 23), (0, 24), (0, 25), (0, 26), (0, 27), (0, 28), (0, 29), (0, 30), (0, 31), (0, 32), (0, 33), (0, 34), (0, 36), (1, 35), (1, 37), (0, 38), (0, 39), (0, 40), (0, 41), (0, 42)] hmixP (by kernel_rfl) ?_
          refine P_q no34_0 rfl (op_fieldAddr (o := 0) (by kernel_rfl) rfl ?_)
          refine P_r rfl (op_load_box1 (a := .exact (.int .i64 ((gi a0 x3_l2).1))) (by kernel_rfl) rfl rfl ?_)
          obtain ⟨y160, hy160, h⟩ := bnd1_some h
          refine P_q no34_0 rfl (op_pure (m_ref16_Visible_ok _ _ hy160) Try.func56 (by kernel_rfl) (LEs.cons (AV.le_eq rfl) LEs.nil) ?_)
          refine P_q no34_0 rfl (op_not rfl ?_)
          refine P_q no34_0 rfl (op_move (av := .exact (.bool (!y160))) rfl ?_)
          refine P_splitB (c := !y160) 21 rfl (fun hc => ?_) (fun hc => ?_)
          · replace h := ite_t h hc
            refine P_n no34_0 rfl rfl rfl ?_
            refine P_n no34_1 rfl rfl rfl ?_
            refine P_n no34_0 rfl rfl rfl ?_
            refine P_n no34_0 rfl rfl rfl ?_
            refine P_q no34_0 rfl (op_pick_t rfl (av := .exact (.bool true)) rfl ?_)
            refine P_q no34_0 rfl (op_move (av := .exact (.bool true)) rfl ?_)
            refine P_n no34_0 rfl rfl rfl ?_
            refine P_n no34_0 rfl rfl rfl ?_
            refine P_n no34_1 rfl rfl rfl ?_
            refine P_n no34_1 rfl rfl rfl ?_
            refine P_n no34_0 rfl rfl rfl ?_
            refine P_q no34_0 rfl (op_pick_t rfl (av := .exact (.bool true)) rfl ?_)
            refine P_q no34_0 rfl (op_move (av := .exact (.bool true)) rfl ?_)
            refine P_n no34_0 rfl rfl rfl ?_
            refine P_n no34_0 rfl rfl rfl ?_
            refine P_n no34_0 rfl rfl rfl ?_
            refine P_u no34_0 rfl rfl rfl ?_
            refine P_u no34_0 rfl rfl rfl ?_
            refine P_u no34_0 rfl rfl rfl ?_
            refine P_u no34_0 rfl rfl rfl ?_
            refine P_u no34_0 rfl rfl rfl ?_
            refine P_u no34_0 rfl rfl rfl ?_
            refine P_u no34_0 rfl rfl rfl ?_
            refine P_u no34_0 rfl rfl rfl ?_
            refine P_u no34_0 rfl rfl rfl ?_
            refine P_u no34_0 rfl rfl rfl ?_
            refine P_u no34_0 rfl rfl rfl ?_
            refine P_u no34_0 rfl rfl rfl ?_
            refine P_u no34_0 rfl rfl rfl ?_
            refine P_u no34_0 rfl rfl rfl ?_
            refine P_u no34_0 rfl rfl rfl ?_
            refine P_u no34_1 rfl rfl rfl ?_
            refine P_u no34_1 rfl rfl rfl ?_
            refine P_u no34_0 rfl rfl rfl ?_
            refine P_u no34_0 rfl rfl rfl ?_
            refine P_u no34_0 rfl rfl rfl ?_
            refine P_n no34_0 rfl rfl rfl ?_
            refine P_q no34_0 rfl (op_pick_t rfl (av := .exact (.bool true)) rfl ?_)
            refine P_nil ?_
            refine kI_normal ⟨_, h, ?_⟩
            refine Sub.trans (SubU.to SubU.drop) ?_
            exact Sub.of_le (AF.le_put (AV.le_eq rfl) (AF.le_put (AV.le_eq rfl) (AF.le_put (AV.le_eq rfl) (AF.le_top _))))
          · replace h := ite_f h hc
            refine Py_q no34_0 rfl rfl rfl (op_fieldAddr (o := 1) (by kernel_rfl) rfl ?_)
            refine Py_r rfl rfl rfl (op_load_box1 (a := .exact (.int .i64 ((gi a0 x3_l2).2))) (by kernel_rfl) rfl rfl ?_)
            obtain ⟨y161, hy161, h⟩ := bnd1_some h
            refine Py_q no34_0 rfl rfl rfl (op_pure (m_ref16_Visible_ok _ _ hy161) Try.func56 (by kernel_rfl) (LEs.cons (AV.le_eq rfl) LEs.nil) ?_)
            refine Py_q no34_0 rfl rfl rfl (op_not rfl ?_)
            refine P_q no34_0 rfl (op_pick_f rfl (av := .exact (.bool (!y161))) rfl ?_)
            refine P_q no34_0 rfl (op_move (av := .exact (.bool (!y161))) rfl ?_)
            refine P_splitB (c := !y161) 27 rfl (fun hc => ?_) (fun hc => ?_)
            · replace h := ite_t h hc
              refine P_n no34_0 rfl rfl rfl ?_
              refine P_n no34_0 rfl rfl rfl ?_
              refine P_n no34_1 rfl rfl rfl ?_
              refine P_n no34_1 rfl rfl rfl ?_
              refine P_n no34_0 rfl rfl rfl ?_
              refine P_q no34_0 rfl (op_pick_t rfl (av := .exact (.bool true)) rfl ?_)
              refine P_q no34_0 rfl (op_move (av := .exact (.bool true)) rfl ?_)
              refine P_n no34_0 rfl rfl rfl ?_
              refine P_n no34_0 rfl rfl rfl ?_
              refine P_n no34_0 rfl rfl rfl ?_
              refine P_u no34_0 rfl rfl rfl ?_
              refine P_u no34_0 rfl rfl rfl ?_
              refine P_u no34_0 rfl rfl rfl ?_
              refine P_u no34_0 rfl rfl rfl ?_
              refine P_u no34_0 rfl rfl rfl ?_
              refine P_u no34_0 rfl rfl rfl ?_
              refine P_u no34_0 rfl rfl rfl ?_
              refine P_u no34_0 rfl rfl rfl ?_
              refine P_u no34_0 rfl rfl rfl ?_
              refine P_u no34_0 rfl rfl rfl ?_
              refine P_u no34_0 rfl rfl rfl ?_
              refine P_u no34_0 rfl rfl rfl ?_
              refine P_u no34_0 rfl rfl rfl ?_
              refine P_u no34_0 rfl rfl rfl ?_
              refine P_u no34_0 rfl rfl rfl ?_
              refine P_u no34_1 rfl rfl rfl ?_
              refine P_u no34_1 rfl rfl rfl ?_
              refine P_u no34_0 rfl rfl rfl ?_
              refine P_u no34_0 rfl rfl rfl ?_
              refine P_u no34_0 rfl rfl rfl ?_
              refine P_n no34_0 rfl rfl rfl ?_
              refine P_q no34_0 rfl (op_pick_t rfl (av := .exact (.bool true)) rfl ?_)
              refine P_nil ?_
              refine kI_normal ⟨_, h, ?_⟩
              refine Sub.trans (SubU.to SubU.drop) ?_
              exact Sub.of_le (AF.le_put (AV.le_eq rfl) (AF.le_put (AV.le_eq rfl) (AF.le_put (AV.le_eq rfl) (AF.le_top _))))
            · replace h := ite_f h hc
              refine Py_q no34_0 rfl rfl rfl (op_fieldAddr (o := 0) (by kernel_rfl) rfl ?_)
              refine Py_q no34_0 rfl rfl rfl (op_fieldAddr (o := 1) (by kernel_rfl) rfl ?_)
              refine Py_r rfl rfl rfl (op_load_box1 (a := .exact (.int .i64 ((gi a0 x3_l2).1))) (by kernel_rfl) rfl rfl ?_)
              refine Py_r rfl rfl rfl (op_load_box1 (a := .exact (.int .i64 ((gi a0 x3_l2).2))) (by kernel_rfl) rfl rfl ?_)
              refine Py_q no34_0 rfl rfl rfl (op_eql rfl rfl ?_)
              refine P_q no34_0 rfl (op_pick_f rfl (av := .exact (.bool (decide (((gi a0 x3_l2).1) = ((gi a0 x3_l2).2))))) rfl ?_)
              refine P_q no34_0 rfl (op_move (av := .exact (.bool (decide (((gi a0 x3_l2).1) = ((gi a0 x3_l2).2))))) rfl ?_)
              refine P_split (p := ((gi a0 x3_l2).1) = ((gi a0 x3_l2).2)) 34 rfl (fun hc => ?_) (fun hc => ?_)
              · replace h := ite_t h hc
                refine P_n no34_0 rfl rfl rfl ?_
                refine P_n no34_0 rfl rfl rfl ?_
                refine P_n no34_0 rfl rfl rfl ?_
                refine P_u no34_0 rfl rfl rfl ?_
                refine P_u no34_0 rfl rfl rfl ?_
                refine P_u no34_0 rfl rfl rfl ?_
                refine P_u no34_0 rfl rfl rfl ?_
                refine P_u no34_0 rfl rfl rfl ?_
                refine P_u no34_0 rfl rfl rfl ?_
                refine P_u no34_0 rfl rfl rfl ?_
                refine P_u no34_0 rfl rfl rfl ?_
                refine P_u no34_0 rfl rfl rfl ?_
                refine P_u no34_0 rfl rfl rfl ?_
                refine P_u no34_0 rfl rfl rfl ?_
                refine P_u no34_0 rfl rfl rfl ?_
                refine P_u no34_0 rfl rfl rfl ?_
                refine P_u no34_0 rfl rfl rfl ?_
                refine P_u no34_0 rfl rfl rfl ?_
                refine P_u no34_1 rfl rfl rfl ?_
                refine P_u no34_1 rfl rfl rfl ?_
                refine P_u no34_0 rfl rfl rfl ?_
                refine P_u no34_0 rfl rfl rfl ?_
                refine P_u no34_0 rfl rfl rfl ?_
                refine P_n no34_0 rfl rfl rfl ?_
                refine P_q no34_0 rfl (op_pick_t rfl (av := .exact (.bool true)) rfl ?_)
                refine P_nil ?_
                refine kI_normal ⟨_, h, ?_⟩
                refine Sub.trans (SubU.to SubU.drop) ?_
                exact Sub.of_le (AF.le_put (AV.le_eq rfl) (AF.le_put (AV.le_eq rfl) (AF.le_put (AV.le_eq rfl) (AF.le_top _))))
              · replace h := ite_f h hc
                refine Py_q no34_0 rfl rfl rfl (op_move (av := .exact (.int .i64 x3_l2)) rfl ?_)
                refine Py_q no34_0 rfl rfl rfl (op_gtr rfl rfl ?_)
                refine Py_q no34_0 rfl rfl rfl (op_move (av := .exact (.bool (decide (0 < x3_l2)))) rfl ?_)
                refine P_split (p := 0 < x3_l2) 37 rfl (fun hc => ?_) (fun hc => ?_)
                · replace h := ite_t h hc
                  refine Py_q no34_0 rfl rfl rfl (op_move (av := .row 2 c_api_Above a0) rfl ?_)
                  refine Py_q no34_0 rfl rfl rfl (op_move (av := .exact (.int .i64 x3_l2)) rfl ?_)
                  refine Py_q no34_0 rfl rfl rfl (op_sub rfl rfl rfl ?_)
                  obtain ⟨n162, h⟩ := need_some h
                  refine Py_q no34_0 rfl rfl rfl (op_index_row (by kernel_rfl) rfl rfl n162.1 n162.2 ?_)
                  refine Py_q no34_0 rfl rfl rfl (op_fieldAddr_ptr (o := 0) (c' := (List.drop 0 (c_api_Above (gi a0 (i64 (x3_l2 - 1)))))) (by kernel_rfl) rfl rfl ?_)
                  refine Py_q no34_0 rfl rfl rfl (op_load1p (a := .exact (.int .i64 ((gi a0 (i64 (x3_l2 - 1))).1))) (by kernel_rfl) rfl rfl ?_)
                  refine Py_q no34_0 rfl rfl rfl (op_move (av := .row 2 c_api_Above a0) rfl ?_)
                  refine Py_q no34_0 rfl rfl rfl (op_move (av := .exact (.int .i64 x3_l2)) rfl ?_)
                  refine Py_q no34_0 rfl rfl rfl (op_sub rfl rfl rfl ?_)
                  obtain ⟨n163, h⟩ := need_some h
                  refine Py_q no34_0 rfl rfl rfl (op_index_row (by kernel_rfl) rfl rfl n163.1 n163.2 ?_)
                  refine Py_q no34_0 rfl rfl rfl (op_fieldAddr_ptr (o := 1) (c' := (List.drop 1 (c_api_Above (gi a0 (i64 (x3_l2 - 1)))))) (by kernel_rfl) rfl rfl ?_)
                  refine Py_q no34_0 rfl rfl rfl (op_load1p (a := .exact (.int .i64 ((gi a0 (i64 (x3_l2 - 1))).2))) (by kernel_rfl) rfl rfl ?_)
                  refine Py_q no34_0 rfl rfl rfl (op_bld (c' := c_api_Pair ((gi a0 (i64 (x3_l2 - 1))).1, (gi a0 (i64 (x3_l2 - 1))).2)) (CellsAll.cons rfl CellsOf.int (CellsAll.cons rfl CellsOf.int CellsAll.nil)) rfl (LEs.cons (AV.le_eq rfl) (LEs.cons (AV.le_eq rfl) LEs.nil)) ?_)
                  refine Py_q no34_0 rfl rfl rfl (op_fieldAddr (o := 0) (by kernel_rfl) rfl ?_)
                  refine Py_q no34_0 rfl rfl rfl (op_fieldAddr (o := 1) (by kernel_rfl) rfl ?_)
                  refine Py_r rfl rfl rfl (op_load_box1 (a := .exact (.int .i64 ((gi a0 x3_l2).1))) (by kernel_rfl) rfl rfl ?_)
                  refine Py_r rfl rfl rfl (op_load_box1 (a := .exact (.int .i64 ((gi a0 x3_l2).2))) (by kernel_rfl) rfl rfl ?_)
                  refine Py_q no34_0 rfl rfl rfl (op_bld (c' := c_api_Pair ((gi a0 x3_l2).1, (gi a0 x3_l2).2)) (CellsAll.cons rfl CellsOf.int (CellsAll.cons rfl CellsOf.int CellsAll.nil)) rfl (LEs.cons (AV.le_eq rfl) (LEs.cons (AV.le_eq rfl) LEs.nil)) ?_)
                  obtain ⟨y164, hy164, h⟩ := bnd1_some h
                  refine Py_q no34_0 rfl rfl rfl (op_pure (m_ref16_before_ok _ _ _ hy164) Try.func58 (by kernel_rfl) (LEs.cons (AV.le_eq rfl) (LEs.cons (AV.le_eq rfl) LEs.nil)) ?_)
                  refine Py_q no34_0 rfl rfl rfl (op_not rfl ?_)
                  refine Py_q no34_0 rfl rfl rfl (op_pick_t rfl (av := .exact (.bool (!y164))) rfl ?_)
                  refine P_q no34_0 rfl (op_pick_f rfl (av := .exact (.bool (!y164))) rfl ?_)
                  refine P_nil ?_
                  refine kI_normal ⟨_, h, ?_⟩
                  refine Sub.trans (SubU.to SubU.drop) ?_
                  exact Sub.of_le (AF.le_put (AV.le_eq rfl) (AF.le_put (AV.le_eq rfl) (AF.le_put (AV.le_eq rfl) (AF.le_top _))))
                · replace h := ite_f h hc
                  refine P_n no34_0 rfl rfl rfl ?_
                  refine P_n no34_0 rfl rfl rfl ?_
                  refine P_n no34_0 rfl rfl rfl ?_
                  refine P_n no34_0 rfl rfl rfl ?_
                  refine P_n no34_0 rfl rfl rfl ?_
                  refine P_n no34_0 rfl rfl rfl ?_
                  refine P_n no34_0 rfl rfl rfl ?_
                  refine P_n no34_0 rfl rfl rfl ?_
                  refine P_n no34_0 rfl rfl rfl ?_
                  refine P_n no34_0 rfl rfl rfl ?_
                  refine P_n no34_0 rfl rfl rfl ?_
                  refine P_n no34_0 rfl rfl rfl ?_
                  refine P_n no34_0 rfl rfl rfl ?_
                  refine P_n no34_0 rfl rfl rfl ?_
                  refine P_n no34_0 rfl rfl rfl ?_
                  refine P_n no34_1 rfl rfl rfl ?_
                  refine P_n no34_1 rfl rfl rfl ?_
                  refine P_n no34_0 rfl rfl rfl ?_
                  refine P_n no34_0 rfl rfl rfl ?_
                  refine P_n no34_0 rfl rfl rfl ?_
                  refine Py_q no34_0 rfl rfl rfl (op_pick_f rfl (av := .exact (.bool false)) rfl ?_)
                  refine P_q no34_0 rfl (op_pick_f rfl (av := .exact (.bool false)) rfl ?_)
                  refine P_nil ?_
                  refine kI_normal ⟨_, h, ?_⟩
                  refine Sub.trans (SubU.to SubU.drop) ?_
                  exact Sub.of_le (AF.le_put (AV.le_eq rfl) (AF.le_put (AV.le_eq rfl) (AF.le_put (AV.le_eq rfl) (AF.le_top _))))
        · refine k_cond_b (c := x59_j154) rfl (fun hc => ?_) (fun hc => ?_)
          · replace h := ite_t h hc
            refine k_seq ?_
            refine k_reg .free hmixP (by kernel_rfl) ?_
            refine G_q rfl (op_assign (av := .exact (.bool false)) rfl ?_)
            refine G_nil ?_
            refine kC_normal ?_
            refine k_ret ?_
            refine kB_ret ?_
            refine kC_ret ?_
            refine kI_ret ?_
            refine kB_ret ?_
            refine kI_ret ?_
            obtain rfl := Option.some.inj h
            refine kP_any (endN (af' := (AF.put AF0 (some 2) (.exact (.bool false)))) (σ' := []) _ rfl ?_ ⟨rfl, rfl⟩)
            exact Sub.of_le (AF.le_put (AV.le_eq rfl) (AF.le_top _))
          · replace h := ite_f h hc
            refine k_skip ?_
            refine kB_normal ?_
            refine kC_normal ?_
            refine k_reg .free hmixP (by kernel_rfl) ?_
            refine G_q rfl (op_move (av := .exact (.int .i64 x3_l2)) rfl ?_)
            refine G_q rfl (op_add rfl rfl rfl ?_)
            refine G_q rfl (op_assign (av := .exact (.int .i64 (i64 (x3_l2 + 1)))) rfl ?_)
            refine G_nil ?_
            refine kI_normal ⟨_, h, ?_⟩
            exact Sub.of_le (AF.le_put (AV.le_eq rfl) (AF.le_put (AV.le_eq rfl) (AF.le_top _)))
      · replace h := ite_f h hc
        refine k_exit ?_
        refine kC_exit ?_
        refine kI_exit ?_
        refine kB_exit ?_
        refine kI_normal ⟨h, ?_⟩
        exact Sub.of_le (AF.le_put (AV.le_eq rfl) (AF.le_top _))
  · refine k_join0_0 h (AF0) ([]) (fun k165 h => ?_) (fun  h => ?_)
    · refine k_seq ?_
      refine k_reg .free hmixP (by kernel_rfl) ?_
      refine G_q rfl (op_assign (av := .exact (.int .i64 0)) rfl ?_)
      refine G_nil ?_
      refine kC_normal ?_
      refine k_block ?_
      refine k_loop1_0 (m_ref16_ValidOrder_L10 a0 k165) (m_ref16_ValidOrder_B10 a0 k165) (fun _ => rfl) (fun m _ => rfl) h (fun (x5_l10 : Int) => (AF.put (AF.put AF0 (some 0) (.row 2 c_api_Above a0)) (some 5) (.exact (.int .i64 x5_l10)))) (fun (x5_l10 : Int) => []) ?_ (fun rec10 x5_l10 h => ?_)
      · exact Sub.of_le (AF.le_put (AV.le_eq rfl) (AF.le_put (AV.le_eq rfl) (AF.le_top _)))
      · unfold m_ref16_ValidOrder_B10 at h
        refine k_seq ?_
        refine k_seq ?_
        refine k_reg .free hmixP (by kernel_rfl) ?_
        refine G_q rfl (op_move (av := .exact (.int .i64 x5_l10)) rfl ?_)
        refine G_q rfl (op_move (av := .row 2 c_api_Above a0) rfl ?_)
        refine G_q rfl (op_len_row (by kernel_rfl) rfl ?_)
        refine G_q rfl (op_lss rfl rfl ?_)
        refine G_nil ?_
        refine kC_normal ?_
        refine k_cond_d (p := x5_l10 < (List.length a0 : Int)) rfl (fun hc => ?_) (fun hc => ?_)
        · replace h := ite_t h hc
          refine k_skip ?_
          refine kC_normal ?_
          refine k_join0_0 h ((AF.put (AF.put AF0 (some 0) (.row 2 c_api_Above a0)) (some 5) (.exact (.int .i64 x5_l10)))) ([]) (fun k872 h => ?_) (fun  h => ?_)
          · refine k_block ?_
            refine k_seq ?_
            refine k_reg .free hmixP (by kernel_rfl) ?_
            refine G_q rfl (op_assign (av := .exact (.int .i64 0)) rfl ?_)
            refine G_nil ?_
            refine kC_normal ?_
            refine k_block ?_
            refine k_loop1_0 (m_ref16_ValidOrder_L16 a0 x5_l10 k872) (m_ref16_ValidOrder_B16 a0 x5_l10 k872) (fun _ => rfl) (fun m _ => rfl) h (fun (x6_l16 : Int) => (AF.put (AF.put (AF.put AF0 (some 0) (.row 2 c_api_Above a0)) (some 5) (.exact (.int .i64 x5_l10))) (some 6) (.exact (.int .i64 x6_l16)))) (fun (x6_l16 : Int) => []) ?_ (fun rec16 x6_l16 h => ?_)
            · exact Sub.of_le (AF.le_put (AV.le_eq rfl) (AF.le_put (AV.le_eq rfl) (AF.le_put (AV.le_eq rfl) (AF.le_top _))))
            · unfold m_ref16_ValidOrder_B16 at h
              refine k_seq ?_
              refine k_seq ?_
              refine k_reg .free hmixP (by kernel_rfl) ?_
              refine G_q rfl (op_move (av := .exact (.int .i64 x6_l16)) rfl ?_)
              refine G_q rfl (op_move (av := .row 2 c_api_Above a0) rfl ?_)
              refine G_q rfl (op_len_row (by kernel_rfl) rfl ?_)
              refine G_q rfl (op_lss rfl rfl ?_)
              refine G_nil ?_
              refine kC_normal ?_
              refine k_cond_d (p := x6_l16 < (List.length a0 : Int)) rfl (fun hc => ?_) (fun hc => ?_)
              · replace h := ite_t h hc
                refine k_skip ?_
                refine kC_normal ?_
                refine k_seq ?_
                refine k_block ?_
                refine k_join1_0 h (fun (x97_j1001 : Bool) => (AF.put (AF.put (AF.put (AF.put AF0 (some 0) (.row 2 c_api_Above a0)) (some 5) (.exact (.int .i64 x5_l10))) (some 6) (.exact (.int .i64 x6_l16))) (some 97) (.exact (.bool x97_j1001)))) (fun (x97_j1001 : Bool) => []) (fun k1001 h => ?_) (fun x97_j1001 h => ?_)
                · refine k_plan [] [(0, 0), (0, 1), (0, 2), (0, 3), (0, 4), (0, 5), (0, 6), (0, 7), (0, 8), (0, 9), (0, 10), (0, 11), (0, 12), (0, 13), (0, 14), (0, 15), (0, 16), (0, 17), (0, 18), (0, 19), (0, 20), (0, 21), (0, 22), (0, 23), (0, 24), (0, 25)] hmixP (by kernel_rfl) ?_
                  refine P_q no34_0 rfl (op_move (av := .row 2 c_api_Above a0) rfl ?_)
                  refine P_q no34_0 rfl (op_move (av := .exact (.int .i64 x5_l10)) rfl ?_)
                  obtain ⟨n1007, h⟩ := need_some h
                  refine P_q no34_0 rfl (op_index_row (by kernel_rfl) rfl rfl n1007.1 n1007.2 ?_)
                  refine P_q no34_0 rfl (op_fieldAddr_ptr (o := 1) (c' := (List.drop 1 (c_api_Above (gi a0 x5_l10)))) (by kernel_rfl) rfl rfl ?_)
                  refine P_q no34_0 rfl (op_load1p (a := .exact (.int .i64 ((gi a0 x5_l10).2))) (by kernel_rfl) rfl rfl ?_)
                  refine P_q no34_0 rfl (op_move (av := .row 2 c_api_Above a0) rfl ?_)
                  refine P_q no34_0 rfl (op_move (av := .exact (.int .i64 x6_l16)) rfl ?_)
                  obtain ⟨n1008, h⟩ := need_some h
                  refine P_q no34_0 rfl (op_index_row (by kernel_rfl) rfl rfl n1008.1 n1008.2 ?_)
                  refine P_q no34_0 rfl (op_fieldAddr_ptr (o := 0) (c' := (List.drop 0 (c_api_Above (gi a0 x6_l16)))) (by kernel_rfl) rfl rfl ?_)
                  refine P_q no34_0 rfl (op_load1p (a := .exact (.int .i64 ((gi a0 x6_l16).1))) (by kernel_rfl) rfl rfl ?_)
                  refine P_q no34_0 rfl (op_eql rfl rfl ?_)
                  refine P_q no34_0 rfl (op_move (av := .exact (.bool (decide (((gi a0 x5_l10).2) = ((gi a0 x6_l16).1))))) rfl ?_)
                  refine P_split (p := ((gi a0 x5_l10).2) = ((gi a0 x6_l16).1)) 83 rfl (fun hc => ?_) (fun hc => ?_)
                  · replace h := ite_t h hc
                    refine Py_q no34_0 rfl rfl rfl (op_move (av := .row 2 c_api_Above a0) rfl ?_)
                    refine Py_q no34_0 rfl rfl rfl (op_move (av := .row 2 c_api_Above a0) rfl ?_)
                    refine Py_q no34_0 rfl rfl rfl (op_move (av := .exact (.int .i64 x5_l10)) rfl ?_)
                    obtain ⟨n1009, h⟩ := need_some h
                    refine Py_q no34_0 rfl rfl rfl (op_index_row (by kernel_rfl) rfl rfl n1009.1 n1009.2 ?_)
                    refine Py_q no34_0 rfl rfl rfl (op_fieldAddr_ptr (o := 0) (c' := (List.drop 0 (c_api_Above (gi a0 x5_l10)))) (by kernel_rfl) rfl rfl ?_)
                    refine Py_q no34_0 rfl rfl rfl (op_load1p (a := .exact (.int .i64 ((gi a0 x5_l10).1))) (by kernel_rfl) rfl rfl ?_)
                    refine Py_q no34_0 rfl rfl rfl (op_move (av := .row 2 c_api_Above a0) rfl ?_)
                    refine Py_q no34_0 rfl rfl rfl (op_move (av := .exact (.int .i64 x6_l16)) rfl ?_)
                    obtain ⟨n1010, h⟩ := need_some h
                    refine Py_q no34_0 rfl rfl rfl (op_index_row (by kernel_rfl) rfl rfl n1010.1 n1010.2 ?_)
                    refine Py_q no34_0 rfl rfl rfl (op_fieldAddr_ptr (o := 1) (c' := (List.drop 1 (c_api_Above (gi a0 x6_l16)))) (by kernel_rfl) rfl rfl ?_)
                    refine Py_q no34_0 rfl rfl rfl (op_load1p (a := .exact (.int .i64 ((gi a0 x6_l16).2))) (by kernel_rfl) rfl rfl ?_)
                    obtain ⟨y1011, hy1011, h⟩ := bnd1_some h
                    refine Py_q no34_0 rfl rfl rfl (op_pure (m_ref16_greater_ok _ _ _ _ hy1011) Try.func59 (by kernel_rfl) (LEs.cons (AV.le_eq rfl) (LEs.cons (AV.le_eq rfl) (LEs.cons (AV.le_eq rfl) LEs.nil))) ?_)
                    refine Py_q no34_0 rfl rfl rfl (op_not rfl ?_)
                    refine P_q no34_0 rfl (op_pick_t rfl (av := .exact (.bool (!y1011))) rfl ?_)
                    refine P_nil ?_
                    refine kI_normal ⟨_, h, ?_⟩
                    exact Sub.of_le (AF.le_put (AV.le_eq rfl) (AF.le_put (AV.le_eq rfl) (AF.le_put (AV.le_eq rfl) (AF.le_put (AV.le_eq rfl) (AF.le_top _)))))
                  · replace h := ite_f h hc
                    refine P_n no34_0 rfl rfl rfl ?_
                    refine P_n no34_0 rfl rfl rfl ?_
                    refine P_n no34_0 rfl rfl rfl ?_
                    refine P_n no34_0 rfl rfl rfl ?_
                    refine P_n no34_0 rfl rfl rfl ?_
                    refine P_n no34_0 rfl rfl rfl ?_
                    refine P_n no34_0 rfl rfl rfl ?_
                    refine P_n no34_0 rfl rfl rfl ?_
                    refine P_n no34_0 rfl rfl rfl ?_
                    refine P_n no34_0 rfl rfl rfl ?_
                    refine P_n no34_0 rfl rfl rfl ?_
                    refine P_n no34_0 rfl rfl rfl ?_
                    refine P_n no34_0 rfl rfl rfl ?_
                    refine P_q no34_0 rfl (op_pick_f rfl (av := .exact (.bool false)) rfl ?_)
                    refine P_nil ?_
                    refine kI_normal ⟨_, h, ?_⟩
                    exact Sub.of_le (AF.le_put (AV.le_eq rfl) (AF.le_put (AV.le_eq rfl) (AF.le_put (AV.le_eq rfl) (AF.le_put (AV.le_eq rfl) (AF.le_top _)))))
                · refine k_cond_b (c := x97_j1001) rfl (fun hc => ?_) (fun hc => ?_)
                  · replace h := ite_t h hc
                    refine k_seq ?_
                    refine k_reg .free hmixP (by kernel_rfl) ?_
                    refine G_q rfl (op_assign (av := .exact (.bool false)) rfl ?_)
                    refine G_nil ?_
                    refine kC_normal ?_
                    refine k_ret ?_
                    refine kB_ret ?_
                    refine kC_ret ?_
                    refine kI_ret ?_
                    refine kB_ret ?_
                    refine kB_ret ?_
                    refine kI_ret ?_
                    refine kI_ret ?_
                    refine kB_ret ?_
                    refine kI_ret ?_
                    obtain rfl := Option.some.inj h
                    refine kP_any (endN (af' := (AF.put AF0 (some 2) (.exact (.bool false)))) (σ' := []) _ rfl ?_ ⟨rfl, rfl⟩)
                    exact Sub.of_le (AF.le_put (AV.le_eq rfl) (AF.le_top _))
                  · replace h := ite_f h hc
                    refine k_skip ?_
                    refine kB_normal ?_
                    refine kC_normal ?_
                    refine k_reg .free hmixP (by kernel_rfl) ?_
                    refine G_q rfl (op_move (av := .exact (.int .i64 x6_l16)) rfl ?_)
                    refine G_q rfl (op_add rfl rfl rfl ?_)
                    refine G_q rfl (op_assign (av := .exact (.int .i64 (i64 (x6_l16 + 1)))) rfl ?_)
                    refine G_nil ?_
                    refine kI_normal ⟨_, h, ?_⟩
                    exact Sub.of_le (AF.le_put (AV.le_eq rfl) (AF.le_put (AV.le_eq rfl) (AF.le_put (AV.le_eq rfl) (AF.le_top _))))
              · replace h := ite_f h hc
                refine k_exit ?_
                refine kC_exit ?_
                refine kI_exit ?_
                refine kB_exit ?_
                refine kB_normal ?_
                refine kI_normal ⟨h, ?_⟩
                exact Sub.of_le (AF.le_put (AV.le_eq rfl) (AF.le_put (AV.le_eq rfl) (AF.le_top _)))
          · refine k_reg .free hmixP (by kernel_rfl) ?_
            refine G_q rfl (op_move (av := .exact (.int .i64 x5_l10)) rfl ?_)
            refine G_q rfl (op_add rfl rfl rfl ?_)
            refine G_q rfl (op_assign (av := .exact (.int .i64 (i64 (x5_l10 + 1)))) rfl ?_)
            refine G_nil ?_
            refine kI_normal ⟨_, h, ?_⟩
            exact Sub.of_le (AF.le_put (AV.le_eq rfl) (AF.le_put (AV.le_eq rfl) (AF.le_top _)))
        · replace h := ite_f h hc
          refine k_exit ?_
          refine kC_exit ?_
          refine kI_exit ?_
          refine kB_exit ?_
          refine kI_normal ⟨h, ?_⟩
          exact Sub.of_le (AF.le_top _)
    · refine k_seq ?_
      refine k_reg .free hmixP (by kernel_rfl) ?_
      refine G_q rfl (op_assign (av := .exact (.bool true)) rfl ?_)
      refine G_nil ?_
      refine kC_normal ?_
      refine k_ret ?_
      obtain rfl := Option.some.inj h
      refine kP_any (endN (af' := (AF.put AF0 (some 2) (.exact (.bool true)))) (σ' := []) _ rfl ?_ ⟨rfl, rfl⟩)
      exact Sub.of_le (AF.le_put (AV.le_eq rfl) (AF.le_top _))
set_option maxHeartbeats 4000000 in
theorem m_slices_Index_L_int_int_ok (a0 : List Int) (a1 : Int) (r : Int) (h : m_slices_Index_L_int_int a0 a1 = some r) : Pure Try.prog 87 [(.row 1 c_int a0), (.exact (.int .i64 a1))] (.exact (.int .i64 r)) := by
  unfold m_slices_Index_L_int_int at h
  refine Pure.ofFun (fun_of_awp Try.func87 rfl Try.ntmps87 (by simp) rfl (res1 rfl) fun E hE => k_end ?_)
  refine k_seq ?_
  refine k_reg .free hmixP (by kernel_rfl) ?_
  refine G_q rfl (op_assign (av := .exact (.int .i64 0)) rfl ?_)
  refine G_nil ?_
  refine kC_normal ?_
  refine k_join0_0 h (AF0) ([]) (fun k1 h => ?_) (fun  h => ?_)
  · refine k_seq ?_
    refine k_reg .free hmixP (by kernel_rfl) ?_
    refine G_q rfl (op_move (av := .row 1 c_int a0) rfl ?_)
    refine G_q rfl (op_len_row (by kernel_rfl) rfl ?_)
    refine G_q rfl (op_move (av := .exact (.int .i64 0)) rfl ?_)
    refine G_nil ?_
    refine kC_normal ?_
    refine k_block ?_
    refine k_loop1_0 (m_slices_Index_L_int_int_L2 a0 a1 k1) (m_slices_Index_L_int_int_B2 a0 a1 k1) (fun _ => rfl) (fun m _ => rfl) h (fun (x8_l2 : Int) => (AF.put (AF.put (AF.put (AF.put AF0 (some 0) (.row 1 c_int a0)) (some 1) (.exact (.int .i64 a1))) (some 7) (.exact (.int .i64 (List.length a0 : Int)))) (some 8) (.exact (.int .i64 x8_l2)))) (fun (x8_l2 : Int) => []) ?_ (fun rec2 x8_l2 h => ?_)
    · exact Sub.of_le (AF.le_put (AV.le_eq rfl) (AF.le_put (AV.le_eq rfl) (AF.le_put (AV.le_eq rfl) (AF.le_put (AV.le_eq rfl) (AF.le_top _)))))
    · unfold m_slices_Index_L_int_int_B2 at h
      refine k_seq ?_
      refine k_reg .free hmixP (by kernel_rfl) ?_
      refine G_q rfl (op_lss rfl rfl ?_)
      refine G_nil ?_
      refine kC_normal ?_
      refine k_seq ?_
      refine k_cond_d (p := x8_l2 < (List.length a0 : Int)) rfl (fun hc => ?_) (fun hc => ?_)
      · replace h := ite_t h hc
        refine k_skip ?_
        refine kC_normal ?_
        refine k_seq ?_
        refine k_block ?_
        refine k_seq ?_
        refine k_reg .free hmixP (by kernel_rfl) ?_
        refine G_q rfl (op_move (av := .exact (.int .i64 x8_l2)) rfl ?_)
        refine G_q rfl (op_assign (av := .exact (.int .i64 x8_l2)) rfl ?_)
        refine G_nil ?_
        refine kC_normal ?_
        refine k_seq ?_
        refine k_reg .free hmixP (by kernel_rfl) ?_
        refine G_q rfl (op_move (av := .exact (.int .i64 a1)) rfl ?_)
        refine G_q rfl (op_move (av := .row 1 c_int a0) rfl ?_)
        refine G_q rfl (op_move (av := .exact (.int .i64 x8_l2)) rfl ?_)
        obtain ⟨n8, h⟩ := need_some h
        refine G_q rfl (op_index_row (by kernel_rfl) rfl rfl n8.1 n8.2 ?_)
        refine G_q rfl (op_load1p (a := .exact (.int .i64 (gi a0 x8_l2))) (by kernel_rfl) rfl rfl ?_)
        refine G_q rfl (op_eql rfl rfl ?_)
        refine G_nil ?_
        refine kC_normal ?_
        refine k_cond_d (p := a1 = (gi a0 x8_l2)) rfl (fun hc => ?_) (fun hc => ?_)
        · replace h := ite_t h hc
          refine k_seq ?_
          refine k_reg .free hmixP (by kernel_rfl) ?_
          refine G_q rfl (op_move (av := .exact (.int .i64 x8_l2)) rfl ?_)
          refine G_q rfl (op_assign (av := .exact (.int .i64 x8_l2)) rfl ?_)
          refine G_nil ?_
          refine kC_normal ?_
          refine k_ret ?_
          refine kB_ret ?_
          refine kC_ret ?_
          refine kI_ret ?_
          refine kB_ret ?_
          refine kI_ret ?_
          obtain rfl := Option.some.inj h
          refine kP_any (endN (af' := (AF.put AF0 (some 4) (.exact (.int .i64 x8_l2)))) (σ' := []) _ rfl ?_ ⟨rfl, rfl⟩)
          exact Sub.of_le (AF.le_put (AV.le_eq rfl) (AF.le_top _))
        · replace h := ite_f h hc
          refine k_skip ?_
          refine kB_normal ?_
          refine kC_normal ?_
          refine k_reg .free hmixP (by kernel_rfl) ?_
          refine G_q rfl (op_add rfl rfl rfl ?_)
          refine G_q rfl (op_move (av := .exact (.int .i64 (i64 (x8_l2 + 1)))) rfl ?_)
          refine G_nil ?_
          refine kI_normal ⟨_, h, ?_⟩
          exact Sub.of_le (AF.le_put (AV.le_eq rfl) (AF.le_put (AV.le_eq rfl) (AF.le_put (AV.le_eq rfl) (AF.le_put (AV.le_eq rfl) (AF.le_top _)))))
      · replace h := ite_f h hc
        refine k_exit ?_
        refine kC_exit ?_
        refine kI_exit ?_
        refine kB_exit ?_
        refine kI_normal ⟨h, ?_⟩
        exact Sub.of_le (AF.le_top _)
  · refine k_seq ?_
    refine k_reg .free hmixP (by kernel_rfl) ?_
    refine G_q rfl (op_assign (av := .exact (.int .i64 (-1))) rfl ?_)
    refine G_nil ?_
    refine kC_normal ?_
    refine k_ret ?_
    obtain rfl := Option.some.inj h
    refine kP_any (endN (af' := (AF.put AF0 (some 4) (.exact (.int .i64 (-1))))) (σ' := []) _ rfl ?_ ⟨rfl, rfl⟩)
    exact Sub.of_le (AF.le_put (AV.le_eq rfl) (AF.le_top _))
set_option maxHeartbeats 4000000 in
theorem m_slices_Contains_L_int_int_ok (a0 : List Int) (a1 : Int) (r : Bool) (h : m_slices_Contains_L_int_int a0 a1 = some r) : Pure Try.prog 76 [(.row 1 c_int a0), (.exact (.int .i64 a1))] (.exact (.bool r)) := by
  unfold m_slices_Contains_L_int_int at h
  refine Pure.ofFun (fun_of_awp Try.func76 rfl Try.ntmps76 (by simp) rfl (res1 rfl) fun E hE => k_end ?_)
  refine k_seq ?_
  refine k_reg .free hmixP (by kernel_rfl) ?_
  refine G_q rfl (op_assign (av := .exact (.bool false)) rfl ?_)
  refine G_nil ?_
  refine kC_normal ?_
  refine k_seq ?_
  refine k_reg .free hmixP (by kernel_rfl) ?_
  refine G_q rfl (op_move (av := .row 1 c_int a0) rfl ?_)
  refine G_q rfl (op_move (av := .exact (.int .i64 a1)) rfl ?_)
  obtain ⟨y1, hy1, h⟩ := bnd1_some h
  refine G_q rfl (op_pure (m_slices_Index_L_int_int_ok _ _ _ hy1) Try.func87 (by kernel_rfl) (LEs.cons (AV.le_eq rfl) (LEs.cons (AV.le_eq rfl) LEs.nil)) ?_)
  refine G_q rfl (op_geq rfl rfl ?_)
  refine G_q rfl (op_assign (av := .exact (.bool (decide (0 ≤ y1)))) rfl ?_)
  refine G_nil ?_
  refine kC_normal ?_
  refine k_ret ?_
  obtain rfl := Option.some.inj h
  refine kP_any (endN (af' := (AF.put AF0 (some 4) (.exact (.bool (decide (0 ≤ y1)))))) (σ' := []) _ rfl ?_ ⟨rfl, rfl⟩)
  exact Sub.of_le (AF.le_put (AV.le_eq rfl) (AF.le_top _))
set_option maxHeartbeats 4000000 in
theorem m_alphabet_beaten_ok (a0 : List (Int × Int)) (a1 : List Int) (a2 : Int) (r : Bool) (h : m_alphabet_beaten a0 a1 a2 = some r) : Pure Try.prog 63 [(.row 2 c_api_Above a0), (.row 1 c_int a1), (.exact (.int .i64 a2))] (.exact (.bool r)) := by
  unfold m_alphabet_beaten at h
  refine Pure.ofFun (fun_of_awp Try.func63 rfl Try.ntmps63 (by simp) rfl (res1 rfl) fun E hE => k_end ?_)
  refine k_seq ?_
  refine k_reg .free hmixP (by kernel_rfl) ?_
  refine G_q rfl (op_assign (av := .exact (.bool false)) rfl ?_)
  refine G_nil ?_
  refine kC_normal ?_
  refine k_join1_0 h (fun (x7_j1 : Bool) => (AF.put (AF.put (AF.put (AF.put AF0 (some 0) (.row 2 c_api_Above a0)) (some 1) (.row 1 c_int a1)) (some 2) (.exact (.int .i64 a2))) (some 7) (.exact (.bool x7_j1)))) (fun (x7_j1 : Bool) => []) (fun k1 h => ?_) (fun x7_j1 h => ?_)
  · refine k_reg .free hmixP (by kernel_rfl) ?_
    refine G_q rfl (op_move (av := .row 1 c_int a1) rfl ?_)
    obtain ⟨y4, hy4, h⟩ := bnd1_some h
    refine G_q rfl (op_pure (m_slices_Contains_L_int_int_ok _ _ _ hy4) Try.func76 (by kernel_rfl) (LEs.cons (AV.le_eq rfl) (LEs.cons (AV.le_eq rfl) LEs.nil)) ?_)
    refine G_q rfl (op_move (av := .exact (.bool y4)) rfl ?_)
    refine G_splitB (c := y4) 12 rfl (fun hc => ?_) (fun hc => ?_)
    · replace h := ite_t h hc
      refine G_n rfl rfl ?_
      refine G_n rfl rfl ?_
      refine G_q rfl (op_pick_t rfl (av := .exact (.bool true)) rfl ?_)
      refine G_q rfl (op_assign (av := .exact (.bool true)) rfl ?_)
      refine G_nil ?_
      refine kI_normal ⟨_, h, ?_⟩
      exact Sub.of_le (AF.le_put (AV.le_eq rfl) (AF.le_put (AV.le_eq rfl) (AF.le_put (AV.le_eq rfl) (AF.le_put (AV.le_eq rfl) (AF.le_top _)))))
    · replace h := ite_f h hc
      refine Gy_q rfl rfl rfl (op_move (av := .row 1 c_int a1) rfl ?_)
      obtain ⟨y5, hy5, h⟩ := bnd1_some h
      refine Gy_q rfl rfl rfl (op_pure (m_slices_Contains_L_int_int_ok _ _ _ hy5) Try.func76 (by kernel_rfl) (LEs.cons (AV.le_eq rfl) (LEs.cons (AV.le_eq rfl) LEs.nil)) ?_)
      refine G_q rfl (op_pick_f rfl (av := .exact (.bool y5)) rfl ?_)
      refine G_q rfl (op_assign (av := .exact (.bool y5)) rfl ?_)
      refine G_nil ?_
      refine kI_normal ⟨_, h, ?_⟩
      exact Sub.of_le (AF.le_put (AV.le_eq rfl) (AF.le_put (AV.le_eq rfl) (AF.le_put (AV.le_eq rfl) (AF.le_put (AV.le_eq rfl) (AF.le_top _)))))
  · refine k_join0_0 h (AF0) ([]) (fun k6 h => ?_) (fun  h => ?_)
    · refine k_seq ?_
      refine k_reg .free hmixP (by kernel_rfl) ?_
      refine G_q rfl (op_move (av := .row 2 c_api_Above a0) rfl ?_)
      refine G_q rfl (op_len_row (by kernel_rfl) rfl ?_)
      refine G_q rfl (op_move (av := .exact (.int .i64 0)) rfl ?_)
      refine G_nil ?_
      refine kC_normal ?_
      refine k_block ?_
      refine k_loop1_0 (m_alphabet_beaten_L2 a0 a1 a2 x7_j1 k6) (m_alphabet_beaten_B2 a0 a1 a2 x7_j1 k6) (fun _ => rfl) (fun m _ => rfl) h (fun (x18_l2 : Int) => (AF.put (AF.put (AF.put (AF.put (AF.put (AF.put AF0 (some 1) (.row 1 c_int a1)) (some 2) (.exact (.int .i64 a2))) (some 7) (.exact (.bool x7_j1))) (some 16) (.row 2 c_api_Above a0)) (some 17) (.exact (.int .i64 (List.length a0 : Int)))) (some 18) (.exact (.int .i64 x18_l2)))) (fun (x18_l2 : Int) => []) ?_ (fun rec2 x18_l2 h => ?_)
      · exact Sub.of_le (AF.le_put (AV.le_eq rfl) (AF.le_put (AV.le_eq rfl) (AF.le_put (AV.le_eq rfl) (AF.le_put (AV.le_eq rfl) (AF.le_put (AV.le_eq rfl) (AF.le_put (AV.le_eq rfl) (AF.le_top _)))))))
      · unfold m_alphabet_beaten_B2 at h
        refine k_seq ?_
        refine k_reg .free hmixP (by kernel_rfl) ?_
        refine G_q rfl (op_lss rfl rfl ?_)
        refine G_nil ?_
        refine kC_normal ?_
        refine k_seq ?_
        refine k_cond_d (p := x18_l2 < (List.length a0 : Int)) rfl (fun hc => ?_) (fun hc => ?_)
        · replace h := ite_t h hc
          refine k_skip ?_
          refine kC_normal ?_
          refine k_seq ?_
          refine k_block ?_
          refine k_seq ?_
          refine k_reg .free hmixP (by kernel_rfl) ?_
          obtain ⟨n69, h⟩ := need_some h
          refine G_q rfl (op_index_row (by kernel_rfl) rfl rfl n69.1 n69.2 ?_)
          refine G_q rfl (op_loadNp (m := 2) (c' := c_api_Above (gi a0 x18_l2)) (by kernel_rfl) rfl rfl rfl ?_)
          refine G_l rfl (op_alloc (c := [.exact (.int .i64 ((0, 0).1)), .exact (.int .i64 ((0, 0).2))]) rfl (LEs.cons (AV.le_eq rfl) (LEs.cons (AV.le_eq rfl) LEs.nil)) (fun b70 => ?_))
          refine G_l rfl (op_store_box (c' := [.exact (.int .i64 ((gi a0 x18_l2).1)), .exact (.int .i64 ((gi a0 x18_l2).2))]) (c3 := [.exact (.int .i64 ((gi a0 x18_l2).1)), .exact (.int .i64 ((gi a0 x18_l2).2))]) rfl rfl CellsOf.agg (LEs.cons (AV.le_eq rfl) (LEs.cons (AV.le_eq rfl) LEs.nil)) (oc_c_api_Above _) (by kernel_rfl) (Nat.le_of_ble_eq_true rfl) rfl ?_)
          refine G_nil ?_
          refine kC_normal ?_
          refine k_join1_0 h (fun (x34_j71 : Bool) => (AF.put (AF.put (AF.put (AF.put (AF.put (AF.put (AF.put AF0 (some 1) (.row 1 c_int a1)) (some 2) (.exact (.int .i64 a2))) (some 7) (.exact (.bool x7_j1))) (some 16) (.row 2 c_api_Above a0)) (some 17) (.exact (.int .i64 (List.length a0 : Int)))) (some 18) (.exact (.int .i64 x18_l2))) (some 34) (.exact (.bool x34_j71)))) (fun (x34_j71 : Bool) => []) (fun k71 h => ?_) (fun x34_j71 h => ?_)
          · refine k_reg .free hmixP (by kernel_rfl) ?_
            refine G_q rfl (op_fieldAddr (o := 0) (by kernel_rfl) rfl ?_)
            refine G_r rfl (op_load_box1 (a := .exact (.int .i64 ((gi a0 x18_l2).1))) (by kernel_rfl) rfl rfl ?_)
            refine G_q rfl (op_move (av := .exact (.int .i64 a2)) rfl ?_)
            refine G_q rfl (op_eql rfl rfl ?_)
            refine G_q rfl (op_move (av := .exact (.bool (decide (((gi a0 x18_l2).1) = a2)))) rfl ?_)
            refine G_split (p := ((gi a0 x18_l2).1) = a2) 26 rfl (fun hc => ?_) (fun hc => ?_)
            · replace h := ite_t h hc
              refine Gy_q rfl rfl rfl (op_move (av := .exact (.bool x7_j1)) rfl ?_)
              refine Gy_q rfl rfl rfl (op_move (av := .exact (.bool x7_j1)) rfl ?_)
              refine G_splitB (c := x7_j1) 28 rfl (fun hc => ?_) (fun hc => ?_)
              · replace h := ite_t h hc
                refine G_n rfl rfl ?_
                refine G_n rfl rfl ?_
                refine G_n rfl rfl ?_
                refine G_n rfl rfl ?_
                refine Gy_q rfl rfl rfl (op_pick_t rfl (av := .exact (.bool true)) rfl ?_)
                refine G_q rfl (op_pick_t rfl (av := .exact (.bool true)) rfl ?_)
                refine G_nil ?_
                refine kI_normal ⟨_, h, ?_⟩
                refine Sub.trans (SubU.to SubU.drop) ?_
                exact Sub.of_le (AF.le_put (AV.le_eq rfl) (AF.le_put (AV.le_eq rfl) (AF.le_put (AV.le_eq rfl) (AF.le_put (AV.le_eq rfl) (AF.le_put (AV.le_eq rfl) (AF.le_put (AV.le_eq rfl) (AF.le_put (AV.le_eq rfl) (AF.le_top _))))))))
              · replace h := ite_f h hc
                refine Gy_q rfl rfl rfl (op_move (av := .row 1 c_int a1) rfl ?_)
                refine Gy_q rfl rfl rfl (op_fieldAddr (o := 1) (by kernel_rfl) rfl ?_)
                refine Gy_r rfl rfl rfl (op_load_box1 (a := .exact (.int .i64 ((gi a0 x18_l2).2))) (by kernel_rfl) rfl rfl ?_)
                obtain ⟨y73, hy73, h⟩ := bnd1_some h
                refine Gy_q rfl rfl rfl (op_pure (m_slices_Contains_L_int_int_ok _ _ _ hy73) Try.func76 (by kernel_rfl) (LEs.cons (AV.le_eq rfl) (LEs.cons (AV.le_eq rfl) LEs.nil)) ?_)
                refine Gy_q rfl rfl rfl (op_pick_f rfl (av := .exact (.bool y73)) rfl ?_)
                refine G_q rfl (op_pick_t rfl (av := .exact (.bool y73)) rfl ?_)
                refine G_nil ?_
                refine kI_normal ⟨_, h, ?_⟩
                refine Sub.trans (SubU.to SubU.drop) ?_
                exact Sub.of_le (AF.le_put (AV.le_eq rfl) (AF.le_put (AV.le_eq rfl) (AF.le_put (AV.le_eq rfl) (AF.le_put (AV.le_eq rfl) (AF.le_put (AV.le_eq rfl) (AF.le_put (AV.le_eq rfl) (AF.le_put (AV.le_eq rfl) (AF.le_top _))))))))
            · replace h := ite_f h hc
              refine G_n rfl rfl ?_
              refine G_n rfl rfl ?_
              refine G_u rfl rfl ?_
              refine G_u rfl rfl ?_
              refine G_u rfl rfl ?_
              refine G_u rfl rfl ?_
              refine G_n rfl rfl ?_
              refine G_q rfl (op_pick_f rfl (av := .exact (.bool false)) rfl ?_)
              refine G_nil ?_
              refine kI_normal ⟨_, h, ?_⟩
              refine Sub.trans (SubU.to SubU.drop) ?_
              exact Sub.of_le (AF.le_put (AV.le_eq rfl) (AF.le_put (AV.le_eq rfl) (AF.le_put (AV.le_eq rfl) (AF.le_put (AV.le_eq rfl) (AF.le_put (AV.le_eq rfl) (AF.le_put (AV.le_eq rfl) (AF.le_put (AV.le_eq rfl) (AF.le_top _))))))))
          · refine k_cond_b (c := x34_j71) rfl (fun hc => ?_) (fun hc => ?_)
            · replace h := ite_t h hc
              refine k_seq ?_
              refine k_reg .free hmixP (by kernel_rfl) ?_
              refine G_q rfl (op_assign (av := .exact (.bool true)) rfl ?_)
              refine G_nil ?_
              refine kC_normal ?_
              refine k_ret ?_
              refine kB_ret ?_
              refine kC_ret ?_
              refine kI_ret ?_
              refine kB_ret ?_
              refine kI_ret ?_
              obtain rfl := Option.some.inj h
              refine kP_any (endN (af' := (AF.put AF0 (some 6) (.exact (.bool true)))) (σ' := []) _ rfl ?_ ⟨rfl, rfl⟩)
              exact Sub.of_le (AF.le_put (AV.le_eq rfl) (AF.le_top _))
            · replace h := ite_f h hc
              refine k_skip ?_
              refine kB_normal ?_
              refine kC_normal ?_
              refine k_reg .free hmixP (by kernel_rfl) ?_
              refine G_q rfl (op_add rfl rfl rfl ?_)
              refine G_q rfl (op_move (av := .exact (.int .i64 (i64 (x18_l2 + 1)))) rfl ?_)
              refine G_nil ?_
              refine kI_normal ⟨_, h, ?_⟩
              exact Sub.of_le (AF.le_put (AV.le_eq rfl) (AF.le_put (AV.le_eq rfl) (AF.le_put (AV.le_eq rfl) (AF.le_put (AV.le_eq rfl) (AF.le_put (AV.le_eq rfl) (AF.le_put (AV.le_eq rfl) (AF.le_top _)))))))
        · replace h := ite_f h hc
          refine k_exit ?_
          refine kC_exit ?_
          refine kI_exit ?_
          refine kB_exit ?_
          refine kI_normal ⟨h, ?_⟩
          exact Sub.of_le (AF.le_top _)
    · refine k_seq ?_
      refine k_reg .free hmixP (by kernel_rfl) ?_
      refine G_q rfl (op_assign (av := .exact (.bool false)) rfl ?_)
      refine G_nil ?_
      refine kC_normal ?_
      refine k_ret ?_
      obtain rfl := Option.some.inj h
      refine kP_any (endN (af' := (AF.put AF0 (some 6) (.exact (.bool false)))) (σ' := []) _ rfl ?_ ⟨rfl, rfl⟩)
      exact Sub.of_le (AF.le_put (AV.le_eq rfl) (AF.le_top _))
set_option maxHeartbeats 4000000 in
theorem m_alphabet_Keep_1_ok (a0 : Int) (a1 : List (Int × Int)) (a2 : List Int) (r : Bool) (h : m_alphabet_Keep_1 a0 a1 a2 = some r) : Pure Try.prog 62 [(.exact (.int .i64 a0)), (.ptr [.row 2 c_api_Above a1]), (.ptr [.row 1 c_int a2])] (.exact (.bool r)) := by
  unfold m_alphabet_Keep_1 at h
  refine Pure.ofFun (fun_of_awp Try.func62 rfl Try.ntmps62 (by simp) rfl (res1 rfl) fun E hE => k_end ?_)
  refine k_seq ?_
  refine k_reg .free hmixP (by kernel_rfl) ?_
  refine G_q rfl (op_assign (av := .exact (.bool false)) rfl ?_)
  refine G_nil ?_
  refine kC_normal ?_
  refine k_seq ?_
  refine k_reg .free hmixP (by kernel_rfl) ?_
  refine G_q rfl (op_load1p (a := .row 2 c_api_Above a1) (by kernel_rfl) rfl rfl ?_)
  refine G_q rfl (op_load1p (a := .row 1 c_int a2) (by kernel_rfl) rfl rfl ?_)
  refine G_q rfl (op_move (av := .exact (.int .i64 a0)) rfl ?_)
  obtain ⟨y1, hy1, h⟩ := bnd1_some h
  refine G_q rfl (op_pure (m_alphabet_beaten_ok _ _ _ _ hy1) Try.func63 (by kernel_rfl) (LEs.cons (AV.le_eq rfl) (LEs.cons (AV.le_eq rfl) (LEs.cons (AV.le_eq rfl) LEs.nil))) ?_)
  refine G_q rfl (op_assign (av := .exact (.bool y1)) rfl ?_)
  refine G_nil ?_
  refine kC_normal ?_
  refine k_ret ?_
  obtain rfl := Option.some.inj h
  refine kP_any (endN (af' := (AF.put AF0 (some 4) (.exact (.bool y1)))) (σ' := []) _ rfl ?_ ⟨rfl, rfl⟩)
  exact Sub.of_le (AF.le_put (AV.le_eq rfl) (AF.le_top _))
set_option maxHeartbeats 4000000 in
theorem m_slices_IndexFunc_L_int_int_ok (a0 : List Int) (a1 : Int → Option Bool) (r : Int) (h : m_slices_IndexFunc_L_int_int a0 a1 = some r) : Pure Try.prog 84 [(.row 1 c_int a0), (.fn Try.prog (fun (i : Int) => [.exact (.int .i64 i)]) (fun (i : Int) => a1 i) (fun (r : Bool) => .exact (.bool r)))] (.exact (.int .i64 r)) := by
  unfold m_slices_IndexFunc_L_int_int at h
  refine Pure.ofFun (fun_of_awp Try.func84 rfl Try.ntmps84 (by simp) rfl (res1 rfl) fun E hE => k_end ?_)
  refine k_seq ?_
  refine k_reg .free hmixP (by kernel_rfl) ?_
  refine G_q rfl (op_assign (av := .exact (.int .i64 0)) rfl ?_)
  refine G_nil ?_
  refine kC_normal ?_
  refine k_join0_0 h (AF0) ([]) (fun k1 h => ?_) (fun  h => ?_)
  · refine k_seq ?_
    refine k_reg .free hmixP (by kernel_rfl) ?_
    refine G_q rfl (op_move (av := .row 1 c_int a0) rfl ?_)
    refine G_q rfl (op_len_row (by kernel_rfl) rfl ?_)
    refine G_q rfl (op_move (av := .exact (.int .i64 0)) rfl ?_)
    refine G_nil ?_
    refine kC_normal ?_
    refine k_block ?_
    refine k_loop1_0 (m_slices_IndexFunc_L_int_int_L2 a0 a1 k1) (m_slices_IndexFunc_L_int_int_B2 a0 a1 k1) (fun _ => rfl) (fun m _ => rfl) h (fun (x8_l2 : Int) => (AF.put (AF.put (AF.put (AF.put AF0 (some 0) (.row 1 c_int a0)) (some 1) (.fn Try.prog (fun (i : Int) => [.exact (.int .i64 i)]) (fun (i : Int) => a1 i) (fun (r : Bool) => .exact (.bool r)))) (some 7) (.exact (.int .i64 (List.length a0 : Int)))) (some 8) (.exact (.int .i64 x8_l2)))) (fun (x8_l2 : Int) => []) ?_ (fun rec2 x8_l2 h => ?_)
    · exact Sub.of_le (AF.le_put (AV.le_eq rfl) (AF.le_put (AV.le_eq rfl) (AF.le_put (AV.le_eq rfl) (AF.le_put (AV.le_eq rfl) (AF.le_top _)))))
    · unfold m_slices_IndexFunc_L_int_int_B2 at h
      refine k_seq ?_
      refine k_reg .free hmixP (by kernel_rfl) ?_
      refine G_q rfl (op_lss rfl rfl ?_)
      refine G_nil ?_
      refine kC_normal ?_
      refine k_seq ?_
      refine k_cond_d (p := x8_l2 < (List.length a0 : Int)) rfl (fun hc => ?_) (fun hc => ?_)
      · replace h := ite_t h hc
        refine k_skip ?_
        refine kC_normal ?_
        refine k_seq ?_
        refine k_block ?_
        refine k_seq ?_
        refine k_reg .free hmixP (by kernel_rfl) ?_
        refine G_q rfl (op_move (av := .exact (.int .i64 x8_l2)) rfl ?_)
        refine G_q rfl (op_assign (av := .exact (.int .i64 x8_l2)) rfl ?_)
        refine G_nil ?_
        refine kC_normal ?_
        refine k_seq ?_
        refine k_reg .free hmixP (by kernel_rfl) ?_
        refine G_q rfl (op_move (av := .fn Try.prog (fun (i : Int) => [.exact (.int .i64 i)]) (fun (i : Int) => a1 i) (fun (r : Bool) => .exact (.bool r))) rfl ?_)
        refine G_q rfl (op_move (av := .row 1 c_int a0) rfl ?_)
        refine G_q rfl (op_move (av := .exact (.int .i64 x8_l2)) rfl ?_)
        obtain ⟨n13, h⟩ := need_some h
        refine G_q rfl (op_index_row (by kernel_rfl) rfl rfl n13.1 n13.2 ?_)
        refine G_q rfl (op_load1p (a := .exact (.int .i64 (gi a0 x8_l2))) (by kernel_rfl) rfl rfl ?_)
        obtain ⟨y14, hy14, h⟩ := bnd1_some h
        refine G_q rfl (op_callfn (gi a0 x8_l2) rfl hy14 (LEs.cons (AV.le_eq rfl) LEs.nil) ?_)
        refine G_nil ?_
        refine kC_normal ?_
        refine k_cond_b (c := y14) rfl (fun hc => ?_) (fun hc => ?_)
        · replace h := ite_t h hc
          refine k_seq ?_
          refine k_reg .free hmixP (by kernel_rfl) ?_
          refine G_q rfl (op_move (av := .exact (.int .i64 x8_l2)) rfl ?_)
          refine G_q rfl (op_assign (av := .exact (.int .i64 x8_l2)) rfl ?_)
          refine G_nil ?_
          refine kC_normal ?_
          refine k_ret ?_
          refine kB_ret ?_
          refine kC_ret ?_
          refine kI_ret ?_
          refine kB_ret ?_
          refine kI_ret ?_
          obtain rfl := Option.some.inj h
          refine kP_any (endN (af' := (AF.put AF0 (some 4) (.exact (.int .i64 x8_l2)))) (σ' := []) _ rfl ?_ ⟨rfl, rfl⟩)
          exact Sub.of_le (AF.le_put (AV.le_eq rfl) (AF.le_top _))
        · replace h := ite_f h hc
          refine k_skip ?_
          refine kB_normal ?_
          refine kC_normal ?_
          refine k_reg .free hmixP (by kernel_rfl) ?_
          refine G_q rfl (op_add rfl rfl rfl ?_)
          refine G_q rfl (op_move (av := .exact (.int .i64 (i64 (x8_l2 + 1)))) rfl ?_)
          refine G_nil ?_
          refine kI_normal ⟨_, h, ?_⟩
          exact Sub.of_le (AF.le_put (AV.le_eq rfl) (AF.le_put (AV.le_eq rfl) (AF.le_put (AV.le_eq rfl) (AF.le_put (AV.le_eq rfl) (AF.le_top _)))))
      · replace h := ite_f h hc
        refine k_exit ?_
        refine kC_exit ?_
        refine kI_exit ?_
        refine kB_exit ?_
        refine kI_normal ⟨h, ?_⟩
        exact Sub.of_le (AF.le_top _)
  · refine k_seq ?_
    refine k_reg .free hmixP (by kernel_rfl) ?_
    refine G_q rfl (op_assign (av := .exact (.int .i64 (-1))) rfl ?_)
    refine G_nil ?_
    refine kC_normal ?_
    refine k_ret ?_
    obtain rfl := Option.some.inj h
    refine kP_any (endN (af' := (AF.put AF0 (some 4) (.exact (.int .i64 (-1))))) (σ' := []) _ rfl ?_ ⟨rfl, rfl⟩)
    exact Sub.of_le (AF.le_put (AV.le_eq rfl) (AF.le_top _))
set_option maxHeartbeats 4000000 in
theorem m_slices_DeleteFunc_L_int_int_ok {w0 : Value} (a0 : List Int) (a1 : Int → Option Bool) (r : (List Int)) (h : m_slices_DeleteFunc_L_int_int a0 a1 = some r) : Fun Try.prog 61 [(.exact w0), (.fn Try.prog (fun (i : Int) => [.exact (.int .i64 i)]) (fun (i : Int) => a1 i) (fun (r : Bool) => .exact (.bool r)))] [vecT Try.prog 23 1 c_int w0 a0] (fun a s => ∃ z0, a = .exact z0 ∧ s = [vecT Try.prog 23 1 c_int z0 r]) := by
  unfold m_slices_DeleteFunc_L_int_int at h
  refine fun_of_awp Try.func61 rfl Try.ntmps61 (by simp) rfl (res1 rfl) fun E hE => k_end ?_
  refine k_seq ?_
  refine k_reg .free hmixP (by kernel_rfl) ?_
  refine G_q rfl (op_assign (av := .exact (.slice none 0 0)) rfl ?_)
  refine G_nil ?_
  refine kC_normal ?_
  refine k_seq ?_
  refine k_reg .free hmixP (by kernel_rfl) ?_
  refine G_q rfl (op_move (av := .exact w0) rfl ?_)
  refine G_q rfl (op_move (av := .fn Try.prog (fun (i : Int) => [.exact (.int .i64 i)]) (fun (i : Int) => a1 i) (fun (r : Bool) => .exact (.bool r))) rfl ?_)
  obtain ⟨y1, hy1, h⟩ := bnd1_some h
  refine G_r rfl (op_borrow (m_slices_IndexFunc_L_int_int_ok _ _ _ hy1) Try.func84 (by kernel_rfl) MI.exact (Bors.cons (Bor.vec (List.Mem.head _) len_c_int) (Bors.cons (Bor.le (AV.le_eq rfl)) Bors.nil)) ?_)
  refine G_q rfl (op_assign (av := .exact (.int .i64 y1)) rfl ?_)
  refine G_nil ?_
  refine kC_normal ?_
  refine k_seq ?_
  refine k_seq ?_
  refine k_reg .free hmixP (by kernel_rfl) ?_
  refine G_q rfl (op_move (av := .exact (.int .i64 y1)) rfl ?_)
  refine G_q rfl (op_eql rfl rfl ?_)
  refine G_nil ?_
  refine kC_normal ?_
  refine k_cond_d (p := y1 = (-1)) rfl (fun hc => ?_) (fun hc => ?_)
  · replace h := ite_t h hc
    refine k_seq ?_
    refine k_reg .free hmixP (by kernel_rfl) ?_
    refine G_q rfl (op_move (av := .exact w0) rfl ?_)
    refine G_q rfl (op_assign (av := .exact w0) rfl ?_)
    refine G_nil ?_
    refine kC_normal ?_
    refine k_ret ?_
    refine kC_ret ?_
    obtain rfl := Option.some.inj h
    refine kP_any (endN (af' := (AF.put AF0 (some 4) (.exact w0))) (σ' := [vecT Try.prog 23 1 c_int w0 a0]) _ rfl ?_ ⟨w0, rfl, rfl⟩)
    exact Sub.of_le (AF.le_put (AV.le_eq rfl) (AF.le_top _))
  · replace h := ite_f h hc
    refine k_skip ?_
    refine kC_normal ?_
    refine k_join2_0 h (fun (x0_j2 : List Int) (x5_j2 : Int) => (AF.put (AF.put AF0 (some 0) (.exact w0)) (some 5) (.exact (.int .i64 x5_j2)))) (fun (x0_j2 : List Int) (x5_j2 : Int) => [vecT Try.prog 23 1 c_int w0 x0_j2]) (fun k2 h => ?_) (fun x0_j2 x5_j2 h => ?_)
    · refine k_seq ?_
      refine k_reg .free hmixP (by kernel_rfl) ?_
      refine G_q rfl (op_move (av := .exact (.int .i64 y1)) rfl ?_)
      refine G_q rfl (op_add rfl rfl rfl ?_)
      refine G_q rfl (op_assign (av := .exact (.int .i64 (i64 (y1 + 1)))) rfl ?_)
      refine G_nil ?_
      refine kC_normal ?_
      refine k_block ?_
      refine k_loop3_0 (m_slices_DeleteFunc_L_int_int_L2 a1 k2) (m_slices_DeleteFunc_L_int_int_B2 a1 k2) (fun _ _ _ => rfl) (fun m _ _ _ => rfl) h (fun (x0_l2 : List Int) (x5_l2 : Int) (x6_l2 : Int) => (AF.put (AF.put (AF.put (AF.put AF0 (some 0) (.exact w0)) (some 1) (.fn Try.prog (fun (i : Int) => [.exact (.int .i64 i)]) (fun (i : Int) => a1 i) (fun (r : Bool) => .exact (.bool r)))) (some 5) (.exact (.int .i64 x5_l2))) (some 6) (.exact (.int .i64 x6_l2)))) (fun (x0_l2 : List Int) (x5_l2 : Int) (x6_l2 : Int) => [vecT Try.prog 23 1 c_int w0 x0_l2]) ?_ (fun rec2 x0_l2 x5_l2 x6_l2 h => ?_)
      · exact Sub.of_le (AF.le_put (AV.le_eq rfl) (AF.le_put (AV.le_eq rfl) (AF.le_put (AV.le_eq rfl) (AF.le_put (AV.le_eq rfl) (AF.le_top _)))))
      · unfold m_slices_DeleteFunc_L_int_int_B2 at h
        refine k_seq ?_
        refine k_seq ?_
        refine k_reg .free hmixP (by kernel_rfl) ?_
        refine G_q rfl (op_move (av := .exact (.int .i64 x6_l2)) rfl ?_)
        refine G_q rfl (op_move (av := .exact w0) rfl ?_)
        refine G_r rfl (op_len_vec (by kernel_rfl) rfl ?_)
        refine G_q rfl (op_lss rfl rfl ?_)
        refine G_nil ?_
        refine kC_normal ?_
        refine k_cond_d (p := x6_l2 < (List.length x0_l2 : Int)) rfl (fun hc => ?_) (fun hc => ?_)
        · replace h := ite_t h hc
          refine k_skip ?_
          refine kC_normal ?_
          refine k_join2_0 h (fun (x0_j39 : List Int) (x5_j39 : Int) => (AF.put (AF.put (AF.put (AF.put AF0 (some 0) (.exact w0)) (some 1) (.fn Try.prog (fun (i : Int) => [.exact (.int .i64 i)]) (fun (i : Int) => a1 i) (fun (r : Bool) => .exact (.bool r)))) (some 5) (.exact (.int .i64 x5_j39))) (some 6) (.exact (.int .i64 x6_l2)))) (fun (x0_j39 : List Int) (x5_j39 : Int) => [vecT Try.prog 23 1 c_int w0 x0_j39]) (fun k39 h => ?_) (fun x0_j39 x5_j39 h => ?_)
          · refine k_block ?_
            refine k_seq ?_
            refine k_reg .free hmixP (by kernel_rfl) ?_
            refine G_q rfl (op_move (av := .exact w0) rfl ?_)
            refine G_q rfl (op_move (av := .exact (.int .i64 x6_l2)) rfl ?_)
            obtain ⟨n43, h⟩ := need_some h
            refine G_r rfl (op_index_vec (by kernel_rfl) rfl rfl n43.1 n43.2 ?_)
            refine G_r rfl (op_load_vec1 (i := x6_l2) (o := 0) (a := .exact (.int .i64 (gi x0_l2 x6_l2))) (by kernel_rfl) len_c_int rfl n43.1 n43.2 rfl ?_)
            refine G_q rfl (op_assign (av := .exact (.int .i64 (gi x0_l2 x6_l2))) rfl ?_)
            refine G_nil ?_
            refine kC_normal ?_
            refine k_seq ?_
            refine k_reg .free hmixP (by kernel_rfl) ?_
            refine G_q rfl (op_move (av := .fn Try.prog (fun (i : Int) => [.exact (.int .i64 i)]) (fun (i : Int) => a1 i) (fun (r : Bool) => .exact (.bool r))) rfl ?_)
            refine G_q rfl (op_move (av := .exact (.int .i64 (gi x0_l2 x6_l2))) rfl ?_)
            obtain ⟨y44, hy44, h⟩ := bnd1_some h
            refine G_q rfl (op_callfn (gi x0_l2 x6_l2) rfl hy44 (LEs.cons (AV.le_eq rfl) LEs.nil) ?_)
            refine G_q rfl (op_not rfl ?_)
            refine G_nil ?_
            refine kC_normal ?_
            refine k_cond_b (c := !y44) rfl (fun hc => ?_) (fun hc => ?_)
            · replace h := ite_t h hc
              refine k_seq ?_
              refine k_reg .free hmixP (by kernel_rfl) ?_
              refine G_q rfl (op_move (av := .exact w0) rfl ?_)
              refine G_q rfl (op_move (av := .exact (.int .i64 x5_l2)) rfl ?_)
              refine G_q rfl (op_move (av := .exact (.int .i64 (gi x0_l2 x6_l2))) rfl ?_)
              obtain ⟨n45, h⟩ := need_some h
              refine G_r rfl (op_index_vec (by kernel_rfl) rfl rfl n45.1 n45.2 ?_)
              refine G_l rfl (op_store_vec (i := x5_l2) (o := 0) (z := gi x0_l2 x6_l2) (c' := [.exact (.int .i64 (gi x0_l2 x6_l2))]) (by kernel_rfl) len_c_int rfl n45.1 n45.2 rfl CellsOf.int (LEs.cons (AV.le_eq rfl) LEs.nil) (OneC.int OneC.nil) (by kernel_rfl) (Nat.le_of_ble_eq_true rfl) rfl ?_)
              refine G_nil ?_
              refine kC_normal ?_
              refine k_reg .free hmixP (by kernel_rfl) ?_
              refine G_q rfl (op_move (av := .exact (.int .i64 x5_l2)) rfl ?_)
              refine G_q rfl (op_add rfl rfl rfl ?_)
              refine G_q rfl (op_assign (av := .exact (.int .i64 (i64 (x5_l2 + 1)))) rfl ?_)
              refine G_nil ?_
              refine kB_normal ?_
              refine kI_normal ⟨_, _, h, ?_⟩
              exact Sub.of_le (AF.le_put (AV.le_eq rfl) (AF.le_put (AV.le_eq rfl) (AF.le_put (AV.le_eq rfl) (AF.le_put (AV.le_eq rfl) (AF.le_top _)))))
            · replace h := ite_f h hc
              refine k_skip ?_
              refine kB_normal ?_
              refine kI_normal ⟨_, _, h, ?_⟩
              exact Sub.of_le (AF.le_put (AV.le_eq rfl) (AF.le_put (AV.le_eq rfl) (AF.le_put (AV.le_eq rfl) (AF.le_put (AV.le_eq rfl) (AF.le_top _)))))
          · refine k_reg .free hmixP (by kernel_rfl) ?_
            refine G_q rfl (op_move (av := .exact (.int .i64 x6_l2)) rfl ?_)
            refine G_q rfl (op_add rfl rfl rfl ?_)
            refine G_q rfl (op_assign (av := .exact (.int .i64 (i64 (x6_l2 + 1)))) rfl ?_)
            refine G_nil ?_
            refine kI_normal ⟨_, _, _, h, ?_⟩
            exact Sub.of_le (AF.le_put (AV.le_eq rfl) (AF.le_put (AV.le_eq rfl) (AF.le_put (AV.le_eq rfl) (AF.le_put (AV.le_eq rfl) (AF.le_top _)))))
        · replace h := ite_f h hc
          refine k_exit ?_
          refine kC_exit ?_
          refine kI_exit ?_
          refine kB_exit ?_
          refine kI_normal ⟨_, _, h, ?_⟩
          exact Sub.of_le (AF.le_put (AV.le_eq rfl) (AF.le_put (AV.le_eq rfl) (AF.le_top _)))
    · refine k_seq ?_
      refine k_reg .free hmixP (by kernel_rfl) ?_
      refine G_q rfl (op_move (av := .exact w0) rfl ?_)
      refine G_q rfl (op_move (av := .exact (.int .i64 x5_j2)) rfl ?_)
      obtain ⟨n46, h⟩ := need_some h
      refine G_r rfl (op_slice_vec (by kernel_rfl) rfl (bnd_some rfl) bnd_none n46.1 n46.2.1 n46.2.2 ?_)
      refine G_l rfl (op_clear (zr := 0) (by kernel_rfl) len_c_int oc_c_int rfl (by have := n46; omega) Try.zeroValue3 (fun _ _ => (Fit.ex Fit.nil0)) ?_)
      refine G_nil ?_
      refine kC_normal ?_
      refine k_seq ?_
      refine k_reg .free hmixP (by kernel_rfl) ?_
      refine G_q rfl (op_move (av := .exact w0) rfl ?_)
      refine G_q rfl (op_move (av := .exact (.int .i64 x5_j2)) rfl ?_)
      obtain ⟨n47, h⟩ := need_some h
      refine G_l rfl (op_trunc (by kernel_rfl) len_c_int rfl (bnd_some rfl) n47.1 n47.2 (fun v48 => ?_))
      refine G_q rfl (op_assign (av := .exact v48) rfl ?_)
      refine G_nil ?_
      refine kC_normal ?_
      refine k_ret ?_
      obtain rfl := Option.some.inj h
      refine kP_any (endN (af' := (AF.put AF0 (some 4) (.exact v48))) (σ' := [vecT Try.prog 23 1 c_int v48 (List.take (Int.toNat x5_j2) (List.take (Int.toNat x5_j2) x0_j2 ++ List.replicate (Int.toNat (List.length x0_j2 : Int) - Int.toNat x5_j2) (0 : Int) ++ List.drop (Int.toNat x5_j2 + (Int.toNat (List.length x0_j2 : Int) - Int.toNat x5_j2)) x0_j2))]) _ rfl ?_ ⟨v48, rfl, rfl⟩)
      exact Sub.of_le (AF.le_put (AV.le_eq rfl) (AF.le_top _))
set_option maxHeartbeats 4000000 in
theorem m_slices_Clip_L_int_int_ok (a0 : List Int) (r : (List Int)) (h : m_slices_Clip_L_int_int a0 = some r) : Pure Try.prog 64 [(.row 1 c_int a0)] (.row 1 c_int r) := by
  unfold m_slices_Clip_L_int_int at h
  refine Pure.ofFun (fun_of_awp Try.func64 rfl Try.ntmps64 (by simp) rfl (res1 rfl) fun E hE => k_end ?_)
  refine k_seq ?_
  refine k_reg .free hmixP (by kernel_rfl) ?_
  refine G_q rfl (op_assign (av := .exact (.slice none 0 0)) rfl ?_)
  refine G_nil ?_
  refine kC_normal ?_
  refine k_seq ?_
  refine k_reg .free hmixP (by kernel_rfl) ?_
  refine G_q rfl (op_move (av := .row 1 c_int a0) rfl ?_)
  refine G_q rfl (op_move (av := .row 1 c_int a0) rfl ?_)
  refine G_q rfl (op_len_row (by kernel_rfl) rfl ?_)
  refine G_q rfl (op_move (av := .row 1 c_int a0) rfl ?_)
  refine G_q rfl (op_len_row (by kernel_rfl) rfl ?_)
  obtain ⟨n1, h⟩ := need_some h
  refine G_q rfl (op_slice_row3 (by kernel_rfl) rfl bnd_none rfl rfl (Int.le_refl 0) n1 (Int.le_refl _) (Int.le_refl _) ?_)
  refine G_q rfl (op_assign (av := .row 1 c_int (List.take (Int.toNat (List.length a0 : Int)) a0)) rfl ?_)
  refine G_nil ?_
  refine kC_normal ?_
  refine k_ret ?_
  obtain rfl := Option.some.inj h
  refine kP_any (endN (af' := (AF.put AF0 (some 2) (.row 1 c_int (List.take (Int.toNat (List.length a0 : Int)) a0)))) (σ' := []) _ rfl ?_ ⟨rfl, rfl⟩)
  exact Sub.of_le (AF.le_put (AV.le_eq rfl) (AF.le_top _))
end Go.Proofs.Ytkbbeeeoogjknaa
