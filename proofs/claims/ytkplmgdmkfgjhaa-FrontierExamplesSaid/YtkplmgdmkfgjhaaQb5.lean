/- Types and their cells, by program. -/
import Derived.Test.YtkplmgdmkfgjhaaQb4
import Derived.Test.YtkplmgdmkfgjhaaQb1
import Derived.Test.YtkplmgdmkfgjhaaQb3
import Derived.Test.YtkplmgdmkfgjhaaQb0
namespace Go.Proofs.Ytkplmgdmkfgjhaa
open Go.RowKit
abbrev c_A2_int (x : Int × Int) : List AV := [.exact (.int .i64 x.1), .exact (.int .i64 x.2)]
theorem len_c_A2_int (x : Int × Int) : (c_A2_int x).length = 2 := rfl
theorem oc_c_A2_int (x : Int × Int) : OneC (c_A2_int x) := (OneC.int (OneC.int OneC.nil))
abbrev c_uint8 (x : UInt8) : List AV := [.exact (.int .u8 (UInt8.toNat x : Int))]
theorem len_c_uint8 (x : UInt8) : (c_uint8 x).length = 1 := rfl
theorem oc_c_uint8 (x : UInt8) : OneC (c_uint8 x) := (OneC.int OneC.nil)
abbrev c_int (x : Int) : List AV := [.exact (.int .i64 x)]
theorem len_c_int (x : Int) : (c_int x).length = 1 := rfl
theorem heq_c_A2_int (x0 x1 y0 y1 : Int) (w : World) : (Op.equal 29 (.agg #[.int .i64 x0, .int .i64 x1]) (.agg #[.int .i64 y0, .int .i64 y1])).run Try.prog w = .ok (decide (x0 = y0 ∧ x1 = y1)) w := by
  have hs : (sizeOf 3).run Try.prog w = .ok 1 w := by kernel_rfl
  have e : ∀ a b : Int, (Op.equalIn 9999 3 (.int .i64 a) (.int .i64 b)).run Try.prog w = .ok (a == b) w := fun a b => run_equalIn_int w 9998 3 .i64 .i64 a b Try.underlying3
  rw [Op.equal, Op.maxDepth, show (10000 : Nat) = 9999 + 1 from rfl]
  rw [show Op.equalIn (9999 + 1) 29 (.agg #[.int .i64 x0, .int .i64 x1]) (.agg #[.int .i64 y0, .int .i64 y1]) = _ from by rw [Op.equalIn]]
  simp only [Sem.run_bind, run_underlying Try.underlying29, Result.andThen_ok, hs]
  have p0 : ∀ (a b : Int) (w : World), (part 3 #[.int .i64 a, .int .i64 b] 0).run Try.prog w = .ok (.int .i64 a) w := fun a b w => run_part1 (by kernel_rfl) rfl
  have p1 : ∀ (a b : Int) (w : World), (part 3 #[.int .i64 a, .int .i64 b] 1).run Try.prog w = .ok (.int .i64 b) w := fun a b w => run_part1 (by kernel_rfl) rfl
  simp [List.range', p0, p1, e]
  by_cases h1 : x0 = y0 <;> by_cases h2 : x1 = y1 <;> simp [h1, h2]
theorem eq_c_A2_int (a b : Int × Int) {M : BSet} {w : World} {vs us : List Value} (h1 : Fit M w (c_A2_int a) vs) (h2 : Fit M w (c_A2_int b) us) : (Op.equal 29 (.agg vs.toArray) (.agg us.toArray)).run Try.prog w = .ok (decide (a = b)) w := eq_pair heq_c_A2_int a b h1 h2
end Go.Proofs.Ytkplmgdmkfgjhaa
/- slices.SortFunc at pairs under compare: the contract, by the shelf's. -/
namespace Go.Proofs.Ytkplmgdmkfgjhaa
open Go.RowKit Go.Sort

set_option maxRecDepth 100000 in
def sortl_ren : Go.Shelf.Ren := ⟨fun | 6 => 64 | 14 => 89 | 15 => 90 | 20 => 104 | 21 => 105 | 22 => 106 | 23 => 107 | 24 => 108 | 25 => 109 | 26 => 110 | 27 => 111 | 28 => 112 | 29 => 113 | 46 => 116 | 47 => 117 | 48 => 118 | 49 => 119 | 50 => 120 | 57 => 130 | n => n, fun | 0 => 0 | 3 => 3 | 4 => 4 | 5 => 5 | 9 => 9 | 22 => 23 | 24 => 29 | 25 => 96 | 39 => 77 | 45 => 132 | 46 => 133 | 50 => 94 | 53 => 75 | 55 => 140 | 66 => 143 | 70 => 147 | 76 => 155 | 77 => 156 | n => n, fun n => n⟩
set_option maxRecDepth 100000 in
theorem sortl : Go.Proofs.SlLaysF0.n6 Try.prog sortl_ren where
  mixed := by kernel_rfl
  f6 := ⟨Try.f64.name, by kernel_rfl, Try.func64.trans (congrArg some (by kernel_rfl))⟩
  f14 := ⟨Try.f89.name, by kernel_rfl, Try.func89.trans (congrArg some (by kernel_rfl))⟩
  f15 := Try.func90.trans (congrArg some (by kernel_rfl))
  f20 := ⟨Try.f104.name, by kernel_rfl, Try.func104.trans (congrArg some (by kernel_rfl))⟩
  f21 := ⟨Try.f105.name, by kernel_rfl, Try.func105.trans (congrArg some (by kernel_rfl))⟩
  f22 := ⟨Try.f106.name, by kernel_rfl, Try.func106.trans (congrArg some (by kernel_rfl))⟩
  f23 := ⟨Try.f107.name, by kernel_rfl, Try.func107.trans (congrArg some (by kernel_rfl))⟩
  f24 := ⟨Try.f108.name, by kernel_rfl, Try.func108.trans (congrArg some (by kernel_rfl))⟩
  f25 := ⟨Try.f109.name, by kernel_rfl, Try.func109.trans (congrArg some (by kernel_rfl))⟩
  f26 := ⟨Try.f110.name, by kernel_rfl, Try.func110.trans (congrArg some (by kernel_rfl))⟩
  f27 := ⟨Try.f111.name, by kernel_rfl, Try.func111.trans (congrArg some (by kernel_rfl))⟩
  f28 := Try.func112.trans (congrArg some (by kernel_rfl))
  f29 := Try.func113.trans (congrArg some (by kernel_rfl))
  f46 := ⟨Try.f116.name, by kernel_rfl, Try.func116.trans (congrArg some (by kernel_rfl))⟩
  f47 := Try.func117.trans (congrArg some (by kernel_rfl))
  f48 := Try.func118.trans (congrArg some (by kernel_rfl))
  f49 := ⟨Try.f119.name, by kernel_rfl, Try.func119.trans (congrArg some (by kernel_rfl))⟩
  f50 := ⟨Try.f120.name, by kernel_rfl, Try.func120.trans (congrArg some (by kernel_rfl))⟩
  f57 := ⟨Try.f130.name, by kernel_rfl, Try.func130.trans (congrArg some (by kernel_rfl))⟩
  t0 := Try.underlying0
  a0 := Try.isAgg0
  z0 := Try.sizeOf0
  v0 := Try.zeroValue0
  t3 := Try.underlying3
  a3 := Try.isAgg3
  z3 := Try.sizeOf3
  v3 := Try.zeroValue3
  t4 := Try.underlying4
  a4 := Try.isAgg4
  z4 := Try.sizeOf4
  v4 := Try.zeroValue4
  t5 := Try.underlying5
  a5 := Try.isAgg5
  z5 := Try.sizeOf5
  v5 := Try.zeroValue5
  t9 := Try.underlying9
  a9 := Try.isAgg9
  z9 := Try.sizeOf9
  v9 := Try.zeroValue9
  t22 := Try.underlying23
  a22 := Try.isAgg23
  z22 := Try.sizeOf23
  v22 := Try.zeroValue23
  t25 := Try.underlying96
  a25 := Try.isAgg96
  z25 := Try.sizeOf96
  v25 := Try.zeroValue96
  t39 := Try.underlying77
  a39 := Try.isAgg77
  z39 := Try.sizeOf77
  v39 := Try.zeroValue77
  t45 := Try.underlying132
  a45 := Try.isAgg132
  z45 := Try.sizeOf132
  v45 := Try.zeroValue132
  t46 := Try.underlying133
  a46 := Try.isAgg133
  z46 := Try.sizeOf133
  v46 := Try.zeroValue133
  t50 := Try.underlying94
  a50 := Try.isAgg94
  z50 := Try.sizeOf94
  v50 := Try.zeroValue94
  t53 := Try.underlying75
  a53 := Try.isAgg75
  z53 := Try.sizeOf75
  v53 := Try.zeroValue75
  t55 := Try.underlying140
  a55 := Try.isAgg140
  z55 := Try.sizeOf140
  v55 := Try.zeroValue140
  t66 := Try.underlying143
  a66 := Try.isAgg143
  z66 := Try.sizeOf143
  v66 := Try.zeroValue143
  t70 := Try.underlying147
  a70 := Try.isAgg147
  z70 := Try.sizeOf147
  v70 := Try.zeroValue147
  t76 := Try.underlying155
  a76 := Try.isAgg155
  z76 := Try.sizeOf155
  v76 := Try.zeroValue155
  t77 := Try.underlying156
  a77 := Try.isAgg156
  z77 := Try.sizeOf156
  v77 := Try.zeroValue156


def cfP (p q : Int × Int) : Int := if LtP p q then -1 else if p = q then 0 else 1
theorem ltOf_cfP (p q : Int × Int) : ltOf cfP p q = decide (LtP p q) := by
  unfold ltOf cfP
  by_cases h : LtP p q
  · simp [h]
  · by_cases h2 : p = q
    · subst h2; simp [h]
    · simp [h, h2]
theorem swo_cfP : SWO (ltOf cfP) where
  irrefl x := by rw [ltOf_cfP]; simp [LtP]
  trans x y z := by simp only [ltOf_cfP, decide_eq_true_eq]; unfold LtP; omega
  ntrans x y z := by simp only [ltOf_cfP, decide_eq_false_iff_not]; unfold LtP; omega
theorem part_cfP (x y : Int × Int) : ltOf cfP x y = false → ltOf cfP y x = false → x = y := by
  obtain ⟨a, b⟩ := x
  obtain ⟨c, d⟩ := y
  simp only [ltOf_cfP, decide_eq_false_iff_not, Prod.mk.injEq]; unfold LtP; simp only []; omega

theorem m_sortP_ok (hc : ∀ (a0 a1 : Int × Int) (r : Int), m_frontier_compare a0 a1 = some r → Pure Try.prog 61 [(.agg (c_A2_int a0)), (.agg (c_A2_int a1))] (.exact (.int .i64 r))) {w0 : Value} (a0 : List (Int × Int)) (r : List (Int × Int)) (h : m_sortP a0 = some r) :
    Fun Try.prog 64 [.exact w0, .exact (.func (.func 61) #[] #[])] [vecT Try.prog 23 2 c_A2_int w0 a0] (fun a s => a = .tup [] ∧ s = [vecT Try.prog 23 2 c_A2_int w0 r]) := by
  obtain ⟨h1, h2⟩ := need_some h
  cases h2
  have hs : sortP a0 = a0.mergeSort fun x y => !(ltOf cfP) y x := by
    unfold sortP
    congr 1
    funext x y
    rw [ltOf_cfP]
    rfl
  rw [hs]
  exact sortFunc_fun (enc := fun p : Int × Int => [.int .i64 p.1, .int .i64 p.2]) sortl Try.isAgg29 Try.sizeOf29 (fun _ => rfl) (fun _ => rfl) (fun x v hv => by simp at hv; rcases hv with rfl | rfl <;> rfl) cfP swo_cfP part_cfP 61
    (fun args w => by exact enters_of Try.func61 (by kernel_rfl) rfl args w) (fun x y => hc x y _ (fCompare x y)) w0 a0 h1 23
end Go.Proofs.Ytkplmgdmkfgjhaa
/- The functions compute their models, by program. -/
namespace Go.Proofs.Ytkplmgdmkfgjhaa
open Go.RowKit
attribute [local irreducible] AV.exact AV.top AV.row AV.ptr AV.agg AV.tup AV.eptr AV.fn AV.nilq AV.nilqn opA opB opM opR Quiet Loud Reads wpG awp den Sub SubU Pure Fun vecI vecT boxI CellsAll CellsOf OneC LEs LEss
set_option maxRecDepth 100000

set_option maxHeartbeats 4000000 in
theorem m_frontier_number_ok (a0 : List UInt8) (a1 : Int) (r : Int × Int × Int) (h : m_frontier_number a0 a1 = some r) : Pure Try.prog 79 [(.row 1 c_uint8 a0), (.exact (.int .i64 a1))] (.tup [.exact (.int .i64 r.1), .exact (.int .i64 r.2.1), .exact (.int .i64 r.2.2)]) := by
  unfold m_frontier_number at h
  refine Pure.ofFun (fun_of_awp Try.func79 rfl Try.ntmps79 (by simp) rfl (res3 rfl) fun E hE => k_end ?_)
  refine k_seq ?_
  refine k_reg .free hmixP (by kernel_rfl) ?_
  refine G_q rfl (op_assign (av := .exact (.int .i64 0)) rfl ?_)
  refine G_q rfl (op_assign (av := .exact (.int .i64 0)) rfl ?_)
  refine G_q rfl (op_assign (av := .exact (.int .i64 0)) rfl ?_)
  refine G_nil ?_
  refine kC_normal ?_
  refine k_seq ?_
  refine k_reg .free hmixP (by kernel_rfl) ?_
  refine G_q rfl (op_assign (av := .exact (.int .i64 0)) rfl ?_)
  refine G_nil ?_
  refine kC_normal ?_
  refine k_join0_0 h (AF0) ([]) (fun k1 h => ?_) (fun  h => ?_)
  · refine k_seq ?_
    refine k_reg .free hmixP (by kernel_rfl) ?_
    refine G_q rfl (op_move (av := .exact (.int .i64 0)) rfl ?_)
    refine G_nil ?_
    refine kC_normal ?_
    refine k_block ?_
    refine k_loop2_0 (m_frontier_number_L2 a0 a1 k1) (m_frontier_number_B2 a0 a1 k1) (fun _ _ => rfl) (fun m _ _ => rfl) h (fun (x7_l2 : Int) (x10_l2 : Int) => (AF.put (AF.put (AF.put (AF.put AF0 (some 0) (.row 1 c_uint8 a0)) (some 1) (.exact (.int .i64 a1))) (some 7) (.exact (.int .i64 x7_l2))) (some 10) (.exact (.int .i64 x10_l2)))) (fun (x7_l2 : Int) (x10_l2 : Int) => []) ?_ (fun rec2 x7_l2 x10_l2 h => ?_)
    · exact Sub.of_le (AF.le_put (AV.le_eq rfl) (AF.le_put (AV.le_eq rfl) (AF.le_put (AV.le_eq rfl) (AF.le_put (AV.le_eq rfl) (AF.le_top _)))))
    · unfold m_frontier_number_B2 at h
      refine k_seq ?_
      refine k_reg .free hmixP (by kernel_rfl) ?_
      refine G_q rfl (op_lss rfl rfl ?_)
      refine G_nil ?_
      refine kC_normal ?_
      refine k_seq ?_
      refine k_cond_d (p := x10_l2 < 5) rfl (fun hc => ?_) (fun hc => ?_)
      · replace h := ite_t h hc
        refine k_skip ?_
        refine kC_normal ?_
        refine k_seq ?_
        refine k_block ?_
        refine k_seq ?_
        refine k_reg .free hmixP (by kernel_rfl) ?_
        refine G_q rfl (op_move (av := .exact (.int .i64 x10_l2)) rfl ?_)
        refine G_q rfl (op_assign (av := .exact (.int .i64 x10_l2)) rfl ?_)
        refine G_nil ?_
        refine kC_normal ?_
        refine k_seq ?_
        refine k_seq ?_
        refine k_reg .free hmixP (by kernel_rfl) ?_
        refine G_q rfl (op_move (av := .exact (.int .i64 a1)) rfl ?_)
        refine G_q rfl (op_move (av := .exact (.int .i64 x10_l2)) rfl ?_)
        refine G_q rfl (op_add rfl rfl rfl ?_)
        refine G_q rfl (op_move (av := .row 1 c_uint8 a0) rfl ?_)
        refine G_q rfl (op_len_row (by kernel_rfl) rfl ?_)
        refine G_q rfl (op_geq rfl rfl ?_)
        refine G_nil ?_
        refine kC_normal ?_
        refine k_cond_d (p := (List.length a0 : Int) ≤ (i64 (a1 + x10_l2))) rfl (fun hc => ?_) (fun hc => ?_)
        · replace h := ite_t h hc
          refine k_seq ?_
          refine k_reg .free hmixP (by kernel_rfl) ?_
          refine G_q rfl (op_assign (av := .exact (.int .i64 0)) rfl ?_)
          refine G_q rfl (op_assign (av := .exact (.int .i64 0)) rfl ?_)
          refine G_q rfl (op_assign (av := .exact (.int .i64 23)) rfl ?_)
          refine G_nil ?_
          refine kC_normal ?_
          refine k_ret ?_
          refine kC_ret ?_
          refine kB_ret ?_
          refine kC_ret ?_
          refine kI_ret ?_
          refine kB_ret ?_
          refine kI_ret ?_
          obtain rfl := Option.some.inj h
          refine kP_any (endN (af' := (AF.put (AF.put (AF.put AF0 (some 4) (.exact (.int .i64 0))) (some 5) (.exact (.int .i64 0))) (some 6) (.exact (.int .i64 23)))) (σ' := []) _ rfl ?_ ⟨rfl, rfl⟩)
          exact Sub.of_le (AF.le_put (AV.le_eq rfl) (AF.le_put (AV.le_eq rfl) (AF.le_put (AV.le_eq rfl) (AF.le_top _))))
        · replace h := ite_f h hc
          refine k_skip ?_
          refine kC_normal ?_
          refine k_seq ?_
          refine k_reg .free hmixP (by kernel_rfl) ?_
          refine G_q rfl (op_move (av := .row 1 c_uint8 a0) rfl ?_)
          refine G_q rfl (op_move (av := .exact (.int .i64 a1)) rfl ?_)
          refine G_q rfl (op_move (av := .exact (.int .i64 x10_l2)) rfl ?_)
          refine G_q rfl (op_add rfl rfl rfl ?_)
          obtain ⟨n13, h⟩ := need_some h
          refine G_q rfl (op_index_row (by kernel_rfl) rfl rfl n13.1 n13.2 ?_)
          refine G_q rfl (op_load1p (a := .exact (.int .u8 (UInt8.toNat (gi a0 (i64 (a1 + x10_l2))) : Int))) (by kernel_rfl) rfl rfl ?_)
          refine G_q rfl (op_assign (av := .exact (.int .u8 (UInt8.toNat (gi a0 (i64 (a1 + x10_l2))) : Int))) rfl ?_)
          refine G_nil ?_
          refine kC_normal ?_
          refine k_seq ?_
          refine k_reg .free hmixP (by kernel_rfl) ?_
          refine G_q rfl (op_move (av := .exact (.int .i64 x7_l2)) rfl ?_)
          refine G_q rfl (op_move (av := .exact (.int .u8 (UInt8.toNat (gi a0 (i64 (a1 + x10_l2))) : Int))) rfl ?_)
          refine G_q rfl (op_andU (a := (gi a0 (i64 (a1 + x10_l2)))) (b := 127) rfl rfl ?_)
          refine G_q rfl (op_convInt (k := .i64) (r := (UInt8.toNat ((gi a0 (i64 (a1 + x10_l2))) &&& 127) : Int)) (by kernel_rfl) rfl (wrap_u8 rfl _) ?_)
          refine G_q rfl (op_move (av := .exact (.int .i64 x10_l2)) rfl ?_)
          refine G_q rfl (op_mul rfl rfl rfl ?_)
          obtain ⟨n14, h⟩ := need_some h
          refine G_q rfl (op_shl rfl rfl n14 rfl ?_)
          refine G_q rfl (op_or rfl rfl rfl ?_)
          refine G_q rfl (op_assign (av := .exact (.int .i64 (bOr .i64 x7_l2 (i64 ((UInt8.toNat ((gi a0 (i64 (a1 + x10_l2))) &&& 127) : Int) * 2 ^ min (Int.toNat (i64 (7 * x10_l2))) IntKind.i64.bits))))) rfl ?_)
          refine G_nil ?_
          refine kC_normal ?_
          refine k_seq ?_
          refine k_reg .free hmixP (by kernel_rfl) ?_
          refine G_q rfl (op_move (av := .exact (.int .u8 (UInt8.toNat (gi a0 (i64 (a1 + x10_l2))) : Int))) rfl ?_)
          refine G_q rfl (op_lssU (a := (gi a0 (i64 (a1 + x10_l2)))) (b := 128) rfl rfl ?_)
          refine G_nil ?_
          refine kC_normal ?_
          refine k_cond_d (p := (gi a0 (i64 (a1 + x10_l2))) < 128) rfl (fun hc => ?_) (fun hc => ?_)
          · replace h := ite_t h hc
            refine k_seq ?_
            refine k_reg .free hmixP (by kernel_rfl) ?_
            refine G_q rfl (op_move (av := .exact (.int .i64 (bOr .i64 x7_l2 (i64 ((UInt8.toNat ((gi a0 (i64 (a1 + x10_l2))) &&& 127) : Int) * 2 ^ min (Int.toNat (i64 (7 * x10_l2))) IntKind.i64.bits))))) rfl ?_)
            refine G_q rfl (op_move (av := .exact (.int .i64 a1)) rfl ?_)
            refine G_q rfl (op_move (av := .exact (.int .i64 x10_l2)) rfl ?_)
            refine G_q rfl (op_add rfl rfl rfl ?_)
            refine G_q rfl (op_add rfl rfl rfl ?_)
            refine G_q rfl (op_assign (av := .exact (.int .i64 (bOr .i64 x7_l2 (i64 ((UInt8.toNat ((gi a0 (i64 (a1 + x10_l2))) &&& 127) : Int) * 2 ^ min (Int.toNat (i64 (7 * x10_l2))) IntKind.i64.bits))))) rfl ?_)
            refine G_q rfl (op_assign (av := .exact (.int .i64 (i64 ((i64 (a1 + x10_l2)) + 1)))) rfl ?_)
            refine G_q rfl (op_assign (av := .exact (.int .i64 0)) rfl ?_)
            refine G_nil ?_
            refine kC_normal ?_
            refine k_ret ?_
            refine kB_ret ?_
            refine kC_ret ?_
            refine kI_ret ?_
            refine kB_ret ?_
            refine kI_ret ?_
            obtain rfl := Option.some.inj h
            refine kP_any (endN (af' := (AF.put (AF.put (AF.put AF0 (some 4) (.exact (.int .i64 (bOr .i64 x7_l2 (i64 ((UInt8.toNat ((gi a0 (i64 (a1 + x10_l2))) &&& 127) : Int) * 2 ^ min (Int.toNat (i64 (7 * x10_l2))) IntKind.i64.bits)))))) (some 5) (.exact (.int .i64 (i64 ((i64 (a1 + x10_l2)) + 1))))) (some 6) (.exact (.int .i64 0)))) (σ' := []) _ rfl ?_ ⟨rfl, rfl⟩)
            exact Sub.of_le (AF.le_put (AV.le_eq rfl) (AF.le_put (AV.le_eq rfl) (AF.le_put (AV.le_eq rfl) (AF.le_top _))))
          · replace h := ite_f h hc
            refine k_skip ?_
            refine kB_normal ?_
            refine kC_normal ?_
            refine k_reg .free hmixP (by kernel_rfl) ?_
            refine G_q rfl (op_add rfl rfl rfl ?_)
            refine G_q rfl (op_move (av := .exact (.int .i64 (i64 (x10_l2 + 1)))) rfl ?_)
            refine G_nil ?_
            refine kI_normal ⟨_, _, h, ?_⟩
            exact Sub.of_le (AF.le_put (AV.le_eq rfl) (AF.le_put (AV.le_eq rfl) (AF.le_put (AV.le_eq rfl) (AF.le_put (AV.le_eq rfl) (AF.le_top _)))))
      · replace h := ite_f h hc
        refine k_exit ?_
        refine kC_exit ?_
        refine kI_exit ?_
        refine kB_exit ?_
        refine kI_normal ⟨h, ?_⟩
        exact Sub.of_le (AF.le_top _)
  · refine k_seq ?_
    refine k_reg .free hmixP (by kernel_rfl) ?_
    refine G_q rfl (op_assign (av := .exact (.int .i64 0)) rfl ?_)
    refine G_q rfl (op_assign (av := .exact (.int .i64 0)) rfl ?_)
    refine G_q rfl (op_assign (av := .exact (.int .i64 22)) rfl ?_)
    refine G_nil ?_
    refine kC_normal ?_
    refine k_ret ?_
    obtain rfl := Option.some.inj h
    refine kP_any (endN (af' := (AF.put (AF.put (AF.put AF0 (some 4) (.exact (.int .i64 0))) (some 5) (.exact (.int .i64 0))) (some 6) (.exact (.int .i64 22)))) (σ' := []) _ rfl ?_ ⟨rfl, rfl⟩)
    exact Sub.of_le (AF.le_put (AV.le_eq rfl) (AF.le_put (AV.le_eq rfl) (AF.le_put (AV.le_eq rfl) (AF.le_top _))))
set_option maxHeartbeats 4000000 in
theorem m_codec_Checksum_ok (a0 : List UInt8) (r : Int) (h : m_codec_Checksum a0 = some r) : Pure Try.prog 101 [(.row 1 c_uint8 a0)] (.exact (.int .u32 r)) := by
  unfold m_codec_Checksum at h
  refine Pure.ofFun (fun_of_awp Try.func101 rfl Try.ntmps101 (by simp) rfl (res1 rfl) fun E hE => k_end ?_)
  refine k_seq ?_
  refine k_reg .free hmixP (by kernel_rfl) ?_
  refine G_q rfl (op_assign (av := .exact (.int .u32 0)) rfl ?_)
  refine G_nil ?_
  refine kC_normal ?_
  refine k_seq ?_
  refine k_reg .free hmixP (by kernel_rfl) ?_
  refine G_q rfl (op_assign (av := .exact (.int .u32 4294967295)) rfl ?_)
  refine G_nil ?_
  refine kC_normal ?_
  refine k_join1_0 h (fun (x3_j1 : Int) => (AF.put AF0 (some 3) (.exact (.int .u32 x3_j1)))) (fun (x3_j1 : Int) => []) (fun k1 h => ?_) (fun x3_j1 h => ?_)
  · refine k_seq ?_
    refine k_reg .free hmixP (by kernel_rfl) ?_
    refine G_q rfl (op_move (av := .row 1 c_uint8 a0) rfl ?_)
    refine G_q rfl (op_len_row (by kernel_rfl) rfl ?_)
    refine G_q rfl (op_move (av := .exact (.int .i64 0)) rfl ?_)
    refine G_nil ?_
    refine kC_normal ?_
    refine k_block ?_
    refine k_loop2_0 (m_codec_Checksum_L8 a0 k1) (m_codec_Checksum_B8 a0 k1) (fun _ _ => rfl) (fun m _ _ => rfl) h (fun (x3_l8 : Int) (x8_l8 : Int) => (AF.put (AF.put (AF.put (AF.put AF0 (some 3) (.exact (.int .u32 x3_l8))) (some 6) (.row 1 c_uint8 a0)) (some 7) (.exact (.int .i64 (List.length a0 : Int)))) (some 8) (.exact (.int .i64 x8_l8)))) (fun (x3_l8 : Int) (x8_l8 : Int) => []) ?_ (fun rec8 x3_l8 x8_l8 h => ?_)
    · exact Sub.of_le (AF.le_put (AV.le_eq rfl) (AF.le_put (AV.le_eq rfl) (AF.le_put (AV.le_eq rfl) (AF.le_put (AV.le_eq rfl) (AF.le_top _)))))
    · unfold m_codec_Checksum_B8 at h
      refine k_seq ?_
      refine k_reg .free hmixP (by kernel_rfl) ?_
      refine G_q rfl (op_lss rfl rfl ?_)
      refine G_nil ?_
      refine kC_normal ?_
      refine k_seq ?_
      refine k_cond_d (p := x8_l8 < (List.length a0 : Int)) rfl (fun hc => ?_) (fun hc => ?_)
      · replace h := ite_t h hc
        refine k_skip ?_
        refine kC_normal ?_
        refine k_join1_0 h (fun (x3_j58 : Int) => (AF.put (AF.put (AF.put (AF.put AF0 (some 3) (.exact (.int .u32 x3_j58))) (some 6) (.row 1 c_uint8 a0)) (some 7) (.exact (.int .i64 (List.length a0 : Int)))) (some 8) (.exact (.int .i64 x8_l8)))) (fun (x3_j58 : Int) => []) (fun k58 h => ?_) (fun x3_j58 h => ?_)
        · refine k_block ?_
          refine k_seq ?_
          refine k_reg .free hmixP (by kernel_rfl) ?_
          obtain ⟨n64, h⟩ := need_some h
          refine G_q rfl (op_index_row (by kernel_rfl) rfl rfl n64.1 n64.2 ?_)
          refine G_q rfl (op_load1p (a := .exact (.int .u8 (UInt8.toNat (gi a0 x8_l8) : Int))) (by kernel_rfl) rfl rfl ?_)
          refine G_q rfl (op_assign (av := .exact (.int .u8 (UInt8.toNat (gi a0 x8_l8) : Int))) rfl ?_)
          refine G_nil ?_
          refine kC_normal ?_
          refine k_seq ?_
          refine k_reg .free hmixP (by kernel_rfl) ?_
          refine G_q rfl (op_move (av := .exact (.int .u32 x3_l8)) rfl ?_)
          refine G_q rfl (op_move (av := .exact (.int .u8 (UInt8.toNat (gi a0 x8_l8) : Int))) rfl ?_)
          refine G_q rfl (op_convInt (k := .u32) (r := (UInt8.toNat (gi a0 x8_l8) : Int)) (by kernel_rfl) rfl (wrap_u8 rfl _) ?_)
          refine G_q rfl (op_xor rfl rfl rfl ?_)
          refine G_q rfl (op_assign (av := .exact (.int .u32 (bXor .u32 x3_l8 (UInt8.toNat (gi a0 x8_l8) : Int)))) rfl ?_)
          refine G_nil ?_
          refine kC_normal ?_
          refine k_seq ?_
          refine k_reg .free hmixP (by kernel_rfl) ?_
          refine G_q rfl (op_move (av := .exact (.int .i64 0)) rfl ?_)
          refine G_nil ?_
          refine kC_normal ?_
          refine k_block ?_
          refine k_loop2_0 (m_codec_Checksum_L14 k58) (m_codec_Checksum_B14 k58) (fun _ _ => rfl) (fun m _ _ => rfl) h (fun (x3_l14 : Int) (x16_l14 : Int) => (AF.put (AF.put (AF.put (AF.put (AF.put AF0 (some 3) (.exact (.int .u32 x3_l14))) (some 6) (.row 1 c_uint8 a0)) (some 7) (.exact (.int .i64 (List.length a0 : Int)))) (some 8) (.exact (.int .i64 x8_l8))) (some 16) (.exact (.int .i64 x16_l14)))) (fun (x3_l14 : Int) (x16_l14 : Int) => []) ?_ (fun rec14 x3_l14 x16_l14 h => ?_)
          · exact Sub.of_le (AF.le_put (AV.le_eq rfl) (AF.le_put (AV.le_eq rfl) (AF.le_put (AV.le_eq rfl) (AF.le_put (AV.le_eq rfl) (AF.le_put (AV.le_eq rfl) (AF.le_top _))))))
          · unfold m_codec_Checksum_B14 at h
            refine k_seq ?_
            refine k_reg .free hmixP (by kernel_rfl) ?_
            refine G_q rfl (op_lss rfl rfl ?_)
            refine G_nil ?_
            refine kC_normal ?_
            refine k_seq ?_
            refine k_cond_d (p := x16_l14 < 8) rfl (fun hc => ?_) (fun hc => ?_)
            · replace h := ite_t h hc
              refine k_skip ?_
              refine kC_normal ?_
              refine k_join1_0 h (fun (x3_j67 : Int) => (AF.put (AF.put (AF.put (AF.put (AF.put AF0 (some 3) (.exact (.int .u32 x3_j67))) (some 6) (.row 1 c_uint8 a0)) (some 7) (.exact (.int .i64 (List.length a0 : Int)))) (some 8) (.exact (.int .i64 x8_l8))) (some 16) (.exact (.int .i64 x16_l14)))) (fun (x3_j67 : Int) => []) (fun k67 h => ?_) (fun x3_j67 h => ?_)
              · refine k_block ?_
                refine k_seq ?_
                refine k_reg .free hmixP (by kernel_rfl) ?_
                refine G_q rfl (op_move (av := .exact (.int .u32 x3_l14)) rfl ?_)
                refine G_q rfl (op_and rfl rfl rfl ?_)
                refine G_q rfl (op_neq rfl rfl ?_)
                refine G_nil ?_
                refine kC_normal ?_
                refine k_cond_d (p := ¬ (bAnd .u32 x3_l14 1) = 0) rfl (fun hc => ?_) (fun hc => ?_)
                · replace h := ite_t h hc
                  refine k_reg .free hmixP (by kernel_rfl) ?_
                  refine G_q rfl (op_move (av := .exact (.int .u32 x3_l14)) rfl ?_)
                  refine G_q rfl (op_shr rfl rfl (by decide) rfl ?_)
                  refine G_q rfl (op_xor rfl rfl rfl ?_)
                  refine G_q rfl (op_assign (av := .exact (.int .u32 (bXor .u32 (Int.fdiv x3_l14 (2 ^ min (Int.toNat 1) IntKind.u32.bits)) 3988292384))) rfl ?_)
                  refine G_nil ?_
                  refine kB_normal ?_
                  refine kI_normal ⟨_, h, ?_⟩
                  exact Sub.of_le (AF.le_put (AV.le_eq rfl) (AF.le_put (AV.le_eq rfl) (AF.le_put (AV.le_eq rfl) (AF.le_put (AV.le_eq rfl) (AF.le_put (AV.le_eq rfl) (AF.le_top _))))))
                · replace h := ite_f h hc
                  refine k_reg .free hmixP (by kernel_rfl) ?_
                  refine G_q rfl (op_move (av := .exact (.int .u32 x3_l14)) rfl ?_)
                  refine G_q rfl (op_shr rfl rfl (by decide) rfl ?_)
                  refine G_q rfl (op_assign (av := .exact (.int .u32 (Int.fdiv x3_l14 (2 ^ min (Int.toNat 1) IntKind.u32.bits)))) rfl ?_)
                  refine G_nil ?_
                  refine kB_normal ?_
                  refine kI_normal ⟨_, h, ?_⟩
                  exact Sub.of_le (AF.le_put (AV.le_eq rfl) (AF.le_put (AV.le_eq rfl) (AF.le_put (AV.le_eq rfl) (AF.le_put (AV.le_eq rfl) (AF.le_put (AV.le_eq rfl) (AF.le_top _))))))
              · refine k_reg .free hmixP (by kernel_rfl) ?_
                refine G_q rfl (op_add rfl rfl rfl ?_)
                refine G_q rfl (op_move (av := .exact (.int .i64 (i64 (x16_l14 + 1)))) rfl ?_)
                refine G_nil ?_
                refine kI_normal ⟨_, _, h, ?_⟩
                exact Sub.of_le (AF.le_put (AV.le_eq rfl) (AF.le_put (AV.le_eq rfl) (AF.le_put (AV.le_eq rfl) (AF.le_put (AV.le_eq rfl) (AF.le_put (AV.le_eq rfl) (AF.le_top _))))))
            · replace h := ite_f h hc
              refine k_exit ?_
              refine kC_exit ?_
              refine kI_exit ?_
              refine kB_exit ?_
              refine kB_normal ?_
              refine kI_normal ⟨_, h, ?_⟩
              exact Sub.of_le (AF.le_put (AV.le_eq rfl) (AF.le_put (AV.le_eq rfl) (AF.le_put (AV.le_eq rfl) (AF.le_put (AV.le_eq rfl) (AF.le_top _)))))
        · refine k_reg .free hmixP (by kernel_rfl) ?_
          refine G_q rfl (op_add rfl rfl rfl ?_)
          refine G_q rfl (op_move (av := .exact (.int .i64 (i64 (x8_l8 + 1)))) rfl ?_)
          refine G_nil ?_
          refine kI_normal ⟨_, _, h, ?_⟩
          exact Sub.of_le (AF.le_put (AV.le_eq rfl) (AF.le_put (AV.le_eq rfl) (AF.le_put (AV.le_eq rfl) (AF.le_put (AV.le_eq rfl) (AF.le_top _)))))
      · replace h := ite_f h hc
        refine k_exit ?_
        refine kC_exit ?_
        refine kI_exit ?_
        refine kB_exit ?_
        refine kI_normal ⟨_, h, ?_⟩
        exact Sub.of_le (AF.le_put (AV.le_eq rfl) (AF.le_top _))
  · refine k_seq ?_
    refine k_reg .free hmixP (by kernel_rfl) ?_
    refine G_q rfl (op_move (av := .exact (.int .u32 x3_j1)) rfl ?_)
    refine G_q rfl (op_com (m := 4294967295) rfl rfl ?_)
    refine G_q rfl (op_assign (av := .exact (.int .u32 (bXor .u32 4294967295 x3_j1))) rfl ?_)
    refine G_nil ?_
    refine kC_normal ?_
    refine k_ret ?_
    obtain rfl := Option.some.inj h
    refine kP_any (endN (af' := (AF.put AF0 (some 2) (.exact (.int .u32 (bXor .u32 4294967295 x3_j1))))) (σ' := []) _ rfl ?_ ⟨rfl, rfl⟩)
    exact Sub.of_le (AF.le_put (AV.le_eq rfl) (AF.le_top _))
set_option maxHeartbeats 4000000 in
theorem m_codec_Sealed_ok (a0 : List UInt8) (r : Bool) (h : m_codec_Sealed a0 = some r) : Pure Try.prog 80 [(.row 1 c_uint8 a0)] (.exact (.bool r)) := by
  unfold m_codec_Sealed at h
  refine Pure.ofFun (fun_of_awp Try.func80 rfl Try.ntmps80 (by simp) rfl (res1 rfl) fun E hE => k_end ?_)
  refine k_seq ?_
  refine k_reg .free hmixP (by kernel_rfl) ?_
  refine G_q rfl (op_assign (av := .exact (.bool false)) rfl ?_)
  refine G_nil ?_
  refine kC_normal ?_
  refine k_seq ?_
  refine k_reg .free hmixP (by kernel_rfl) ?_
  refine G_q rfl (op_move (av := .row 1 c_uint8 a0) rfl ?_)
  refine G_q rfl (op_len_row (by kernel_rfl) rfl ?_)
  refine G_q rfl (op_sub rfl rfl rfl ?_)
  refine G_q rfl (op_assign (av := .exact (.int .i64 (i64 ((List.length a0 : Int) - 4)))) rfl ?_)
  refine G_nil ?_
  refine kC_normal ?_
  refine k_seq ?_
  refine k_seq ?_
  refine k_reg .free hmixP (by kernel_rfl) ?_
  refine G_q rfl (op_move (av := .exact (.int .i64 (i64 ((List.length a0 : Int) - 4)))) rfl ?_)
  refine G_q rfl (op_lss rfl rfl ?_)
  refine G_nil ?_
  refine kC_normal ?_
  refine k_cond_d (p := (i64 ((List.length a0 : Int) - 4)) < 0) rfl (fun hc => ?_) (fun hc => ?_)
  · replace h := ite_t h hc
    refine k_seq ?_
    refine k_reg .free hmixP (by kernel_rfl) ?_
    refine G_q rfl (op_assign (av := .exact (.bool false)) rfl ?_)
    refine G_nil ?_
    refine kC_normal ?_
    refine k_ret ?_
    refine kC_ret ?_
    obtain rfl := Option.some.inj h
    refine kP_any (endN (af' := (AF.put AF0 (some 2) (.exact (.bool false)))) (σ' := []) _ rfl ?_ ⟨rfl, rfl⟩)
    exact Sub.of_le (AF.le_put (AV.le_eq rfl) (AF.le_top _))
  · replace h := ite_f h hc
    refine k_skip ?_
    refine kC_normal ?_
    refine k_seq ?_
    refine k_reg .free hmixP (by kernel_rfl) ?_
    refine G_q rfl (op_move (av := .row 1 c_uint8 a0) rfl ?_)
    refine G_q rfl (op_move (av := .exact (.int .i64 (i64 ((List.length a0 : Int) - 4)))) rfl ?_)
    obtain ⟨n1, h⟩ := need_some h
    refine G_q rfl (op_slice_rowt (by kernel_rfl) rfl bnd_none (bnd_some rfl) (Int.le_refl 0) n1.1 n1.2 ?_)
    obtain ⟨y2, hy2, h⟩ := bnd1_some h
    refine G_q rfl (op_pure (m_codec_Checksum_ok _ _ hy2) Try.func101 (by kernel_rfl) (LEs.cons (AV.le_eq rfl) LEs.nil) ?_)
    refine G_q rfl (op_assign (av := .exact (.int .u32 y2)) rfl ?_)
    refine G_nil ?_
    refine kC_normal ?_
    refine k_join1_0 h (fun (x2_j3 : Bool) => (AF.put AF0 (some 2) (.exact (.bool x2_j3)))) (fun (x2_j3 : Bool) => []) (fun k3 h => ?_) (fun x2_j3 h => ?_)
    · refine k_reg .free hmixP (by kernel_rfl) ?_
      refine G_q rfl (op_move (av := .row 1 c_uint8 a0) rfl ?_)
      refine G_q rfl (op_move (av := .exact (.int .i64 (i64 ((List.length a0 : Int) - 4)))) rfl ?_)
      obtain ⟨n8, h⟩ := need_some h
      refine G_q rfl (op_index_row (by kernel_rfl) rfl rfl n8.1 n8.2 ?_)
      refine G_q rfl (op_load1p (a := .exact (.int .u8 (UInt8.toNat (gi a0 (i64 ((List.length a0 : Int) - 4))) : Int))) (by kernel_rfl) rfl rfl ?_)
      refine G_q rfl (op_move (av := .exact (.int .u32 y2)) rfl ?_)
      refine G_q rfl (op_shr rfl rfl (by decide) rfl ?_)
      refine G_q rfl (op_convInt (k := .u8) (r := (UInt8.toNat (u8i (Int.fdiv y2 (2 ^ min (Int.toNat 24) IntKind.u32.bits))) : Int)) (by kernel_rfl) rfl (u8i_eq _) ?_)
      refine G_q rfl (op_eqlU (a := (gi a0 (i64 ((List.length a0 : Int) - 4)))) (b := (u8i (Int.fdiv y2 (2 ^ min (Int.toNat 24) IntKind.u32.bits)))) rfl rfl ?_)
      refine G_q rfl (op_move (av := .exact (.bool (decide ((gi a0 (i64 ((List.length a0 : Int) - 4))) = (u8i (Int.fdiv y2 (2 ^ min (Int.toNat 24) IntKind.u32.bits))))))) rfl ?_)
      refine G_split (p := (gi a0 (i64 ((List.length a0 : Int) - 4))) = (u8i (Int.fdiv y2 (2 ^ min (Int.toNat 24) IntKind.u32.bits)))) 22 rfl (fun hc => ?_) (fun hc => ?_)
      · replace h := ite_t h hc
        refine Gy_q rfl rfl rfl (op_move (av := .row 1 c_uint8 a0) rfl ?_)
        refine Gy_q rfl rfl rfl (op_move (av := .exact (.int .i64 (i64 ((List.length a0 : Int) - 4)))) rfl ?_)
        refine Gy_q rfl rfl rfl (op_add rfl rfl rfl ?_)
        obtain ⟨n9, h⟩ := need_some h
        refine Gy_q rfl rfl rfl (op_index_row (by kernel_rfl) rfl rfl n9.1 n9.2 ?_)
        refine Gy_q rfl rfl rfl (op_load1p (a := .exact (.int .u8 (UInt8.toNat (gi a0 (i64 ((i64 ((List.length a0 : Int) - 4)) + 1))) : Int))) (by kernel_rfl) rfl rfl ?_)
        refine Gy_q rfl rfl rfl (op_move (av := .exact (.int .u32 y2)) rfl ?_)
        refine Gy_q rfl rfl rfl (op_shr rfl rfl (by decide) rfl ?_)
        refine Gy_q rfl rfl rfl (op_convInt (k := .u8) (r := (UInt8.toNat (u8i (Int.fdiv y2 (2 ^ min (Int.toNat 16) IntKind.u32.bits))) : Int)) (by kernel_rfl) rfl (u8i_eq _) ?_)
        refine Gy_q rfl rfl rfl (op_eqlU (a := (gi a0 (i64 ((i64 ((List.length a0 : Int) - 4)) + 1)))) (b := (u8i (Int.fdiv y2 (2 ^ min (Int.toNat 16) IntKind.u32.bits)))) rfl rfl ?_)
        refine G_q rfl (op_pick_t rfl (av := .exact (.bool (decide ((gi a0 (i64 ((i64 ((List.length a0 : Int) - 4)) + 1))) = (u8i (Int.fdiv y2 (2 ^ min (Int.toNat 16) IntKind.u32.bits))))))) rfl ?_)
        refine G_q rfl (op_move (av := .exact (.bool (decide ((gi a0 (i64 ((i64 ((List.length a0 : Int) - 4)) + 1))) = (u8i (Int.fdiv y2 (2 ^ min (Int.toNat 16) IntKind.u32.bits))))))) rfl ?_)
        refine G_split (p := (gi a0 (i64 ((i64 ((List.length a0 : Int) - 4)) + 1))) = (u8i (Int.fdiv y2 (2 ^ min (Int.toNat 16) IntKind.u32.bits)))) 33 rfl (fun hc => ?_) (fun hc => ?_)
        · replace h := ite_t h hc
          refine Gy_q rfl rfl rfl (op_move (av := .row 1 c_uint8 a0) rfl ?_)
          refine Gy_q rfl rfl rfl (op_move (av := .exact (.int .i64 (i64 ((List.length a0 : Int) - 4)))) rfl ?_)
          refine Gy_q rfl rfl rfl (op_add rfl rfl rfl ?_)
          obtain ⟨n10, h⟩ := need_some h
          refine Gy_q rfl rfl rfl (op_index_row (by kernel_rfl) rfl rfl n10.1 n10.2 ?_)
          refine Gy_q rfl rfl rfl (op_load1p (a := .exact (.int .u8 (UInt8.toNat (gi a0 (i64 ((i64 ((List.length a0 : Int) - 4)) + 2))) : Int))) (by kernel_rfl) rfl rfl ?_)
          refine Gy_q rfl rfl rfl (op_move (av := .exact (.int .u32 y2)) rfl ?_)
          refine Gy_q rfl rfl rfl (op_shr rfl rfl (by decide) rfl ?_)
          refine Gy_q rfl rfl rfl (op_convInt (k := .u8) (r := (UInt8.toNat (u8i (Int.fdiv y2 (2 ^ min (Int.toNat 8) IntKind.u32.bits))) : Int)) (by kernel_rfl) rfl (u8i_eq _) ?_)
          refine Gy_q rfl rfl rfl (op_eqlU (a := (gi a0 (i64 ((i64 ((List.length a0 : Int) - 4)) + 2)))) (b := (u8i (Int.fdiv y2 (2 ^ min (Int.toNat 8) IntKind.u32.bits)))) rfl rfl ?_)
          refine G_q rfl (op_pick_t rfl (av := .exact (.bool (decide ((gi a0 (i64 ((i64 ((List.length a0 : Int) - 4)) + 2))) = (u8i (Int.fdiv y2 (2 ^ min (Int.toNat 8) IntKind.u32.bits))))))) rfl ?_)
          refine G_q rfl (op_move (av := .exact (.bool (decide ((gi a0 (i64 ((i64 ((List.length a0 : Int) - 4)) + 2))) = (u8i (Int.fdiv y2 (2 ^ min (Int.toNat 8) IntKind.u32.bits))))))) rfl ?_)
          refine G_split (p := (gi a0 (i64 ((i64 ((List.length a0 : Int) - 4)) + 2))) = (u8i (Int.fdiv y2 (2 ^ min (Int.toNat 8) IntKind.u32.bits)))) 44 rfl (fun hc => ?_) (fun hc => ?_)
          · replace h := ite_t h hc
            refine Gy_q rfl rfl rfl (op_move (av := .row 1 c_uint8 a0) rfl ?_)
            refine Gy_q rfl rfl rfl (op_move (av := .exact (.int .i64 (i64 ((List.length a0 : Int) - 4)))) rfl ?_)
            refine Gy_q rfl rfl rfl (op_add rfl rfl rfl ?_)
            obtain ⟨n11, h⟩ := need_some h
            refine Gy_q rfl rfl rfl (op_index_row (by kernel_rfl) rfl rfl n11.1 n11.2 ?_)
            refine Gy_q rfl rfl rfl (op_load1p (a := .exact (.int .u8 (UInt8.toNat (gi a0 (i64 ((i64 ((List.length a0 : Int) - 4)) + 3))) : Int))) (by kernel_rfl) rfl rfl ?_)
            refine Gy_q rfl rfl rfl (op_move (av := .exact (.int .u32 y2)) rfl ?_)
            refine Gy_q rfl rfl rfl (op_convInt (k := .u8) (r := (UInt8.toNat (u8i y2) : Int)) (by kernel_rfl) rfl (u8i_eq _) ?_)
            refine Gy_q rfl rfl rfl (op_eqlU (a := (gi a0 (i64 ((i64 ((List.length a0 : Int) - 4)) + 3)))) (b := (u8i y2)) rfl rfl ?_)
            refine G_q rfl (op_pick_t rfl (av := .exact (.bool (decide ((gi a0 (i64 ((i64 ((List.length a0 : Int) - 4)) + 3))) = (u8i y2))))) rfl ?_)
            refine G_q rfl (op_assign (av := .exact (.bool (decide ((gi a0 (i64 ((i64 ((List.length a0 : Int) - 4)) + 3))) = (u8i y2))))) rfl ?_)
            refine G_nil ?_
            refine kI_normal ⟨_, h, ?_⟩
            exact Sub.of_le (AF.le_put (AV.le_eq rfl) (AF.le_top _))
          · replace h := ite_f h hc
            refine G_n rfl rfl ?_
            refine G_n rfl rfl ?_
            refine G_n rfl rfl ?_
            refine G_n rfl rfl ?_
            refine G_n rfl rfl ?_
            refine G_n rfl rfl ?_
            refine G_n rfl rfl ?_
            refine G_n rfl rfl ?_
            refine G_q rfl (op_pick_f rfl (av := .exact (.bool false)) rfl ?_)
            refine G_q rfl (op_assign (av := .exact (.bool false)) rfl ?_)
            refine G_nil ?_
            refine kI_normal ⟨_, h, ?_⟩
            exact Sub.of_le (AF.le_put (AV.le_eq rfl) (AF.le_top _))
        · replace h := ite_f h hc
          refine G_n rfl rfl ?_
          refine G_n rfl rfl ?_
          refine G_n rfl rfl ?_
          refine G_n rfl rfl ?_
          refine G_n rfl rfl ?_
          refine G_n rfl rfl ?_
          refine G_n rfl rfl ?_
          refine G_n rfl rfl ?_
          refine G_n rfl rfl ?_
          refine G_q rfl (op_pick_f rfl (av := .exact (.bool false)) rfl ?_)
          refine G_q rfl (op_move (av := .exact (.bool false)) rfl ?_)
          refine G_n rfl rfl ?_
          refine G_n rfl rfl ?_
          refine G_n rfl rfl ?_
          refine G_n rfl rfl ?_
          refine G_n rfl rfl ?_
          refine G_n rfl rfl ?_
          refine G_n rfl rfl ?_
          refine G_n rfl rfl ?_
          refine G_q rfl (op_pick_f rfl (av := .exact (.bool false)) rfl ?_)
          refine G_q rfl (op_assign (av := .exact (.bool false)) rfl ?_)
          refine G_nil ?_
          refine kI_normal ⟨_, h, ?_⟩
          exact Sub.of_le (AF.le_put (AV.le_eq rfl) (AF.le_top _))
      · replace h := ite_f h hc
        refine G_n rfl rfl ?_
        refine G_n rfl rfl ?_
        refine G_n rfl rfl ?_
        refine G_n rfl rfl ?_
        refine G_n rfl rfl ?_
        refine G_n rfl rfl ?_
        refine G_n rfl rfl ?_
        refine G_n rfl rfl ?_
        refine G_n rfl rfl ?_
        refine G_q rfl (op_pick_f rfl (av := .exact (.bool false)) rfl ?_)
        refine G_q rfl (op_move (av := .exact (.bool false)) rfl ?_)
        refine G_n rfl rfl ?_
        refine G_n rfl rfl ?_
        refine G_n rfl rfl ?_
        refine G_n rfl rfl ?_
        refine G_n rfl rfl ?_
        refine G_n rfl rfl ?_
        refine G_n rfl rfl ?_
        refine G_n rfl rfl ?_
        refine G_n rfl rfl ?_
        refine G_q rfl (op_pick_f rfl (av := .exact (.bool false)) rfl ?_)
        refine G_q rfl (op_move (av := .exact (.bool false)) rfl ?_)
        refine G_n rfl rfl ?_
        refine G_n rfl rfl ?_
        refine G_n rfl rfl ?_
        refine G_n rfl rfl ?_
        refine G_n rfl rfl ?_
        refine G_n rfl rfl ?_
        refine G_n rfl rfl ?_
        refine G_n rfl rfl ?_
        refine G_q rfl (op_pick_f rfl (av := .exact (.bool false)) rfl ?_)
        refine G_q rfl (op_assign (av := .exact (.bool false)) rfl ?_)
        refine G_nil ?_
        refine kI_normal ⟨_, h, ?_⟩
        exact Sub.of_le (AF.le_put (AV.le_eq rfl) (AF.le_top _))
    · refine k_ret ?_
      obtain rfl := Option.some.inj h
      refine kP_any (endN (af' := (AF.put AF0 (some 2) (.exact (.bool x2_j3)))) (σ' := []) _ rfl ?_ ⟨rfl, rfl⟩)
      exact Sub.of_le (AF.le_put (AV.le_eq rfl) (AF.le_top _))
set_option maxHeartbeats 4000000 in
theorem m_frontier_isPair_ok (a0 : Int × Int) (r : Bool) (h : m_frontier_isPair a0 = some r) : Pure Try.prog 62 [(.agg (c_A2_int a0))] (.exact (.bool r)) := by
  unfold m_frontier_isPair at h
  refine Pure.ofFun (fun_of_awp Try.func62 rfl Try.ntmps62 (by simp) rfl (res1 rfl) fun E hE => k_end ?_)
  refine k_seq ?_
  refine k_reg .free hmixP (by kernel_rfl) ?_
  refine G_q rfl (op_box (c := c_A2_int a0) rfl CellsOf.agg ?_)
  refine G_q rfl (op_assign (av := .exact (.bool false)) rfl ?_)
  refine G_nil ?_
  refine kC_normal ?_
  refine k_join1_0 h (fun (x2_j1 : Bool) => (AF.put AF0 (some 2) (.exact (.bool x2_j1)))) (fun (x2_j1 : Bool) => []) (fun k1 h => ?_) (fun x2_j1 h => ?_)
  · refine k_reg .free hmixP (by kernel_rfl) ?_
    refine G_q rfl (op_indexArr_ptr (m := 2) (n := 1) (c' := (List.drop 0 (c_A2_int a0))) (by kernel_rfl) rfl rfl (by decide) (by decide) rfl ?_)
    refine G_q rfl (op_load1p (a := .exact (.int .i64 a0.1)) (by kernel_rfl) rfl rfl ?_)
    refine G_q rfl (op_geq rfl rfl ?_)
    refine G_q rfl (op_move (av := .exact (.bool (decide (0 ≤ a0.1)))) rfl ?_)
    refine G_split (p := 0 ≤ a0.1) 6 rfl (fun hc => ?_) (fun hc => ?_)
    · replace h := ite_t h hc
      refine Gy_q rfl rfl rfl (op_indexArr_ptr (m := 2) (n := 1) (c' := (List.drop 1 (c_A2_int a0))) (by kernel_rfl) rfl rfl (by decide) (by decide) rfl ?_)
      refine Gy_q rfl rfl rfl (op_load1p (a := .exact (.int .i64 a0.2)) (by kernel_rfl) rfl rfl ?_)
      refine Gy_q rfl rfl rfl (op_geq rfl rfl ?_)
      refine G_q rfl (op_pick_t rfl (av := .exact (.bool (decide (0 ≤ a0.2)))) rfl ?_)
      refine G_q rfl (op_move (av := .exact (.bool (decide (0 ≤ a0.2)))) rfl ?_)
      refine G_split (p := 0 ≤ a0.2) 11 rfl (fun hc => ?_) (fun hc => ?_)
      · replace h := ite_t h hc
        refine Gy_q rfl rfl rfl (op_indexArr_ptr (m := 2) (n := 1) (c' := (List.drop 0 (c_A2_int a0))) (by kernel_rfl) rfl rfl (by decide) (by decide) rfl ?_)
        refine Gy_q rfl rfl rfl (op_load1p (a := .exact (.int .i64 a0.1)) (by kernel_rfl) rfl rfl ?_)
        refine Gy_q rfl rfl rfl (op_leq rfl rfl ?_)
        refine G_q rfl (op_pick_t rfl (av := .exact (.bool (decide (a0.1 ≤ 2147483647)))) rfl ?_)
        refine G_q rfl (op_move (av := .exact (.bool (decide (a0.1 ≤ 2147483647)))) rfl ?_)
        refine G_split (p := a0.1 ≤ 2147483647) 16 rfl (fun hc => ?_) (fun hc => ?_)
        · replace h := ite_t h hc
          refine Gy_q rfl rfl rfl (op_indexArr_ptr (m := 2) (n := 1) (c' := (List.drop 1 (c_A2_int a0))) (by kernel_rfl) rfl rfl (by decide) (by decide) rfl ?_)
          refine Gy_q rfl rfl rfl (op_load1p (a := .exact (.int .i64 a0.2)) (by kernel_rfl) rfl rfl ?_)
          refine Gy_q rfl rfl rfl (op_leq rfl rfl ?_)
          refine G_q rfl (op_pick_t rfl (av := .exact (.bool (decide (a0.2 ≤ 2147483647)))) rfl ?_)
          refine G_q rfl (op_assign (av := .exact (.bool (decide (a0.2 ≤ 2147483647)))) rfl ?_)
          refine G_nil ?_
          refine kI_normal ⟨_, h, ?_⟩
          exact Sub.of_le (AF.le_put (AV.le_eq rfl) (AF.le_top _))
        · replace h := ite_f h hc
          refine G_n rfl rfl ?_
          refine G_n rfl rfl ?_
          refine G_n rfl rfl ?_
          refine G_q rfl (op_pick_f rfl (av := .exact (.bool false)) rfl ?_)
          refine G_q rfl (op_assign (av := .exact (.bool false)) rfl ?_)
          refine G_nil ?_
          refine kI_normal ⟨_, h, ?_⟩
          exact Sub.of_le (AF.le_put (AV.le_eq rfl) (AF.le_top _))
      · replace h := ite_f h hc
        refine G_n rfl rfl ?_
        refine G_n rfl rfl ?_
        refine G_n rfl rfl ?_
        refine G_q rfl (op_pick_f rfl (av := .exact (.bool false)) rfl ?_)
        refine G_q rfl (op_move (av := .exact (.bool false)) rfl ?_)
        refine G_n rfl rfl ?_
        refine G_n rfl rfl ?_
        refine G_n rfl rfl ?_
        refine G_q rfl (op_pick_f rfl (av := .exact (.bool false)) rfl ?_)
        refine G_q rfl (op_assign (av := .exact (.bool false)) rfl ?_)
        refine G_nil ?_
        refine kI_normal ⟨_, h, ?_⟩
        exact Sub.of_le (AF.le_put (AV.le_eq rfl) (AF.le_top _))
    · replace h := ite_f h hc
      refine G_n rfl rfl ?_
      refine G_n rfl rfl ?_
      refine G_n rfl rfl ?_
      refine G_q rfl (op_pick_f rfl (av := .exact (.bool false)) rfl ?_)
      refine G_q rfl (op_move (av := .exact (.bool false)) rfl ?_)
      refine G_n rfl rfl ?_
      refine G_n rfl rfl ?_
      refine G_n rfl rfl ?_
      refine G_q rfl (op_pick_f rfl (av := .exact (.bool false)) rfl ?_)
      refine G_q rfl (op_move (av := .exact (.bool false)) rfl ?_)
      refine G_n rfl rfl ?_
      refine G_n rfl rfl ?_
      refine G_n rfl rfl ?_
      refine G_q rfl (op_pick_f rfl (av := .exact (.bool false)) rfl ?_)
      refine G_q rfl (op_assign (av := .exact (.bool false)) rfl ?_)
      refine G_nil ?_
      refine kI_normal ⟨_, h, ?_⟩
      exact Sub.of_le (AF.le_put (AV.le_eq rfl) (AF.le_top _))
  · refine k_ret ?_
    obtain rfl := Option.some.inj h
    refine kP_any (endN (af' := (AF.put AF0 (some 2) (.exact (.bool x2_j1)))) (σ' := []) _ rfl ?_ ⟨rfl, rfl⟩)
    exact Sub.of_le (AF.le_put (AV.le_eq rfl) (AF.le_top _))
set_option maxHeartbeats 4000000 in
theorem m_cmp_isNaN_int_ok (a0 : Int) (r : Bool) (h : m_cmp_isNaN_int a0 = some r) : Pure Try.prog 115 [(.exact (.int .i64 a0))] (.exact (.bool r)) := by
  unfold m_cmp_isNaN_int at h
  refine Pure.ofFun (fun_of_awp Try.func115 rfl Try.ntmps115 (by simp) rfl (res1 rfl) fun E hE => k_end ?_)
  refine k_seq ?_
  refine k_reg .free hmixP (by kernel_rfl) ?_
  refine G_q rfl (op_assign (av := .exact (.bool false)) rfl ?_)
  refine G_nil ?_
  refine kC_normal ?_
  refine k_seq ?_
  refine k_reg .free hmixP (by kernel_rfl) ?_
  refine G_q rfl (op_move (av := .exact (.int .i64 a0)) rfl ?_)
  refine G_q rfl (op_move (av := .exact (.int .i64 a0)) rfl ?_)
  refine G_q rfl (op_neq rfl rfl ?_)
  refine G_q rfl (op_assign (av := .exact (.bool (decide (¬ a0 = a0)))) rfl ?_)
  refine G_nil ?_
  refine kC_normal ?_
  refine k_ret ?_
  obtain rfl := Option.some.inj h
  refine kP_any (endN (af' := (AF.put AF0 (some 2) (.exact (.bool (decide (¬ a0 = a0)))))) (σ' := []) _ rfl ?_ ⟨rfl, rfl⟩)
  exact Sub.of_le (AF.le_put (AV.le_eq rfl) (AF.le_top _))
set_option maxHeartbeats 4000000 in
theorem m_cmp_Compare_int_ok (a0 : Int) (a1 : Int) (r : Int) (h : m_cmp_Compare_int a0 a1 = some r) : Pure Try.prog 103 [(.exact (.int .i64 a0)), (.exact (.int .i64 a1))] (.exact (.int .i64 r)) := by
  unfold m_cmp_Compare_int at h
  refine Pure.ofFun (fun_of_awp Try.func103 rfl Try.ntmps103 (by simp) rfl (res1 rfl) fun E hE => k_end ?_)
  refine k_seq ?_
  refine k_reg .free hmixP (by kernel_rfl) ?_
  refine G_q rfl (op_assign (av := .exact (.int .i64 0)) rfl ?_)
  refine G_nil ?_
  refine kC_normal ?_
  refine k_seq ?_
  refine k_reg .free hmixP (by kernel_rfl) ?_
  refine G_q rfl (op_move (av := .exact (.int .i64 a0)) rfl ?_)
  obtain ⟨y1, hy1, h⟩ := bnd1_some h
  refine G_q rfl (op_pure (m_cmp_isNaN_int_ok _ _ hy1) Try.func115 (by kernel_rfl) (LEs.cons (AV.le_eq rfl) LEs.nil) ?_)
  refine G_q rfl (op_assign (av := .exact (.bool y1)) rfl ?_)
  refine G_nil ?_
  refine kC_normal ?_
  refine k_seq ?_
  refine k_reg .free hmixP (by kernel_rfl) ?_
  refine G_q rfl (op_move (av := .exact (.int .i64 a1)) rfl ?_)
  obtain ⟨y2, hy2, h⟩ := bnd1_some h
  refine G_q rfl (op_pure (m_cmp_isNaN_int_ok _ _ hy2) Try.func115 (by kernel_rfl) (LEs.cons (AV.le_eq rfl) LEs.nil) ?_)
  refine G_q rfl (op_assign (av := .exact (.bool y2)) rfl ?_)
  refine G_nil ?_
  refine kC_normal ?_
  refine k_seq ?_
  refine k_seq ?_
  refine k_reg .free hmixP (by kernel_rfl) ?_
  refine G_q rfl (op_move (av := .exact (.bool y1)) rfl ?_)
  refine G_nil ?_
  refine kC_normal ?_
  refine k_cond_b (c := y1) rfl (fun hc => ?_) (fun hc => ?_)
  · replace h := ite_t h hc
    refine k_seq ?_
    refine k_seq ?_
    refine k_reg .free hmixP (by kernel_rfl) ?_
    refine G_q rfl (op_move (av := .exact (.bool y2)) rfl ?_)
    refine G_nil ?_
    refine kC_normal ?_
    refine k_cond_b (c := y2) rfl (fun hc => ?_) (fun hc => ?_)
    · replace h := ite_t h hc
      refine k_seq ?_
      refine k_reg .free hmixP (by kernel_rfl) ?_
      refine G_q rfl (op_assign (av := .exact (.int .i64 0)) rfl ?_)
      refine G_nil ?_
      refine kC_normal ?_
      refine k_ret ?_
      refine kC_ret ?_
      refine kC_ret ?_
      obtain rfl := Option.some.inj h
      refine kP_any (endN (af' := (AF.put AF0 (some 4) (.exact (.int .i64 0)))) (σ' := []) _ rfl ?_ ⟨rfl, rfl⟩)
      exact Sub.of_le (AF.le_put (AV.le_eq rfl) (AF.le_top _))
    · replace h := ite_f h hc
      refine k_skip ?_
      refine kC_normal ?_
      refine k_seq ?_
      refine k_reg .free hmixP (by kernel_rfl) ?_
      refine G_q rfl (op_assign (av := .exact (.int .i64 (-1))) rfl ?_)
      refine G_nil ?_
      refine kC_normal ?_
      refine k_ret ?_
      refine kC_ret ?_
      obtain rfl := Option.some.inj h
      refine kP_any (endN (af' := (AF.put AF0 (some 4) (.exact (.int .i64 (-1))))) (σ' := []) _ rfl ?_ ⟨rfl, rfl⟩)
      exact Sub.of_le (AF.le_put (AV.le_eq rfl) (AF.le_top _))
  · replace h := ite_f h hc
    refine k_skip ?_
    refine kC_normal ?_
    refine k_seq ?_
    refine k_seq ?_
    refine k_reg .free hmixP (by kernel_rfl) ?_
    refine G_q rfl (op_move (av := .exact (.bool y2)) rfl ?_)
    refine G_nil ?_
    refine kC_normal ?_
    refine k_cond_b (c := y2) rfl (fun hc => ?_) (fun hc => ?_)
    · replace h := ite_t h hc
      refine k_seq ?_
      refine k_reg .free hmixP (by kernel_rfl) ?_
      refine G_q rfl (op_assign (av := .exact (.int .i64 1)) rfl ?_)
      refine G_nil ?_
      refine kC_normal ?_
      refine k_ret ?_
      refine kC_ret ?_
      obtain rfl := Option.some.inj h
      refine kP_any (endN (af' := (AF.put AF0 (some 4) (.exact (.int .i64 1)))) (σ' := []) _ rfl ?_ ⟨rfl, rfl⟩)
      exact Sub.of_le (AF.le_put (AV.le_eq rfl) (AF.le_top _))
    · replace h := ite_f h hc
      refine k_skip ?_
      refine kC_normal ?_
      refine k_seq ?_
      refine k_seq ?_
      refine k_reg .free hmixP (by kernel_rfl) ?_
      refine G_q rfl (op_move (av := .exact (.int .i64 a0)) rfl ?_)
      refine G_q rfl (op_move (av := .exact (.int .i64 a1)) rfl ?_)
      refine G_q rfl (op_lss rfl rfl ?_)
      refine G_nil ?_
      refine kC_normal ?_
      refine k_cond_d (p := a0 < a1) rfl (fun hc => ?_) (fun hc => ?_)
      · replace h := ite_t h hc
        refine k_seq ?_
        refine k_reg .free hmixP (by kernel_rfl) ?_
        refine G_q rfl (op_assign (av := .exact (.int .i64 (-1))) rfl ?_)
        refine G_nil ?_
        refine kC_normal ?_
        refine k_ret ?_
        refine kC_ret ?_
        obtain rfl := Option.some.inj h
        refine kP_any (endN (af' := (AF.put AF0 (some 4) (.exact (.int .i64 (-1))))) (σ' := []) _ rfl ?_ ⟨rfl, rfl⟩)
        exact Sub.of_le (AF.le_put (AV.le_eq rfl) (AF.le_top _))
      · replace h := ite_f h hc
        refine k_skip ?_
        refine kC_normal ?_
        refine k_seq ?_
        refine k_seq ?_
        refine k_reg .free hmixP (by kernel_rfl) ?_
        refine G_q rfl (op_move (av := .exact (.int .i64 a0)) rfl ?_)
        refine G_q rfl (op_move (av := .exact (.int .i64 a1)) rfl ?_)
        refine G_q rfl (op_gtr rfl rfl ?_)
        refine G_nil ?_
        refine kC_normal ?_
        refine k_cond_d (p := a1 < a0) rfl (fun hc => ?_) (fun hc => ?_)
        · replace h := ite_t h hc
          refine k_seq ?_
          refine k_reg .free hmixP (by kernel_rfl) ?_
          refine G_q rfl (op_assign (av := .exact (.int .i64 1)) rfl ?_)
          refine G_nil ?_
          refine kC_normal ?_
          refine k_ret ?_
          refine kC_ret ?_
          obtain rfl := Option.some.inj h
          refine kP_any (endN (af' := (AF.put AF0 (some 4) (.exact (.int .i64 1)))) (σ' := []) _ rfl ?_ ⟨rfl, rfl⟩)
          exact Sub.of_le (AF.le_put (AV.le_eq rfl) (AF.le_top _))
        · replace h := ite_f h hc
          refine k_skip ?_
          refine kC_normal ?_
          refine k_seq ?_
          refine k_reg .free hmixP (by kernel_rfl) ?_
          refine G_q rfl (op_assign (av := .exact (.int .i64 0)) rfl ?_)
          refine G_nil ?_
          refine kC_normal ?_
          refine k_ret ?_
          obtain rfl := Option.some.inj h
          refine kP_any (endN (af' := (AF.put AF0 (some 4) (.exact (.int .i64 0)))) (σ' := []) _ rfl ?_ ⟨rfl, rfl⟩)
          exact Sub.of_le (AF.le_put (AV.le_eq rfl) (AF.le_top _))
end Go.Proofs.Ytkplmgdmkfgjhaa
/- The functions compute their models, by program. -/
namespace Go.Proofs.Ytkplmgdmkfgjhaa
open Go.RowKit
attribute [local irreducible] AV.exact AV.top AV.row AV.ptr AV.agg AV.tup AV.eptr AV.fn AV.nilq AV.nilqn opA opB opM opR Quiet Loud Reads wpG awp den Sub SubU Pure Fun vecI vecT boxI CellsAll CellsOf OneC LEs LEss
set_option maxRecDepth 100000

set_option maxHeartbeats 4000000 in
theorem m_slices_Compare_L_int_int_ok (a0 : List Int) (a1 : List Int) (r : Int) (h : m_slices_Compare_L_int_int a0 a1 = some r) : Pure Try.prog 88 [(.row 1 c_int a0), (.row 1 c_int a1)] (.exact (.int .i64 r)) := by
  unfold m_slices_Compare_L_int_int at h
  refine Pure.ofFun (fun_of_awp Try.func88 rfl Try.ntmps88 (by simp) rfl (res1 rfl) fun E hE => k_end ?_)
  refine k_seq ?_
  refine k_reg .free hmixP (by kernel_rfl) ?_
  refine G_q rfl (op_assign (av := .exact (.int .i64 0)) rfl ?_)
  refine G_nil ?_
  refine kC_normal ?_
  refine k_join0_0 h ((AF.put (AF.put AF0 (some 0) (.row 1 c_int a0)) (some 1) (.row 1 c_int a1))) ([]) (fun k1 h => ?_) (fun  h => ?_)
  · refine k_seq ?_
    refine k_reg .free hmixP (by kernel_rfl) ?_
    refine G_q rfl (op_move (av := .row 1 c_int a0) rfl ?_)
    refine G_q rfl (op_len_row (by kernel_rfl) rfl ?_)
    refine G_q rfl (op_move (av := .exact (.int .i64 0)) rfl ?_)
    refine G_nil ?_
    refine kC_normal ?_
    refine k_block ?_
    refine k_loop1_0 (m_slices_Compare_L_int_int_L2 a0 a1 k1) (m_slices_Compare_L_int_int_B2 a0 a1 k1) (fun _ => rfl) (fun m _ => rfl) h (fun (x11_l2 : Int) => (AF.put (AF.put (AF.put (AF.put (AF.put AF0 (some 0) (.row 1 c_int a0)) (some 1) (.row 1 c_int a1)) (some 9) (.row 1 c_int a0)) (some 10) (.exact (.int .i64 (List.length a0 : Int)))) (some 11) (.exact (.int .i64 x11_l2)))) (fun (x11_l2 : Int) => []) ?_ (fun rec2 x11_l2 h => ?_)
    · exact Sub.of_le (AF.le_put (AV.le_eq rfl) (AF.le_put (AV.le_eq rfl) (AF.le_put (AV.le_eq rfl) (AF.le_put (AV.le_eq rfl) (AF.le_put (AV.le_eq rfl) (AF.le_top _))))))
    · unfold m_slices_Compare_L_int_int_B2 at h
      refine k_seq ?_
      refine k_reg .free hmixP (by kernel_rfl) ?_
      refine G_q rfl (op_lss rfl rfl ?_)
      refine G_nil ?_
      refine kC_normal ?_
      refine k_seq ?_
      refine k_cond_d (p := x11_l2 < (List.length a0 : Int)) rfl (fun hc => ?_) (fun hc => ?_)
      · replace h := ite_t h hc
        refine k_skip ?_
        refine kC_normal ?_
        refine k_seq ?_
        refine k_block ?_
        refine k_seq ?_
        refine k_reg .free hmixP (by kernel_rfl) ?_
        refine G_q rfl (op_move (av := .exact (.int .i64 x11_l2)) rfl ?_)
        obtain ⟨n18, h⟩ := need_some h
        refine G_q rfl (op_index_row (by kernel_rfl) rfl rfl n18.1 n18.2 ?_)
        refine G_q rfl (op_load1p (a := .exact (.int .i64 (gi a0 x11_l2))) (by kernel_rfl) rfl rfl ?_)
        refine G_q rfl (op_assign (av := .exact (.int .i64 x11_l2)) rfl ?_)
        refine G_q rfl (op_assign (av := .exact (.int .i64 (gi a0 x11_l2))) rfl ?_)
        refine G_nil ?_
        refine kC_normal ?_
        refine k_seq ?_
        refine k_seq ?_
        refine k_reg .free hmixP (by kernel_rfl) ?_
        refine G_q rfl (op_move (av := .exact (.int .i64 x11_l2)) rfl ?_)
        refine G_q rfl (op_move (av := .row 1 c_int a1) rfl ?_)
        refine G_q rfl (op_len_row (by kernel_rfl) rfl ?_)
        refine G_q rfl (op_geq rfl rfl ?_)
        refine G_nil ?_
        refine kC_normal ?_
        refine k_cond_d (p := (List.length a1 : Int) ≤ x11_l2) rfl (fun hc => ?_) (fun hc => ?_)
        · replace h := ite_t h hc
          refine k_seq ?_
          refine k_reg .free hmixP (by kernel_rfl) ?_
          refine G_q rfl (op_assign (av := .exact (.int .i64 1)) rfl ?_)
          refine G_nil ?_
          refine kC_normal ?_
          refine k_ret ?_
          refine kC_ret ?_
          refine kB_ret ?_
          refine kC_ret ?_
          refine kI_ret ?_
          refine kB_ret ?_
          refine kI_ret ?_
          obtain rfl := Option.some.inj h
          refine kP_any (endN (af' := (AF.put AF0 (some 4) (.exact (.int .i64 1)))) (σ' := []) _ rfl ?_ ⟨rfl, rfl⟩)
          exact Sub.of_le (AF.le_put (AV.le_eq rfl) (AF.le_top _))
        · replace h := ite_f h hc
          refine k_skip ?_
          refine kC_normal ?_
          refine k_seq ?_
          refine k_reg .free hmixP (by kernel_rfl) ?_
          refine G_q rfl (op_move (av := .row 1 c_int a1) rfl ?_)
          refine G_q rfl (op_move (av := .exact (.int .i64 x11_l2)) rfl ?_)
          obtain ⟨n19, h⟩ := need_some h
          refine G_q rfl (op_index_row (by kernel_rfl) rfl rfl n19.1 n19.2 ?_)
          refine G_q rfl (op_load1p (a := .exact (.int .i64 (gi a1 x11_l2))) (by kernel_rfl) rfl rfl ?_)
          refine G_q rfl (op_assign (av := .exact (.int .i64 (gi a1 x11_l2))) rfl ?_)
          refine G_nil ?_
          refine kC_normal ?_
          refine k_seq ?_
          refine k_reg .free hmixP (by kernel_rfl) ?_
          refine G_q rfl (op_move (av := .exact (.int .i64 (gi a0 x11_l2))) rfl ?_)
          refine G_q rfl (op_move (av := .exact (.int .i64 (gi a1 x11_l2))) rfl ?_)
          obtain ⟨y20, hy20, h⟩ := bnd1_some h
          refine G_q rfl (op_pure (m_cmp_Compare_int_ok _ _ _ hy20) Try.func103 (by kernel_rfl) (LEs.cons (AV.le_eq rfl) (LEs.cons (AV.le_eq rfl) LEs.nil)) ?_)
          refine G_q rfl (op_assign (av := .exact (.int .i64 y20)) rfl ?_)
          refine G_nil ?_
          refine kC_normal ?_
          refine k_seq ?_
          refine k_reg .free hmixP (by kernel_rfl) ?_
          refine G_q rfl (op_move (av := .exact (.int .i64 y20)) rfl ?_)
          refine G_q rfl (op_neq rfl rfl ?_)
          refine G_nil ?_
          refine kC_normal ?_
          refine k_cond_d (p := ¬ y20 = 0) rfl (fun hc => ?_) (fun hc => ?_)
          · replace h := ite_t h hc
            refine k_seq ?_
            refine k_reg .free hmixP (by kernel_rfl) ?_
            refine G_q rfl (op_move (av := .exact (.int .i64 y20)) rfl ?_)
            refine G_q rfl (op_assign (av := .exact (.int .i64 y20)) rfl ?_)
            refine G_nil ?_
            refine kC_normal ?_
            refine k_ret ?_
            refine kB_ret ?_
            refine kC_ret ?_
            refine kI_ret ?_
            refine kB_ret ?_
            refine kI_ret ?_
            obtain rfl := Option.some.inj h
            refine kP_any (endN (af' := (AF.put AF0 (some 4) (.exact (.int .i64 y20)))) (σ' := []) _ rfl ?_ ⟨rfl, rfl⟩)
            exact Sub.of_le (AF.le_put (AV.le_eq rfl) (AF.le_top _))
          · replace h := ite_f h hc
            refine k_skip ?_
            refine kB_normal ?_
            refine kC_normal ?_
            refine k_reg .free hmixP (by kernel_rfl) ?_
            refine G_q rfl (op_add rfl rfl rfl ?_)
            refine G_q rfl (op_move (av := .exact (.int .i64 (i64 (x11_l2 + 1)))) rfl ?_)
            refine G_nil ?_
            refine kI_normal ⟨_, h, ?_⟩
            exact Sub.of_le (AF.le_put (AV.le_eq rfl) (AF.le_put (AV.le_eq rfl) (AF.le_put (AV.le_eq rfl) (AF.le_put (AV.le_eq rfl) (AF.le_put (AV.le_eq rfl) (AF.le_top _))))))
      · replace h := ite_f h hc
        refine k_exit ?_
        refine kC_exit ?_
        refine kI_exit ?_
        refine kB_exit ?_
        refine kI_normal ⟨h, ?_⟩
        exact Sub.of_le (AF.le_put (AV.le_eq rfl) (AF.le_put (AV.le_eq rfl) (AF.le_top _)))
  · refine k_seq ?_
    refine k_seq ?_
    refine k_reg .free hmixP (by kernel_rfl) ?_
    refine G_q rfl (op_move (av := .row 1 c_int a0) rfl ?_)
    refine G_q rfl (op_len_row (by kernel_rfl) rfl ?_)
    refine G_q rfl (op_move (av := .row 1 c_int a1) rfl ?_)
    refine G_q rfl (op_len_row (by kernel_rfl) rfl ?_)
    refine G_q rfl (op_lss rfl rfl ?_)
    refine G_nil ?_
    refine kC_normal ?_
    refine k_cond_d (p := (List.length a0 : Int) < (List.length a1 : Int)) rfl (fun hc => ?_) (fun hc => ?_)
    · replace h := ite_t h hc
      refine k_seq ?_
      refine k_reg .free hmixP (by kernel_rfl) ?_
      refine G_q rfl (op_assign (av := .exact (.int .i64 (-1))) rfl ?_)
      refine G_nil ?_
      refine kC_normal ?_
      refine k_ret ?_
      refine kC_ret ?_
      obtain rfl := Option.some.inj h
      refine kP_any (endN (af' := (AF.put AF0 (some 4) (.exact (.int .i64 (-1))))) (σ' := []) _ rfl ?_ ⟨rfl, rfl⟩)
      exact Sub.of_le (AF.le_put (AV.le_eq rfl) (AF.le_top _))
    · replace h := ite_f h hc
      refine k_skip ?_
      refine kC_normal ?_
      refine k_seq ?_
      refine k_reg .free hmixP (by kernel_rfl) ?_
      refine G_q rfl (op_assign (av := .exact (.int .i64 0)) rfl ?_)
      refine G_nil ?_
      refine kC_normal ?_
      refine k_ret ?_
      obtain rfl := Option.some.inj h
      refine kP_any (endN (af' := (AF.put AF0 (some 4) (.exact (.int .i64 0)))) (σ' := []) _ rfl ?_ ⟨rfl, rfl⟩)
      exact Sub.of_le (AF.le_put (AV.le_eq rfl) (AF.le_top _))
set_option maxHeartbeats 4000000 in
theorem m_frontier_compare_ok (a0 : Int × Int) (a1 : Int × Int) (r : Int) (h : m_frontier_compare a0 a1 = some r) : Pure Try.prog 61 [(.agg (c_A2_int a0)), (.agg (c_A2_int a1))] (.exact (.int .i64 r)) := by
  unfold m_frontier_compare at h
  refine Pure.ofFun (fun_of_awp Try.func61 rfl Try.ntmps61 (by simp) rfl (res1 rfl) fun E hE => k_end ?_)
  refine k_seq ?_
  refine k_reg .free hmixP (by kernel_rfl) ?_
  refine G_q rfl (op_box (c := c_A2_int a0) rfl CellsOf.agg ?_)
  refine G_q rfl (op_box (c := c_A2_int a1) rfl CellsOf.agg ?_)
  refine G_q rfl (op_assign (av := .exact (.int .i64 0)) rfl ?_)
  refine G_nil ?_
  refine kC_normal ?_
  refine k_seq ?_
  refine k_plan [] [(0, 0), (0, 1), (0, 2), (0, 3)] hmixP (by kernel_rfl) ?_
  refine P_q no34_0 rfl (op_slice_ptr (m := 2) (n := 1) (enc := c_int) [a0.1, a0.2] (by kernel_rfl) (by decide) rfl rfl rfl len_c_int ?_)
  refine P_q no34_0 rfl (op_slice_ptr (m := 2) (n := 1) (enc := c_int) [a1.1, a1.2] (by kernel_rfl) (by decide) rfl rfl rfl len_c_int ?_)
  obtain ⟨y1, hy1, h⟩ := bnd1_some h
  refine P_q no34_0 rfl (op_pure (m_slices_Compare_L_int_int_ok _ _ _ hy1) Try.func88 (by kernel_rfl) (LEs.cons (AV.le_eq rfl) (LEs.cons (AV.le_eq rfl) LEs.nil)) ?_)
  refine P_q no34_0 rfl (op_assign (av := .exact (.int .i64 y1)) rfl ?_)
  refine P_nil ?_
  refine kC_normal ?_
  refine k_ret ?_
  obtain rfl := Option.some.inj h
  refine kP_any (endN (af' := (AF.put AF0 (some 4) (.exact (.int .i64 y1)))) (σ' := []) _ rfl ?_ ⟨rfl, rfl⟩)
  exact Sub.of_le (AF.le_put (AV.le_eq rfl) (AF.le_top _))
set_option maxHeartbeats 4000000 in
theorem m_frontier_isRun_ok (a0 : List (Int × Int)) (r : Bool) (h : m_frontier_isRun a0 = some r) : Pure Try.prog 48 [(.row 2 c_A2_int a0)] (.exact (.bool r)) := by
  unfold m_frontier_isRun at h
  refine Pure.ofFun (fun_of_awp Try.func48 rfl Try.ntmps48 (by simp) rfl (res1 rfl) fun E hE => k_end ?_)
  refine k_seq ?_
  refine k_reg .free hmixP (by kernel_rfl) ?_
  refine G_q rfl (op_assign (av := .exact (.bool false)) rfl ?_)
  refine G_nil ?_
  refine kC_normal ?_
  refine k_join0_0 h (AF0) ([]) (fun k1 h => ?_) (fun  h => ?_)
  · refine k_seq ?_
    refine k_reg .free hmixP (by kernel_rfl) ?_
    refine G_q rfl (op_move (av := .row 2 c_A2_int a0) rfl ?_)
    refine G_q rfl (op_len_row (by kernel_rfl) rfl ?_)
    refine G_q rfl (op_move (av := .exact (.int .i64 0)) rfl ?_)
    refine G_nil ?_
    refine kC_normal ?_
    refine k_block ?_
    refine k_loop1_0 (m_frontier_isRun_L2 a0 k1) (m_frontier_isRun_B2 a0 k1) (fun _ => rfl) (fun m _ => rfl) h (fun (x7_l2 : Int) => (AF.put (AF.put (AF.put (AF.put AF0 (some 0) (.row 2 c_A2_int a0)) (some 5) (.row 2 c_A2_int a0)) (some 6) (.exact (.int .i64 (List.length a0 : Int)))) (some 7) (.exact (.int .i64 x7_l2)))) (fun (x7_l2 : Int) => []) ?_ (fun rec2 x7_l2 h => ?_)
    · exact Sub.of_le (AF.le_put (AV.le_eq rfl) (AF.le_put (AV.le_eq rfl) (AF.le_put (AV.le_eq rfl) (AF.le_put (AV.le_eq rfl) (AF.le_top _)))))
    · unfold m_frontier_isRun_B2 at h
      refine k_seq ?_
      refine k_reg .free hmixP (by kernel_rfl) ?_
      refine G_q rfl (op_lss rfl rfl ?_)
      refine G_nil ?_
      refine kC_normal ?_
      refine k_seq ?_
      refine k_cond_d (p := x7_l2 < (List.length a0 : Int)) rfl (fun hc => ?_) (fun hc => ?_)
      · replace h := ite_t h hc
        refine k_skip ?_
        refine kC_normal ?_
        refine k_seq ?_
        refine k_block ?_
        refine k_seq ?_
        refine k_reg .free hmixP (by kernel_rfl) ?_
        refine G_q rfl (op_move (av := .exact (.int .i64 x7_l2)) rfl ?_)
        obtain ⟨n108, h⟩ := need_some h
        refine G_q rfl (op_index_row (by kernel_rfl) rfl rfl n108.1 n108.2 ?_)
        refine G_q rfl (op_loadNp (m := 2) (c' := c_A2_int (gi a0 x7_l2)) (by kernel_rfl) rfl rfl rfl ?_)
        refine G_l rfl (op_alloc (c := [.exact (.int .i64 ((0, 0).1)), .exact (.int .i64 ((0, 0).2))]) rfl (LEs.cons (AV.le_eq rfl) (LEs.cons (AV.le_eq rfl) LEs.nil)) (fun b109 => ?_))
        refine G_q rfl (op_assign (av := .exact (.int .i64 x7_l2)) rfl ?_)
        refine G_l rfl (op_store_box (c' := [.exact (.int .i64 ((gi a0 x7_l2).1)), .exact (.int .i64 ((gi a0 x7_l2).2))]) (c3 := [.exact (.int .i64 ((gi a0 x7_l2).1)), .exact (.int .i64 ((gi a0 x7_l2).2))]) rfl rfl CellsOf.agg (LEs.cons (AV.le_eq rfl) (LEs.cons (AV.le_eq rfl) LEs.nil)) (oc_c_A2_int _) (by kernel_rfl) (Nat.le_of_ble_eq_true rfl) rfl ?_)
        refine G_nil ?_
        refine kC_normal ?_
        refine k_join1_0 h (fun (x28_j110 : Bool) => (AF.put (AF.put (AF.put (AF.put (AF.put AF0 (some 0) (.row 2 c_A2_int a0)) (some 5) (.row 2 c_A2_int a0)) (some 6) (.exact (.int .i64 (List.length a0 : Int)))) (some 7) (.exact (.int .i64 x7_l2))) (some 28) (.exact (.bool x28_j110)))) (fun (x28_j110 : Bool) => []) (fun k110 h => ?_) (fun x28_j110 h => ?_)
        · refine k_plan [] [(1, 0), (0, 1), (0, 2), (0, 3), (0, 4), (0, 5), (0, 6), (0, 7), (0, 8), (0, 9), (0, 10), (0, 11), (1, 12), (0, 13), (0, 14), (0, 15), (0, 16)] hmixP (by kernel_rfl) ?_
          refine P_r rfl (op_load_boxN (m := 2) (c' := c_A2_int ((gi a0 x7_l2).1, (gi a0 x7_l2).2)) (by kernel_rfl) rfl rfl rfl ?_)
          obtain ⟨y114, hy114, h⟩ := bnd1_some h
          refine P_q no34_0 rfl (op_pure (m_frontier_isPair_ok _ _ hy114) Try.func62 (by kernel_rfl) (LEs.cons (AV.le_eq rfl) LEs.nil) ?_)
          refine P_q no34_0 rfl (op_not rfl ?_)
          refine P_q no34_0 rfl (op_move (av := .exact (.bool (!y114))) rfl ?_)
          refine P_splitB (c := !y114) 15 rfl (fun hc => ?_) (fun hc => ?_)
          · replace h := ite_t h hc
            refine P_n no34_0 rfl rfl rfl ?_
            refine P_n no34_0 rfl rfl rfl ?_
            refine P_n no34_0 rfl rfl rfl ?_
            refine P_u no34_0 rfl rfl rfl ?_
            refine P_u no34_0 rfl rfl rfl ?_
            refine P_u no34_0 rfl rfl rfl ?_
            refine P_u no34_0 rfl rfl rfl ?_
            refine P_u no34_0 rfl rfl rfl ?_
            refine P_u no34_1 rfl rfl rfl ?_
            refine P_u no34_0 rfl rfl rfl ?_
            refine P_u no34_0 rfl rfl rfl ?_
            refine P_n no34_0 rfl rfl rfl ?_
            refine P_q no34_0 rfl (op_pick_t rfl (av := .exact (.bool true)) rfl ?_)
            refine P_nil ?_
            refine kI_normal ⟨_, h, ?_⟩
            refine Sub.trans (SubU.to SubU.drop) ?_
            exact Sub.of_le (AF.le_put (AV.le_eq rfl) (AF.le_put (AV.le_eq rfl) (AF.le_put (AV.le_eq rfl) (AF.le_put (AV.le_eq rfl) (AF.le_put (AV.le_eq rfl) (AF.le_top _))))))
          · replace h := ite_f h hc
            refine Py_q no34_0 rfl rfl rfl (op_move (av := .exact (.int .i64 x7_l2)) rfl ?_)
            refine Py_q no34_0 rfl rfl rfl (op_gtr rfl rfl ?_)
            refine Py_q no34_0 rfl rfl rfl (op_move (av := .exact (.bool (decide (0 < x7_l2)))) rfl ?_)
            refine P_split (p := 0 < x7_l2) 18 rfl (fun hc => ?_) (fun hc => ?_)
            · replace h := ite_t h hc
              refine Py_q no34_0 rfl rfl rfl (op_move (av := .row 2 c_A2_int a0) rfl ?_)
              refine Py_q no34_0 rfl rfl rfl (op_move (av := .exact (.int .i64 x7_l2)) rfl ?_)
              refine Py_q no34_0 rfl rfl rfl (op_sub rfl rfl rfl ?_)
              obtain ⟨n115, h⟩ := need_some h
              refine Py_q no34_0 rfl rfl rfl (op_index_row (by kernel_rfl) rfl rfl n115.1 n115.2 ?_)
              refine Py_q no34_0 rfl rfl rfl (op_loadNp (m := 2) (c' := c_A2_int (gi a0 (i64 (x7_l2 - 1)))) (by kernel_rfl) rfl rfl rfl ?_)
              refine Py_r rfl rfl rfl (op_load_boxN (m := 2) (c' := c_A2_int ((gi a0 x7_l2).1, (gi a0 x7_l2).2)) (by kernel_rfl) rfl rfl rfl ?_)
              obtain ⟨y116, hy116, h⟩ := bnd1_some h
              refine Py_q no34_0 rfl rfl rfl (op_pure (m_frontier_compare_ok _ _ _ hy116) Try.func61 (by kernel_rfl) (LEs.cons (AV.le_eq rfl) (LEs.cons (AV.le_eq rfl) LEs.nil)) ?_)
              refine Py_q no34_0 rfl rfl rfl (op_geq rfl rfl ?_)
              refine Py_q no34_0 rfl rfl rfl (op_pick_t rfl (av := .exact (.bool (decide (0 ≤ y116)))) rfl ?_)
              refine P_q no34_0 rfl (op_pick_f rfl (av := .exact (.bool (decide (0 ≤ y116)))) rfl ?_)
              refine P_nil ?_
              refine kI_normal ⟨_, h, ?_⟩
              refine Sub.trans (SubU.to SubU.drop) ?_
              exact Sub.of_le (AF.le_put (AV.le_eq rfl) (AF.le_put (AV.le_eq rfl) (AF.le_put (AV.le_eq rfl) (AF.le_put (AV.le_eq rfl) (AF.le_put (AV.le_eq rfl) (AF.le_top _))))))
            · replace h := ite_f h hc
              refine P_n no34_0 rfl rfl rfl ?_
              refine P_n no34_0 rfl rfl rfl ?_
              refine P_n no34_0 rfl rfl rfl ?_
              refine P_n no34_0 rfl rfl rfl ?_
              refine P_n no34_0 rfl rfl rfl ?_
              refine P_n no34_1 rfl rfl rfl ?_
              refine P_n no34_0 rfl rfl rfl ?_
              refine P_n no34_0 rfl rfl rfl ?_
              refine Py_q no34_0 rfl rfl rfl (op_pick_f rfl (av := .exact (.bool false)) rfl ?_)
              refine P_q no34_0 rfl (op_pick_f rfl (av := .exact (.bool false)) rfl ?_)
              refine P_nil ?_
              refine kI_normal ⟨_, h, ?_⟩
              refine Sub.trans (SubU.to SubU.drop) ?_
              exact Sub.of_le (AF.le_put (AV.le_eq rfl) (AF.le_put (AV.le_eq rfl) (AF.le_put (AV.le_eq rfl) (AF.le_put (AV.le_eq rfl) (AF.le_put (AV.le_eq rfl) (AF.le_top _))))))
        · refine k_cond_b (c := x28_j110) rfl (fun hc => ?_) (fun hc => ?_)
          · replace h := ite_t h hc
            refine k_seq ?_
            refine k_reg .free hmixP (by kernel_rfl) ?_
            refine G_q rfl (op_assign (av := .exact (.bool false)) rfl ?_)
            refine G_nil ?_
            refine kC_normal ?_
            refine k_ret ?_
            refine kB_ret ?_
            refine kC_ret ?_
            refine kI_ret ?_
            refine kB_ret ?_
            refine kI_ret ?_
            obtain rfl := Option.some.inj h
            refine kP_any (endN (af' := (AF.put AF0 (some 2) (.exact (.bool false)))) (σ' := []) _ rfl ?_ ⟨rfl, rfl⟩)
            exact Sub.of_le (AF.le_put (AV.le_eq rfl) (AF.le_top _))
          · replace h := ite_f h hc
            refine k_skip ?_
            refine kB_normal ?_
            refine kC_normal ?_
            refine k_reg .free hmixP (by kernel_rfl) ?_
            refine G_q rfl (op_add rfl rfl rfl ?_)
            refine G_q rfl (op_move (av := .exact (.int .i64 (i64 (x7_l2 + 1)))) rfl ?_)
            refine G_nil ?_
            refine kI_normal ⟨_, h, ?_⟩
            exact Sub.of_le (AF.le_put (AV.le_eq rfl) (AF.le_put (AV.le_eq rfl) (AF.le_put (AV.le_eq rfl) (AF.le_put (AV.le_eq rfl) (AF.le_top _)))))
      · replace h := ite_f h hc
        refine k_exit ?_
        refine kC_exit ?_
        refine kI_exit ?_
        refine kB_exit ?_
        refine kI_normal ⟨h, ?_⟩
        exact Sub.of_le (AF.le_top _)
  · refine k_seq ?_
    refine k_reg .free hmixP (by kernel_rfl) ?_
    refine G_q rfl (op_assign (av := .exact (.bool true)) rfl ?_)
    refine G_nil ?_
    refine kC_normal ?_
    refine k_ret ?_
    obtain rfl := Option.some.inj h
    refine kP_any (endN (af' := (AF.put AF0 (some 2) (.exact (.bool true)))) (σ' := []) _ rfl ?_ ⟨rfl, rfl⟩)
    exact Sub.of_le (AF.le_put (AV.le_eq rfl) (AF.le_top _))
set_option maxHeartbeats 4000000 in
theorem m_frontier_isBlock_ok (a0 : List (Int × Int)) (r : Bool) (h : m_frontier_isBlock a0 = some r) : Pure Try.prog 77 [(.row 2 c_A2_int a0)] (.exact (.bool r)) := by
  unfold m_frontier_isBlock at h
  refine Pure.ofFun (fun_of_awp Try.func77 rfl Try.ntmps77 (by simp) rfl (res1 rfl) fun E hE => k_end ?_)
  refine k_seq ?_
  refine k_reg .free hmixP (by kernel_rfl) ?_
  refine G_q rfl (op_assign (av := .exact (.bool false)) rfl ?_)
  refine G_nil ?_
  refine kC_normal ?_
  refine k_join1_0 h (fun (x2_j1 : Bool) => (AF.put AF0 (some 2) (.exact (.bool x2_j1)))) (fun (x2_j1 : Bool) => []) (fun k1 h => ?_) (fun x2_j1 h => ?_)
  · refine k_reg .free hmixP (by kernel_rfl) ?_
    refine G_q rfl (op_move (av := .row 2 c_A2_int a0) rfl ?_)
    refine G_q rfl (op_len_row (by kernel_rfl) rfl ?_)
    refine G_q rfl (op_geq rfl rfl ?_)
    refine G_q rfl (op_move (av := .exact (.bool (decide (1 ≤ (List.length a0 : Int))))) rfl ?_)
    refine G_split (p := 1 ≤ (List.length a0 : Int)) 6 rfl (fun hc => ?_) (fun hc => ?_)
    · replace h := ite_t h hc
      refine Gy_q rfl rfl rfl (op_move (av := .row 2 c_A2_int a0) rfl ?_)
      refine Gy_q rfl rfl rfl (op_len_row (by kernel_rfl) rfl ?_)
      refine Gy_q rfl rfl rfl (op_leq rfl rfl ?_)
      refine G_q rfl (op_pick_t rfl (av := .exact (.bool (decide ((List.length a0 : Int) ≤ 1024)))) rfl ?_)
      refine G_q rfl (op_move (av := .exact (.bool (decide ((List.length a0 : Int) ≤ 1024)))) rfl ?_)
      refine G_split (p := (List.length a0 : Int) ≤ 1024) 11 rfl (fun hc => ?_) (fun hc => ?_)
      · replace h := ite_t h hc
        refine Gy_q rfl rfl rfl (op_move (av := .row 2 c_A2_int a0) rfl ?_)
        obtain ⟨y3, hy3, h⟩ := bnd1_some h
        refine Gy_q rfl rfl rfl (op_pure (m_frontier_isRun_ok _ _ hy3) Try.func48 (by kernel_rfl) (LEs.cons (AV.le_eq rfl) LEs.nil) ?_)
        refine G_q rfl (op_pick_t rfl (av := .exact (.bool y3)) rfl ?_)
        refine G_q rfl (op_assign (av := .exact (.bool y3)) rfl ?_)
        refine G_nil ?_
        refine kI_normal ⟨_, h, ?_⟩
        exact Sub.of_le (AF.le_put (AV.le_eq rfl) (AF.le_top _))
      · replace h := ite_f h hc
        refine G_n rfl rfl ?_
        refine G_n rfl rfl ?_
        refine G_q rfl (op_pick_f rfl (av := .exact (.bool false)) rfl ?_)
        refine G_q rfl (op_assign (av := .exact (.bool false)) rfl ?_)
        refine G_nil ?_
        refine kI_normal ⟨_, h, ?_⟩
        exact Sub.of_le (AF.le_put (AV.le_eq rfl) (AF.le_top _))
    · replace h := ite_f h hc
      refine G_n rfl rfl ?_
      refine G_n rfl rfl ?_
      refine G_n rfl rfl ?_
      refine G_q rfl (op_pick_f rfl (av := .exact (.bool false)) rfl ?_)
      refine G_q rfl (op_move (av := .exact (.bool false)) rfl ?_)
      refine G_n rfl rfl ?_
      refine G_n rfl rfl ?_
      refine G_q rfl (op_pick_f rfl (av := .exact (.bool false)) rfl ?_)
      refine G_q rfl (op_assign (av := .exact (.bool false)) rfl ?_)
      refine G_nil ?_
      refine kI_normal ⟨_, h, ?_⟩
      exact Sub.of_le (AF.le_put (AV.le_eq rfl) (AF.le_top _))
  · refine k_ret ?_
    obtain rfl := Option.some.inj h
    refine kP_any (endN (af' := (AF.put AF0 (some 2) (.exact (.bool x2_j1)))) (σ' := []) _ rfl ?_ ⟨rfl, rfl⟩)
    exact Sub.of_le (AF.le_put (AV.le_eq rfl) (AF.le_top _))
set_option maxHeartbeats 4000000 in
theorem m_codec_AppendUvarint_ok {w0 : Value} (a0 : List UInt8) (a1 : Int) (r : (List UInt8)) (h : m_codec_AppendUvarint a0 a1 = some r) : Fun Try.prog 83 [(.exact w0), (.exact (.int .i64 a1))] [vecT Try.prog 32 1 c_uint8 w0 a0] (fun a s => ∃ z0, a = .exact z0 ∧ s = [vecT Try.prog 32 1 c_uint8 z0 r]) := by
  unfold m_codec_AppendUvarint at h
  refine fun_of_awp Try.func83 rfl Try.ntmps83 (by simp) rfl (res1 rfl) fun E hE => k_end ?_
  refine k_seq ?_
  refine k_reg .free hmixP (by kernel_rfl) ?_
  refine G_q rfl (op_assign (av := .exact (.slice none 0 0)) rfl ?_)
  refine G_nil ?_
  refine kC_normal ?_
  refine k_join2_1 h (fun (x0_j1 : List UInt8) (x1_j1 : Int) (v0_j1 : Value) => (AF.put (AF.put AF0 (some 0) (.exact v0_j1)) (some 1) (.exact (.int .i64 x1_j1)))) (fun (x0_j1 : List UInt8) (x1_j1 : Int) (v0_j1 : Value) => [vecT Try.prog 32 1 c_uint8 v0_j1 x0_j1]) (fun k1 h => ?_) (fun x0_j1 x1_j1 v0_j1 h => ?_)
  · refine k_block ?_
    refine k_loop2_1 (m_codec_AppendUvarint_L2 k1) (m_codec_AppendUvarint_B2 k1) (fun _ _ => rfl) (fun m _ _ => rfl) h (fun (x0_l2 : List UInt8) (x1_l2 : Int) (v0_l2 : Value) => (AF.put (AF.put AF0 (some 0) (.exact v0_l2)) (some 1) (.exact (.int .i64 x1_l2)))) (fun (x0_l2 : List UInt8) (x1_l2 : Int) (v0_l2 : Value) => [vecT Try.prog 32 1 c_uint8 v0_l2 x0_l2]) w0 ?_ (fun rec2 x0_l2 x1_l2 v0_l2 h => ?_)
    · exact Sub.of_le (AF.le_put (AV.le_eq rfl) (AF.le_put (AV.le_eq rfl) (AF.le_top _)))
    · unfold m_codec_AppendUvarint_B2 at h
      refine k_seq ?_
      refine k_seq ?_
      refine k_reg .free hmixP (by kernel_rfl) ?_
      refine G_q rfl (op_move (av := .exact (.int .i64 x1_l2)) rfl ?_)
      refine G_q rfl (op_geq rfl rfl ?_)
      refine G_nil ?_
      refine kC_normal ?_
      refine k_cond_d (p := 128 ≤ x1_l2) rfl (fun hc => ?_) (fun hc => ?_)
      · replace h := ite_t h hc
        refine k_skip ?_
        refine kC_normal ?_
        refine k_block ?_
        refine k_seq ?_
        refine k_reg .free hmixP (by kernel_rfl) ?_
        refine G_q rfl (op_move (av := .exact v0_l2) rfl ?_)
        refine G_q rfl (op_move (av := .exact (.int .i64 x1_l2)) rfl ?_)
        refine G_q rfl (op_and rfl rfl rfl ?_)
        refine G_q rfl (op_or rfl rfl rfl ?_)
        refine G_q rfl (op_convInt (k := .u8) (r := (UInt8.toNat (u8i (bOr .i64 (bAnd .i64 x1_l2 127) 128)) : Int)) (by kernel_rfl) rfl (u8i_eq _) ?_)
        refine G_q rfl (op_litT (n := 1) (enc := c_uint8) [u8i (bOr .i64 (bAnd .i64 x1_l2 127) 128)] (CellsAll.cons rfl CellsOf.int CellsAll.nil) rfl (by kernel_rfl) (LEss.cons (LEs.cons (AV.le_eq rfl) LEs.nil) LEss.nil) ?_)
        obtain ⟨n13, h⟩ := need_some h
        refine G_l rfl (op_appT (by kernel_rfl) rfl rfl oc_c_uint8 n13 (fun v14 => ?_))
        refine G_q rfl (op_assign (av := .exact v14) rfl ?_)
        refine G_nil ?_
        refine kC_normal ?_
        refine k_reg .free hmixP (by kernel_rfl) ?_
        refine G_q rfl (op_move (av := .exact (.int .i64 x1_l2)) rfl ?_)
        refine G_q rfl (op_shr rfl rfl (by decide) rfl ?_)
        refine G_q rfl (op_assign (av := .exact (.int .i64 (Int.fdiv x1_l2 (2 ^ min (Int.toNat 7) IntKind.i64.bits)))) rfl ?_)
        refine G_nil ?_
        refine kB_normal ?_
        refine kI_normal ⟨_, _, v14, h, ?_⟩
        exact Sub.of_le (AF.le_put (AV.le_eq rfl) (AF.le_put (AV.le_eq rfl) (AF.le_top _)))
      · replace h := ite_f h hc
        refine k_exit ?_
        refine kC_exit ?_
        refine kI_exit ?_
        refine kB_exit ?_
        refine kI_normal ⟨_, _, v0_l2, h, ?_⟩
        exact Sub.of_le (AF.le_put (AV.le_eq rfl) (AF.le_put (AV.le_eq rfl) (AF.le_top _)))
  · refine k_seq ?_
    refine k_reg .free hmixP (by kernel_rfl) ?_
    refine G_q rfl (op_move (av := .exact v0_j1) rfl ?_)
    refine G_q rfl (op_move (av := .exact (.int .i64 x1_j1)) rfl ?_)
    refine G_q rfl (op_convInt (k := .u8) (r := (UInt8.toNat (u8i x1_j1) : Int)) (by kernel_rfl) rfl (u8i_eq _) ?_)
    refine G_q rfl (op_litT (n := 1) (enc := c_uint8) [u8i x1_j1] (CellsAll.cons rfl CellsOf.int CellsAll.nil) rfl (by kernel_rfl) (LEss.cons (LEs.cons (AV.le_eq rfl) LEs.nil) LEss.nil) ?_)
    obtain ⟨n15, h⟩ := need_some h
    refine G_l rfl (op_appT (by kernel_rfl) rfl rfl oc_c_uint8 n15 (fun v16 => ?_))
    refine G_q rfl (op_assign (av := .exact v16) rfl ?_)
    refine G_nil ?_
    refine kC_normal ?_
    refine k_ret ?_
    obtain rfl := Option.some.inj h
    refine kP_any (endN (af' := (AF.put AF0 (some 4) (.exact v16))) (σ' := [vecT Try.prog 32 1 c_uint8 v16 (x0_j1 ++ [u8i x1_j1])]) _ rfl ?_ ⟨v16, rfl, rfl⟩)
    exact Sub.of_le (AF.le_put (AV.le_eq rfl) (AF.le_top _))
set_option maxHeartbeats 4000000 in
theorem m_codec_AppendSum_ok {w0 : Value} (a0 : List UInt8) (a1 : Int) (r : (List UInt8)) (h : m_codec_AppendSum a0 a1 = some r) : Fun Try.prog 84 [(.exact w0), (.exact (.int .i64 a1))] [vecT Try.prog 32 1 c_uint8 w0 a0] (fun a s => ∃ z0, a = .exact z0 ∧ s = [vecT Try.prog 32 1 c_uint8 z0 r]) := by
  unfold m_codec_AppendSum at h
  refine fun_of_awp Try.func84 rfl Try.ntmps84 (by simp) rfl (res1 rfl) fun E hE => k_end ?_
  refine k_seq ?_
  refine k_reg .free hmixP (by kernel_rfl) ?_
  refine G_q rfl (op_assign (av := .exact (.slice none 0 0)) rfl ?_)
  refine G_nil ?_
  refine kC_normal ?_
  refine k_seq ?_
  refine k_reg .free hmixP (by kernel_rfl) ?_
  refine G_q rfl (op_move (av := .exact w0) rfl ?_)
  refine G_q rfl (op_move (av := .exact (.int .i64 a1)) rfl ?_)
  obtain ⟨n1, h⟩ := need_some h
  refine G_r rfl (op_slice_vec (by kernel_rfl) rfl (bnd_some rfl) bnd_none n1.1 n1.2.1 n1.2.2 ?_)
  obtain ⟨y2, hy2, h⟩ := bnd1_some h
  refine G_r rfl (op_borrow (m_codec_Checksum_ok _ _ hy2) Try.func101 (by kernel_rfl) MI.exact (Bors.cons (Bor.vsub (List.Mem.head _) len_c_uint8 (by have hh := n1; first | omega | (simp only [i64] at hh; omega) | (simp only [i64] at hh ⊢; omega))) Bors.nil) ?_)
  refine G_q rfl (op_assign (av := .exact (.int .u32 y2)) rfl ?_)
  refine G_nil ?_
  refine kC_normal ?_
  refine k_seq ?_
  refine k_reg .free hmixP (by kernel_rfl) ?_
  refine G_q rfl (op_move (av := .exact w0) rfl ?_)
  refine G_q rfl (op_move (av := .exact (.int .u32 y2)) rfl ?_)
  refine G_q rfl (op_shr rfl rfl (by decide) rfl ?_)
  refine G_q rfl (op_convInt (k := .u8) (r := (UInt8.toNat (u8i (Int.fdiv y2 (2 ^ min (Int.toNat 24) IntKind.u32.bits))) : Int)) (by kernel_rfl) rfl (u8i_eq _) ?_)
  refine G_q rfl (op_move (av := .exact (.int .u32 y2)) rfl ?_)
  refine G_q rfl (op_shr rfl rfl (by decide) rfl ?_)
  refine G_q rfl (op_convInt (k := .u8) (r := (UInt8.toNat (u8i (Int.fdiv y2 (2 ^ min (Int.toNat 16) IntKind.u32.bits))) : Int)) (by kernel_rfl) rfl (u8i_eq _) ?_)
  refine G_q rfl (op_move (av := .exact (.int .u32 y2)) rfl ?_)
  refine G_q rfl (op_shr rfl rfl (by decide) rfl ?_)
  refine G_q rfl (op_convInt (k := .u8) (r := (UInt8.toNat (u8i (Int.fdiv y2 (2 ^ min (Int.toNat 8) IntKind.u32.bits))) : Int)) (by kernel_rfl) rfl (u8i_eq _) ?_)
  refine G_q rfl (op_move (av := .exact (.int .u32 y2)) rfl ?_)
  refine G_q rfl (op_convInt (k := .u8) (r := (UInt8.toNat (u8i y2) : Int)) (by kernel_rfl) rfl (u8i_eq _) ?_)
  refine G_q rfl (op_litT (n := 1) (enc := c_uint8) [u8i (Int.fdiv y2 (2 ^ min (Int.toNat 24) IntKind.u32.bits)), u8i (Int.fdiv y2 (2 ^ min (Int.toNat 16) IntKind.u32.bits)), u8i (Int.fdiv y2 (2 ^ min (Int.toNat 8) IntKind.u32.bits)), u8i y2] (CellsAll.cons rfl CellsOf.int (CellsAll.cons rfl CellsOf.int (CellsAll.cons rfl CellsOf.int (CellsAll.cons rfl CellsOf.int CellsAll.nil)))) rfl (by kernel_rfl) (LEss.cons (LEs.cons (AV.le_eq rfl) LEs.nil) (LEss.cons (LEs.cons (AV.le_eq rfl) LEs.nil) (LEss.cons (LEs.cons (AV.le_eq rfl) LEs.nil) (LEss.cons (LEs.cons (AV.le_eq rfl) LEs.nil) LEss.nil)))) ?_)
  obtain ⟨n3, h⟩ := need_some h
  refine G_l rfl (op_appT (by kernel_rfl) rfl rfl oc_c_uint8 n3 (fun v4 => ?_))
  refine G_q rfl (op_assign (av := .exact v4) rfl ?_)
  refine G_nil ?_
  refine kC_normal ?_
  refine k_ret ?_
  obtain rfl := Option.some.inj h
  refine kP_any (endN (af' := (AF.put AF0 (some 4) (.exact v4))) (σ' := [vecT Try.prog 32 1 c_uint8 v4 (a0 ++ [u8i (Int.fdiv y2 (2 ^ min (Int.toNat 24) IntKind.u32.bits)), u8i (Int.fdiv y2 (2 ^ min (Int.toNat 16) IntKind.u32.bits)), u8i (Int.fdiv y2 (2 ^ min (Int.toNat 8) IntKind.u32.bits)), u8i y2])]) _ rfl ?_ ⟨v4, rfl, rfl⟩)
  exact Sub.of_le (AF.le_put (AV.le_eq rfl) (AF.le_top _))
set_option maxHeartbeats 4000000 in
theorem m_frontier_encode_ok (a0 : List (Int × Int)) (r : (List UInt8)) (h : m_frontier_encode a0 = some r) : Pure Try.prog 49 [(.row 2 c_A2_int a0)] (.row 1 c_uint8 r) := by
  unfold m_frontier_encode at h
  refine Pure.ofFun (fun_of_awp Try.func49 rfl Try.ntmps49 (by simp) rfl (res1 rfl) fun E hE => k_end ?_)
  refine k_seq ?_
  refine k_reg .free hmixP (by kernel_rfl) ?_
  refine G_q rfl (op_assign (av := .exact (.slice none 0 0)) rfl ?_)
  refine G_nil ?_
  refine kC_normal ?_
  refine k_seq ?_
  refine k_reg .free hmixP (by kernel_rfl) ?_
  refine G_q rfl (op_move (av := .row 2 c_A2_int a0) rfl ?_)
  refine G_q rfl (op_len_row (by kernel_rfl) rfl ?_)
  refine G_sub rfl (SubU.nilT (P := Try.prog) (t := 32) (n := 1) (enc := c_uint8)) ?_
  obtain ⟨y2, hy2, h⟩ := bnd1_some h
  refine G_l rfl (op_fun_1_1_1 (m_codec_AppendUvarint_ok _ _ _ hy2) Try.func83 (by kernel_rfl) (LEs.cons (AV.le_eq rfl) (LEs.cons (AV.le_eq rfl) LEs.nil)) (fun v3 => ?_))
  refine G_q rfl (op_assign (av := .exact v3) rfl ?_)
  refine G_nil ?_
  refine kC_normal ?_
  refine k_join1_1 h (fun (x3_j4 : List UInt8) (v3_j4 : Value) => (AF.put AF0 (some 3) (.exact v3_j4))) (fun (x3_j4 : List UInt8) (v3_j4 : Value) => [vecT Try.prog 32 1 c_uint8 v3_j4 x3_j4]) (fun k4 h => ?_) (fun x3_j4 v3_j4 h => ?_)
  · refine k_seq ?_
    refine k_reg .free hmixP (by kernel_rfl) ?_
    refine G_q rfl (op_move (av := .row 2 c_A2_int a0) rfl ?_)
    refine G_q rfl (op_len_row (by kernel_rfl) rfl ?_)
    refine G_q rfl (op_move (av := .exact (.int .i64 0)) rfl ?_)
    refine G_nil ?_
    refine kC_normal ?_
    refine k_block ?_
    refine k_loop2_1 (m_frontier_encode_L2 a0 k4) (m_frontier_encode_B2 a0 k4) (fun _ _ => rfl) (fun m _ _ => rfl) h (fun (x3_l2 : List UInt8) (x12_l2 : Int) (v3_l2 : Value) => (AF.put (AF.put (AF.put (AF.put (AF.put AF0 (some 0) (.row 2 c_A2_int a0)) (some 3) (.exact v3_l2)) (some 10) (.row 2 c_A2_int a0)) (some 11) (.exact (.int .i64 (List.length a0 : Int)))) (some 12) (.exact (.int .i64 x12_l2)))) (fun (x3_l2 : List UInt8) (x12_l2 : Int) (v3_l2 : Value) => [vecT Try.prog 32 1 c_uint8 v3_l2 x3_l2]) v3 ?_ (fun rec2 x3_l2 x12_l2 v3_l2 h => ?_)
    · exact Sub.of_le (AF.le_put (AV.le_eq rfl) (AF.le_put (AV.le_eq rfl) (AF.le_put (AV.le_eq rfl) (AF.le_put (AV.le_eq rfl) (AF.le_put (AV.le_eq rfl) (AF.le_top _))))))
    · unfold m_frontier_encode_B2 at h
      refine k_seq ?_
      refine k_reg .free hmixP (by kernel_rfl) ?_
      refine G_q rfl (op_lss rfl rfl ?_)
      refine G_nil ?_
      refine kC_normal ?_
      refine k_seq ?_
      refine k_cond_d (p := x12_l2 < (List.length a0 : Int)) rfl (fun hc => ?_) (fun hc => ?_)
      · replace h := ite_t h hc
        refine k_skip ?_
        refine kC_normal ?_
        refine k_join1_1 h (fun (x3_j141 : List UInt8) (v3_j141 : Value) => (AF.put (AF.put (AF.put (AF.put (AF.put AF0 (some 0) (.row 2 c_A2_int a0)) (some 3) (.exact v3_j141)) (some 10) (.row 2 c_A2_int a0)) (some 11) (.exact (.int .i64 (List.length a0 : Int)))) (some 12) (.exact (.int .i64 x12_l2)))) (fun (x3_j141 : List UInt8) (v3_j141 : Value) => [vecT Try.prog 32 1 c_uint8 v3_j141 x3_j141]) (fun k141 h => ?_) (fun x3_j141 v3_j141 h => ?_)
        · refine k_block ?_
          refine k_seq ?_
          refine k_reg .free hmixP (by kernel_rfl) ?_
          refine G_q rfl (op_move (av := .exact (.int .i64 x12_l2)) rfl ?_)
          obtain ⟨n155, h⟩ := need_some h
          refine G_q rfl (op_index_row (by kernel_rfl) rfl rfl n155.1 n155.2 ?_)
          refine G_q rfl (op_loadNp (m := 2) (c' := c_A2_int (gi a0 x12_l2)) (by kernel_rfl) rfl rfl rfl ?_)
          refine G_l rfl (op_alloc (c := [.exact (.int .i64 ((0, 0).1)), .exact (.int .i64 ((0, 0).2))]) rfl (LEs.cons (AV.le_eq rfl) (LEs.cons (AV.le_eq rfl) LEs.nil)) (fun b156 => ?_))
          refine G_q rfl (op_assign (av := .exact (.int .i64 x12_l2)) rfl ?_)
          refine G_l rfl (op_store_box (c' := [.exact (.int .i64 ((gi a0 x12_l2).1)), .exact (.int .i64 ((gi a0 x12_l2).2))]) (c3 := [.exact (.int .i64 ((gi a0 x12_l2).1)), .exact (.int .i64 ((gi a0 x12_l2).2))]) rfl rfl CellsOf.agg (LEs.cons (AV.le_eq rfl) (LEs.cons (AV.le_eq rfl) LEs.nil)) (oc_c_A2_int _) (by kernel_rfl) (Nat.le_of_ble_eq_true rfl) rfl ?_)
          refine G_nil ?_
          refine kC_normal ?_
          refine k_seq ?_
          refine k_reg .free hmixP (by kernel_rfl) ?_
          refine G_q rfl (op_bld (c' := c_A2_int (0, 0)) CellsAll.nil rfl (LEs.cons (AV.le_eq rfl) (LEs.cons (AV.le_eq rfl) LEs.nil)) ?_)
          refine G_l rfl (op_alloc (c := [.exact (.int .i64 ((0, 0).1)), .exact (.int .i64 ((0, 0).2))]) rfl (LEs.cons (AV.le_eq rfl) (LEs.cons (AV.le_eq rfl) LEs.nil)) (fun b157 => ?_))
          refine G_l rfl (op_store_box (c' := [.exact (.int .i64 ((0, 0).1)), .exact (.int .i64 ((0, 0).2))]) (c3 := [.exact (.int .i64 ((0, 0).1)), .exact (.int .i64 ((0, 0).2))]) rfl rfl CellsOf.agg (LEs.cons (AV.le_eq rfl) (LEs.cons (AV.le_eq rfl) LEs.nil)) (oc_c_A2_int _) (by kernel_rfl) (Nat.le_of_ble_eq_true rfl) rfl ?_)
          refine G_nil ?_
          refine kC_normal ?_
          refine k_join2_0 h (fun (x6_0_j158 : Int) (x6_1_j158 : Int) => (AF.put (AF.put (AF.put (AF.put (AF.put (AF.put (AF.put (AF.put AF0 (some 0) (.row 2 c_A2_int a0)) (some 3) (.exact v3_l2)) (some 4) (.exact (.int .i64 x12_l2))) (some 5) (pA b156 0)) (some 6) (pA b157 0)) (some 10) (.row 2 c_A2_int a0)) (some 11) (.exact (.int .i64 (List.length a0 : Int)))) (some 12) (.exact (.int .i64 x12_l2)))) (fun (x6_0_j158 : Int) (x6_1_j158 : Int) => [vecT Try.prog 32 1 c_uint8 v3_l2 x3_l2, boxI 29 b156 [.exact (.int .i64 ((gi a0 x12_l2).1)), .exact (.int .i64 ((gi a0 x12_l2).2))], boxI 29 b157 [.exact (.int .i64 x6_0_j158), .exact (.int .i64 x6_1_j158)]]) (fun k158 h => ?_) (fun x6_0_j158 x6_1_j158 h => ?_)
          · refine k_seq ?_
            refine k_reg .free hmixP (by kernel_rfl) ?_
            refine G_q rfl (op_move (av := .exact (.int .i64 x12_l2)) rfl ?_)
            refine G_q rfl (op_gtr rfl rfl ?_)
            refine G_nil ?_
            refine kC_normal ?_
            refine k_cond_d (p := 0 < x12_l2) rfl (fun hc => ?_) (fun hc => ?_)
            · replace h := ite_t h hc
              refine k_reg .free hmixP (by kernel_rfl) ?_
              refine G_q rfl (op_move (av := .row 2 c_A2_int a0) rfl ?_)
              refine G_q rfl (op_move (av := .exact (.int .i64 x12_l2)) rfl ?_)
              refine G_q rfl (op_sub rfl rfl rfl ?_)
              obtain ⟨n160, h⟩ := need_some h
              refine G_q rfl (op_index_row (by kernel_rfl) rfl rfl n160.1 n160.2 ?_)
              refine G_q rfl (op_loadNp (m := 2) (c' := c_A2_int (gi a0 (i64 (x12_l2 - 1)))) (by kernel_rfl) rfl rfl rfl ?_)
              refine G_l rfl (op_store_box (c' := [.exact (.int .i64 ((gi a0 (i64 (x12_l2 - 1))).1)), .exact (.int .i64 ((gi a0 (i64 (x12_l2 - 1))).2))]) (c3 := [.exact (.int .i64 ((gi a0 (i64 (x12_l2 - 1))).1)), .exact (.int .i64 ((gi a0 (i64 (x12_l2 - 1))).2))]) rfl rfl CellsOf.agg (LEs.cons (AV.le_eq rfl) (LEs.cons (AV.le_eq rfl) LEs.nil)) (oc_c_A2_int _) (by kernel_rfl) (Nat.le_of_ble_eq_true rfl) rfl ?_)
              refine G_nil ?_
              refine kI_normal ⟨_, _, h, ?_⟩
              refine Sub.trans (SubU.to SubU.f1) ?_
              refine Sub.trans (SubU.to SubU.f2) ?_
              exact Sub.of_le (AF.le_put (AV.le_eq rfl) (AF.le_put (AV.le_eq rfl) (AF.le_put (AV.le_eq rfl) (AF.le_put (AV.le_eq rfl) (AF.le_put (AV.le_eq rfl) (AF.le_put (AV.le_eq rfl) (AF.le_put (AV.le_eq rfl) (AF.le_put (AV.le_eq rfl) (AF.le_top _)))))))))
            · replace h := ite_f h hc
              refine k_skip ?_
              refine kI_normal ⟨_, _, h, ?_⟩
              refine Sub.trans (SubU.to SubU.f1) ?_
              refine Sub.trans (SubU.to SubU.f2) ?_
              exact Sub.of_le (AF.le_put (AV.le_eq rfl) (AF.le_put (AV.le_eq rfl) (AF.le_put (AV.le_eq rfl) (AF.le_put (AV.le_eq rfl) (AF.le_put (AV.le_eq rfl) (AF.le_put (AV.le_eq rfl) (AF.le_put (AV.le_eq rfl) (AF.le_put (AV.le_eq rfl) (AF.le_top _)))))))))
          · refine k_seq ?_
            refine k_reg .free hmixP (by kernel_rfl) ?_
            refine G_q rfl (op_move (av := .exact v3_l2) rfl ?_)
            refine G_q rfl (op_indexArr (m := 2) (n := 1) (by kernel_rfl) rfl rfl (by decide) (by decide) ?_)
            refine G_r rfl (opR_f1 (op_load_box1 (a := .exact (.int .i64 ((gi a0 x12_l2).1))) (by kernel_rfl) rfl rfl ?_))
            refine G_q rfl (op_indexArr (m := 2) (n := 1) (by kernel_rfl) rfl rfl (by decide) (by decide) ?_)
            refine G_r rfl (opR_f2 (op_load_box1 (a := .exact (.int .i64 x6_0_j158)) (by kernel_rfl) rfl rfl ?_))
            refine G_q rfl (op_sub rfl rfl rfl ?_)
            obtain ⟨y161, hy161, h⟩ := bnd1_some h
            refine G_l rfl (op_fun_1_1_1 (m_codec_AppendUvarint_ok _ _ _ hy161) Try.func83 (by kernel_rfl) (LEs.cons (AV.le_eq rfl) (LEs.cons (AV.le_eq rfl) LEs.nil)) (fun v162 => ?_))
            refine G_q rfl (op_assign (av := .exact v162) rfl ?_)
            refine G_nil ?_
            refine kC_normal ?_
            refine k_join1_0 h (fun (x40_j163 : Bool) => (AF.put (AF.put (AF.put (AF.put (AF.put (AF.put (AF.put (AF.put AF0 (some 0) (.row 2 c_A2_int a0)) (some 3) (.exact v162)) (some 5) (pA b156 0)) (some 6) (pA b157 0)) (some 10) (.row 2 c_A2_int a0)) (some 11) (.exact (.int .i64 (List.length a0 : Int)))) (some 12) (.exact (.int .i64 x12_l2))) (some 40) (.exact (.bool x40_j163)))) (fun (x40_j163 : Bool) => [vecT Try.prog 32 1 c_uint8 v162 y161, boxI 29 b156 [.exact (.int .i64 ((gi a0 x12_l2).1)), .exact (.int .i64 ((gi a0 x12_l2).2))], boxI 29 b157 [.exact (.int .i64 x6_0_j158), .exact (.int .i64 x6_1_j158)]]) (fun k163 h => ?_) (fun x40_j163 h => ?_)
            · refine k_reg .free hmixP (by kernel_rfl) ?_
              refine G_q rfl (op_move (av := .exact (.int .i64 x12_l2)) rfl ?_)
              refine G_q rfl (op_gtr rfl rfl ?_)
              refine G_q rfl (op_move (av := .exact (.bool (decide (0 < x12_l2)))) rfl ?_)
              refine G_split (p := 0 < x12_l2) 34 rfl (fun hc => ?_) (fun hc => ?_)
              · replace h := ite_t h hc
                refine Gy_q rfl rfl rfl (op_indexArr (m := 2) (n := 1) (by kernel_rfl) rfl rfl (by decide) (by decide) ?_)
                refine Gy_r rfl rfl rfl (opR_f1 (op_load_box1 (a := .exact (.int .i64 ((gi a0 x12_l2).1))) (by kernel_rfl) rfl rfl ?_))
                refine Gy_q rfl rfl rfl (op_indexArr (m := 2) (n := 1) (by kernel_rfl) rfl rfl (by decide) (by decide) ?_)
                refine Gy_r rfl rfl rfl (opR_f2 (op_load_box1 (a := .exact (.int .i64 x6_0_j158)) (by kernel_rfl) rfl rfl ?_))
                refine Gy_q rfl rfl rfl (op_eql rfl rfl ?_)
                refine G_q rfl (op_pick_t rfl (av := .exact (.bool (decide (((gi a0 x12_l2).1) = x6_0_j158)))) rfl ?_)
                refine G_nil ?_
                refine kI_normal ⟨_, h, ?_⟩
                exact Sub.of_le (AF.le_put (AV.le_eq rfl) (AF.le_put (AV.le_eq rfl) (AF.le_put (AV.le_eq rfl) (AF.le_put (AV.le_eq rfl) (AF.le_put (AV.le_eq rfl) (AF.le_put (AV.le_eq rfl) (AF.le_put (AV.le_eq rfl) (AF.le_put (AV.le_eq rfl) (AF.le_top _)))))))))
              · replace h := ite_f h hc
                refine G_n rfl rfl ?_
                refine G_n rfl rfl ?_
                refine G_n rfl rfl ?_
                refine G_n rfl rfl ?_
                refine G_n rfl rfl ?_
                refine G_q rfl (op_pick_f rfl (av := .exact (.bool false)) rfl ?_)
                refine G_nil ?_
                refine kI_normal ⟨_, h, ?_⟩
                exact Sub.of_le (AF.le_put (AV.le_eq rfl) (AF.le_put (AV.le_eq rfl) (AF.le_put (AV.le_eq rfl) (AF.le_put (AV.le_eq rfl) (AF.le_put (AV.le_eq rfl) (AF.le_put (AV.le_eq rfl) (AF.le_put (AV.le_eq rfl) (AF.le_put (AV.le_eq rfl) (AF.le_top _)))))))))
            · refine k_cond_b (c := x40_j163) rfl (fun hc => ?_) (fun hc => ?_)
              · replace h := ite_t h hc
                refine k_reg .free hmixP (by kernel_rfl) ?_
                refine G_q rfl (op_move (av := .exact v162) rfl ?_)
                refine G_q rfl (op_indexArr (m := 2) (n := 1) (by kernel_rfl) rfl rfl (by decide) (by decide) ?_)
                refine G_r rfl (opR_f1 (op_load_box1 (a := .exact (.int .i64 ((gi a0 x12_l2).2))) (by kernel_rfl) rfl rfl ?_))
                refine G_q rfl (op_indexArr (m := 2) (n := 1) (by kernel_rfl) rfl rfl (by decide) (by decide) ?_)
                refine G_r rfl (opR_f2 (op_load_box1 (a := .exact (.int .i64 x6_1_j158)) (by kernel_rfl) rfl rfl ?_))
                refine G_q rfl (op_sub rfl rfl rfl ?_)
                refine G_q rfl (op_sub rfl rfl rfl ?_)
                obtain ⟨y164, hy164, h⟩ := bnd1_some h
                refine G_l rfl (op_fun_1_1_1 (m_codec_AppendUvarint_ok _ _ _ hy164) Try.func83 (by kernel_rfl) (LEs.cons (AV.le_eq rfl) (LEs.cons (AV.le_eq rfl) LEs.nil)) (fun v165 => ?_))
                refine G_q rfl (op_assign (av := .exact v165) rfl ?_)
                refine G_nil ?_
                refine kB_normal ?_
                refine kI_normal ⟨_, v165, h, ?_⟩
                refine Sub.trans (SubU.to SubU.f1) ?_
                refine Sub.trans (SubU.to SubU.drop) ?_
                refine Sub.trans (SubU.to SubU.f1) ?_
                refine Sub.trans (SubU.to SubU.drop) ?_
                exact Sub.of_le (AF.le_put (AV.le_eq rfl) (AF.le_put (AV.le_eq rfl) (AF.le_put (AV.le_eq rfl) (AF.le_put (AV.le_eq rfl) (AF.le_put (AV.le_eq rfl) (AF.le_top _))))))
              · replace h := ite_f h hc
                refine k_reg .free hmixP (by kernel_rfl) ?_
                refine G_q rfl (op_move (av := .exact v162) rfl ?_)
                refine G_q rfl (op_indexArr (m := 2) (n := 1) (by kernel_rfl) rfl rfl (by decide) (by decide) ?_)
                refine G_r rfl (opR_f1 (op_load_box1 (a := .exact (.int .i64 ((gi a0 x12_l2).2))) (by kernel_rfl) rfl rfl ?_))
                obtain ⟨y166, hy166, h⟩ := bnd1_some h
                refine G_l rfl (op_fun_1_1_1 (m_codec_AppendUvarint_ok _ _ _ hy166) Try.func83 (by kernel_rfl) (LEs.cons (AV.le_eq rfl) (LEs.cons (AV.le_eq rfl) LEs.nil)) (fun v167 => ?_))
                refine G_q rfl (op_assign (av := .exact v167) rfl ?_)
                refine G_nil ?_
                refine kB_normal ?_
                refine kI_normal ⟨_, v167, h, ?_⟩
                refine Sub.trans (SubU.to SubU.f1) ?_
                refine Sub.trans (SubU.to SubU.drop) ?_
                refine Sub.trans (SubU.to SubU.f1) ?_
                refine Sub.trans (SubU.to SubU.drop) ?_
                exact Sub.of_le (AF.le_put (AV.le_eq rfl) (AF.le_put (AV.le_eq rfl) (AF.le_put (AV.le_eq rfl) (AF.le_put (AV.le_eq rfl) (AF.le_put (AV.le_eq rfl) (AF.le_top _))))))
        · refine k_reg .free hmixP (by kernel_rfl) ?_
          refine G_q rfl (op_add rfl rfl rfl ?_)
          refine G_q rfl (op_move (av := .exact (.int .i64 (i64 (x12_l2 + 1)))) rfl ?_)
          refine G_nil ?_
          refine kI_normal ⟨_, _, v3_j141, h, ?_⟩
          exact Sub.of_le (AF.le_put (AV.le_eq rfl) (AF.le_put (AV.le_eq rfl) (AF.le_put (AV.le_eq rfl) (AF.le_put (AV.le_eq rfl) (AF.le_put (AV.le_eq rfl) (AF.le_top _))))))
      · replace h := ite_f h hc
        refine k_exit ?_
        refine kC_exit ?_
        refine kI_exit ?_
        refine kB_exit ?_
        refine kI_normal ⟨_, v3_l2, h, ?_⟩
        exact Sub.of_le (AF.le_put (AV.le_eq rfl) (AF.le_top _))
  · refine k_seq ?_
    refine k_reg .free hmixP (by kernel_rfl) ?_
    refine G_q rfl (op_move (av := .exact v3_j4) rfl ?_)
    obtain ⟨y168, hy168, h⟩ := bnd1_some h
    refine G_l rfl (op_fun_1_1_1 (m_codec_AppendSum_ok _ _ _ hy168) Try.func84 (by kernel_rfl) (LEs.cons (AV.le_eq rfl) (LEs.cons (AV.le_eq rfl) LEs.nil)) (fun v169 => ?_))
    refine G_q rfl (op_assign (av := .exact v169) rfl ?_)
    refine G_nil ?_
    refine kC_normal ?_
    refine k_ret ?_
    obtain rfl := Option.some.inj h
    refine kP_any (endN (af' := (AF.put AF0 (some 2) (.row 1 c_uint8 y168))) (σ' := []) _ rfl ?_ ⟨rfl, rfl⟩)
    refine Sub.trans (SubU.to (SubU.freezeT (s := 2) rfl len_c_uint8)) ?_
    exact Sub.of_le (AF.le_put (AV.le_eq rfl) (AF.le_top _))
set_option maxHeartbeats 4000000 in
theorem m_bytes_Equal_ok (a0 : List UInt8) (a1 : List UInt8) (r : Bool) (h : m_bytes_Equal a0 a1 = some r) : Pure Try.prog 81 [(.row 1 c_uint8 a0), (.row 1 c_uint8 a1)] (.exact (.bool r)) := by
  unfold m_bytes_Equal at h
  refine Pure.ofFun (fun_of_awp Try.func81 rfl Try.ntmps81 (by simp) rfl (res1 rfl) fun E hE => k_end ?_)
  refine k_seq ?_
  refine k_reg .free hmixP (by kernel_rfl) ?_
  refine G_q rfl (op_assign (av := .exact (.bool false)) rfl ?_)
  refine G_nil ?_
  refine kC_normal ?_
  refine k_seq ?_
  refine k_reg .free hmixP (by kernel_rfl) ?_
  refine G_q rfl (op_move (av := .row 1 c_uint8 a0) rfl ?_)
  refine G_q rfl (op_bytesS rfl (by kernel_rfl) rfl ?_)
  refine G_q rfl (op_move (av := .row 1 c_uint8 a1) rfl ?_)
  refine G_q rfl (op_bytesS rfl (by kernel_rfl) rfl ?_)
  refine G_q rfl (op_eqlS rfl rfl ?_)
  refine G_q rfl (op_assign (av := .exact (.bool (decide (a0 = a1)))) rfl ?_)
  refine G_nil ?_
  refine kC_normal ?_
  refine k_ret ?_
  obtain rfl := Option.some.inj h
  refine kP_any (endN (af' := (AF.put AF0 (some 4) (.exact (.bool (decide (a0 = a1)))))) (σ' := []) _ rfl ?_ ⟨rfl, rfl⟩)
  exact Sub.of_le (AF.le_put (AV.le_eq rfl) (AF.le_top _))
set_option maxHeartbeats 4000000 in
theorem m_frontier_DecodeBlock_ok (a0 : List UInt8) (a1 : Int) (r : (List (Int × Int)) × Int × Int) (h : m_frontier_DecodeBlock a0 a1 = some r) : Pure Try.prog 45 [(.row 1 c_uint8 a0), (.exact (.int .i64 a1))] (.tup [.row 2 c_A2_int r.1, .exact (.int .i64 r.2.1), .exact (.int .i64 r.2.2)]) := by
  unfold m_frontier_DecodeBlock at h
  refine Pure.ofFun (fun_of_awp Try.func45 rfl Try.ntmps45 (by simp) rfl (res3 rfl) fun E hE => k_end ?_)
  refine k_seq ?_
  refine k_reg .free hmixP (by kernel_rfl) ?_
  refine G_q rfl (op_assign (av := .exact (.slice none 0 0)) rfl ?_)
  refine G_q rfl (op_assign (av := .exact (.int .i64 0)) rfl ?_)
  refine G_q rfl (op_assign (av := .exact (.int .i64 0)) rfl ?_)
  refine G_nil ?_
  refine kC_normal ?_
  refine k_seq ?_
  refine k_join1_0 h (fun (x23_j3 : Bool) => (AF.put (AF.put (AF.put AF0 (some 0) (.row 1 c_uint8 a0)) (some 1) (.exact (.int .i64 a1))) (some 23) (.exact (.bool x23_j3)))) (fun (x23_j3 : Bool) => []) (fun k3 h => ?_) (fun x23_j3 h => ?_)
  · refine k_reg .free hmixP (by kernel_rfl) ?_
    refine G_q rfl (op_move (av := .exact (.int .i64 a1)) rfl ?_)
    refine G_q rfl (op_lss rfl rfl ?_)
    refine G_q rfl (op_move (av := .exact (.bool (decide (a1 < 0)))) rfl ?_)
    refine G_split (p := a1 < 0) 18 rfl (fun hc => ?_) (fun hc => ?_)
    · replace h := ite_t h hc
      refine G_n rfl rfl ?_
      refine G_n rfl rfl ?_
      refine G_n rfl rfl ?_
      refine G_n rfl rfl ?_
      refine G_q rfl (op_pick_t rfl (av := .exact (.bool true)) rfl ?_)
      refine G_nil ?_
      refine kI_normal ⟨_, h, ?_⟩
      exact Sub.of_le (AF.le_put (AV.le_eq rfl) (AF.le_put (AV.le_eq rfl) (AF.le_put (AV.le_eq rfl) (AF.le_top _))))
    · replace h := ite_f h hc
      refine Gy_q rfl rfl rfl (op_move (av := .exact (.int .i64 a1)) rfl ?_)
      refine Gy_q rfl rfl rfl (op_move (av := .row 1 c_uint8 a0) rfl ?_)
      refine Gy_q rfl rfl rfl (op_len_row (by kernel_rfl) rfl ?_)
      refine Gy_q rfl rfl rfl (op_gtr rfl rfl ?_)
      refine G_q rfl (op_pick_f rfl (av := .exact (.bool (decide ((List.length a0 : Int) < a1)))) rfl ?_)
      refine G_nil ?_
      refine kI_normal ⟨_, h, ?_⟩
      exact Sub.of_le (AF.le_put (AV.le_eq rfl) (AF.le_put (AV.le_eq rfl) (AF.le_put (AV.le_eq rfl) (AF.le_top _))))
  · refine k_cond_b (c := x23_j3) rfl (fun hc => ?_) (fun hc => ?_)
    · replace h := ite_t h hc
      refine k_seq ?_
      refine k_reg .free hmixP (by kernel_rfl) ?_
      refine G_q rfl (op_assign (av := .exact (.slice none 0 0)) rfl ?_)
      refine G_q rfl (op_assign (av := .exact (.int .i64 0)) rfl ?_)
      refine G_q rfl (op_assign (av := .exact (.int .i64 1)) rfl ?_)
      refine G_nil ?_
      refine kC_normal ?_
      refine k_ret ?_
      refine kC_ret ?_
      obtain rfl := Option.some.inj h
      refine kP_any (endN (af' := (AF.put (AF.put (AF.put AF0 (some 4) (.row 2 c_A2_int [])) (some 5) (.exact (.int .i64 0))) (some 6) (.exact (.int .i64 1)))) (σ' := []) _ rfl ?_ ⟨rfl, rfl⟩)
      exact Sub.of_le (AF.le_put (AV.le_eq rfl) (AF.le_put (AV.le_eq rfl) (AF.le_put (row_nil (by decide)) (AF.le_top _))))
    · replace h := ite_f h hc
      refine k_skip ?_
      refine kC_normal ?_
      refine k_seq ?_
      refine k_reg .free hmixP (by kernel_rfl) ?_
      refine G_q rfl (op_move (av := .row 1 c_uint8 a0) rfl ?_)
      refine G_q rfl (op_move (av := .exact (.int .i64 a1)) rfl ?_)
      obtain ⟨y4, hy4, h⟩ := bnd1_some h
      refine G_q rfl (op_pure (m_frontier_number_ok _ _ _ hy4) Try.func79 (by kernel_rfl) (LEs.cons (AV.le_eq rfl) (LEs.cons (AV.le_eq rfl) LEs.nil)) ?_)
      refine G_q rfl (op_move (av := .tup [.exact (.int .i64 y4.1), .exact (.int .i64 y4.2.1), .exact (.int .i64 y4.2.2)]) rfl ?_)
      refine G_q rfl (op_extract (av := .exact (.int .i64 y4.1)) rfl rfl ?_)
      refine G_q rfl (op_extract (av := .exact (.int .i64 y4.2.1)) rfl rfl ?_)
      refine G_q rfl (op_extract (av := .exact (.int .i64 y4.2.2)) rfl rfl ?_)
      refine G_q rfl (op_assign (av := .exact (.int .i64 y4.1)) rfl ?_)
      refine G_q rfl (op_assign (av := .exact (.int .i64 y4.2.1)) rfl ?_)
      refine G_q rfl (op_assign (av := .exact (.int .i64 y4.2.2)) rfl ?_)
      refine G_nil ?_
      refine kC_normal ?_
      refine k_join1_0 h (fun (x9_j5 : Int) => (AF.put (AF.put (AF.put (AF.put (AF.put AF0 (some 0) (.row 1 c_uint8 a0)) (some 1) (.exact (.int .i64 a1))) (some 7) (.exact (.int .i64 y4.1))) (some 8) (.exact (.int .i64 y4.2.1))) (some 9) (.exact (.int .i64 x9_j5)))) (fun (x9_j5 : Int) => []) (fun k5 h => ?_) (fun x9_j5 h => ?_)
      · refine k_join1_0 h (fun (x40_j7 : Bool) => (AF.put (AF.put (AF.put (AF.put (AF.put (AF.put AF0 (some 0) (.row 1 c_uint8 a0)) (some 1) (.exact (.int .i64 a1))) (some 7) (.exact (.int .i64 y4.1))) (some 8) (.exact (.int .i64 y4.2.1))) (some 9) (.exact (.int .i64 y4.2.2))) (some 40) (.exact (.bool x40_j7)))) (fun (x40_j7 : Bool) => []) (fun k7 h => ?_) (fun x40_j7 h => ?_)
        · refine k_reg .free hmixP (by kernel_rfl) ?_
          refine G_q rfl (op_move (av := .exact (.int .i64 y4.2.2)) rfl ?_)
          refine G_q rfl (op_eql rfl rfl ?_)
          refine G_q rfl (op_move (av := .exact (.bool (decide (y4.2.2 = 0)))) rfl ?_)
          refine G_split (p := y4.2.2 = 0) 33 rfl (fun hc => ?_) (fun hc => ?_)
          · replace h := ite_t h hc
            refine Gy_q rfl rfl rfl (op_move (av := .exact (.int .i64 y4.1)) rfl ?_)
            refine Gy_q rfl rfl rfl (op_lss rfl rfl ?_)
            refine Gy_q rfl rfl rfl (op_move (av := .exact (.bool (decide (y4.1 < 1)))) rfl ?_)
            refine G_split (p := y4.1 < 1) 36 rfl (fun hc => ?_) (fun hc => ?_)
            · replace h := ite_t h hc
              refine G_n rfl rfl ?_
              refine G_n rfl rfl ?_
              refine Gy_q rfl rfl rfl (op_pick_t rfl (av := .exact (.bool true)) rfl ?_)
              refine G_q rfl (op_pick_t rfl (av := .exact (.bool true)) rfl ?_)
              refine G_nil ?_
              refine kI_normal ⟨_, h, ?_⟩
              exact Sub.of_le (AF.le_put (AV.le_eq rfl) (AF.le_put (AV.le_eq rfl) (AF.le_put (AV.le_eq rfl) (AF.le_put (AV.le_eq rfl) (AF.le_put (AV.le_eq rfl) (AF.le_put (AV.le_eq rfl) (AF.le_top _)))))))
            · replace h := ite_f h hc
              refine Gy_q rfl rfl rfl (op_move (av := .exact (.int .i64 y4.1)) rfl ?_)
              refine Gy_q rfl rfl rfl (op_gtr rfl rfl ?_)
              refine Gy_q rfl rfl rfl (op_pick_f rfl (av := .exact (.bool (decide (1024 < y4.1)))) rfl ?_)
              refine G_q rfl (op_pick_t rfl (av := .exact (.bool (decide (1024 < y4.1)))) rfl ?_)
              refine G_nil ?_
              refine kI_normal ⟨_, h, ?_⟩
              exact Sub.of_le (AF.le_put (AV.le_eq rfl) (AF.le_put (AV.le_eq rfl) (AF.le_put (AV.le_eq rfl) (AF.le_put (AV.le_eq rfl) (AF.le_put (AV.le_eq rfl) (AF.le_put (AV.le_eq rfl) (AF.le_top _)))))))
          · replace h := ite_f h hc
            refine G_n rfl rfl ?_
            refine G_n rfl rfl ?_
            refine G_n rfl rfl ?_
            refine G_u rfl rfl ?_
            refine G_u rfl rfl ?_
            refine G_n rfl rfl ?_
            refine G_q rfl (op_pick_f rfl (av := .exact (.bool false)) rfl ?_)
            refine G_nil ?_
            refine kI_normal ⟨_, h, ?_⟩
            exact Sub.of_le (AF.le_put (AV.le_eq rfl) (AF.le_put (AV.le_eq rfl) (AF.le_put (AV.le_eq rfl) (AF.le_put (AV.le_eq rfl) (AF.le_put (AV.le_eq rfl) (AF.le_put (AV.le_eq rfl) (AF.le_top _)))))))
        · refine k_cond_b (c := x40_j7) rfl (fun hc => ?_) (fun hc => ?_)
          · replace h := ite_t h hc
            refine k_reg .free hmixP (by kernel_rfl) ?_
            refine G_q rfl (op_assign (av := .exact (.int .i64 22)) rfl ?_)
            refine G_nil ?_
            refine kI_normal ⟨_, h, ?_⟩
            exact Sub.of_le (AF.le_put (AV.le_eq rfl) (AF.le_put (AV.le_eq rfl) (AF.le_put (AV.le_eq rfl) (AF.le_put (AV.le_eq rfl) (AF.le_put (AV.le_eq rfl) (AF.le_top _))))))
          · replace h := ite_f h hc
            refine k_skip ?_
            refine kI_normal ⟨_, h, ?_⟩
            exact Sub.of_le (AF.le_put (AV.le_eq rfl) (AF.le_put (AV.le_eq rfl) (AF.le_put (AV.le_eq rfl) (AF.le_put (AV.le_eq rfl) (AF.le_put (AV.le_eq rfl) (AF.le_top _))))))
      · refine k_seq ?_
        refine k_reg .free hmixP (by kernel_rfl) ?_
        refine G_q rfl (op_assign (av := .exact (.slice none 0 0)) rfl ?_)
        refine G_nil ?_
        refine kC_normal ?_
        refine k_join3_1 h (fun (x8_j8 : Int) (x9_j8 : Int) (x10_j8 : List (Int × Int)) (v10_j8 : Value) => (AF.put (AF.put (AF.put (AF.put (AF.put AF0 (some 0) (.row 1 c_uint8 a0)) (some 1) (.exact (.int .i64 a1))) (some 8) (.exact (.int .i64 x8_j8))) (some 9) (.exact (.int .i64 x9_j8))) (some 10) (.exact v10_j8))) (fun (x8_j8 : Int) (x9_j8 : Int) (x10_j8 : List (Int × Int)) (v10_j8 : Value) => [vecT Try.prog 23 2 c_A2_int v10_j8 x10_j8]) (fun k8 h => ?_) (fun x8_j8 x9_j8 x10_j8 v10_j8 h => ?_)
        · refine k_seq ?_
          refine k_reg .free hmixP (by kernel_rfl) ?_
          refine G_q rfl (op_assign (av := .exact (.int .i64 0)) rfl ?_)
          refine G_nil ?_
          refine kC_normal ?_
          refine k_block ?_
          refine k_loop4_1 (m_frontier_DecodeBlock_L14 a0 y4 k8) (m_frontier_DecodeBlock_B14 a0 y4 k8) (fun _ _ _ _ => rfl) (fun m _ _ _ _ => rfl) h (fun (x8_l14 : Int) (x9_l14 : Int) (x10_l14 : List (Int × Int)) (x11_l14 : Int) (v10_l14 : Value) => (AF.put (AF.put (AF.put (AF.put (AF.put (AF.put (AF.put AF0 (some 0) (.row 1 c_uint8 a0)) (some 1) (.exact (.int .i64 a1))) (some 7) (.exact (.int .i64 y4.1))) (some 8) (.exact (.int .i64 x8_l14))) (some 9) (.exact (.int .i64 x9_l14))) (some 10) (.exact v10_l14)) (some 11) (.exact (.int .i64 x11_l14)))) (fun (x8_l14 : Int) (x9_l14 : Int) (x10_l14 : List (Int × Int)) (x11_l14 : Int) (v10_l14 : Value) => [vecT Try.prog 23 2 c_A2_int v10_l14 x10_l14]) (.slice none 0 0) ?_ (fun rec14 x8_l14 x9_l14 x10_l14 x11_l14 v10_l14 h => ?_)
          · refine Sub.trans (SubU.to (SubU.nilT (P := Try.prog) (t := 23) (n := 2) (enc := c_A2_int))) ?_
            exact Sub.of_le (AF.le_put (AV.le_eq rfl) (AF.le_put (AV.le_eq rfl) (AF.le_put (AV.le_eq rfl) (AF.le_put (AV.le_eq rfl) (AF.le_put (AV.le_eq rfl) (AF.le_put (AV.le_eq rfl) (AF.le_put (AV.le_eq rfl) (AF.le_top _))))))))
          · unfold m_frontier_DecodeBlock_B14 at h
            refine k_seq ?_
            refine k_join1_0 h (fun (x47_j518 : Bool) => (AF.put (AF.put (AF.put (AF.put (AF.put (AF.put (AF.put (AF.put AF0 (some 0) (.row 1 c_uint8 a0)) (some 1) (.exact (.int .i64 a1))) (some 7) (.exact (.int .i64 y4.1))) (some 8) (.exact (.int .i64 x8_l14))) (some 9) (.exact (.int .i64 x9_l14))) (some 10) (.exact v10_l14)) (some 11) (.exact (.int .i64 x11_l14))) (some 47) (.exact (.bool x47_j518)))) (fun (x47_j518 : Bool) => [vecT Try.prog 23 2 c_A2_int v10_l14 x10_l14]) (fun k518 h => ?_) (fun x47_j518 h => ?_)
            · refine k_reg .free hmixP (by kernel_rfl) ?_
              refine G_q rfl (op_move (av := .exact (.int .i64 x11_l14)) rfl ?_)
              refine G_q rfl (op_move (av := .exact (.int .i64 y4.1)) rfl ?_)
              refine G_q rfl (op_lss rfl rfl ?_)
              refine G_q rfl (op_move (av := .exact (.bool (decide (x11_l14 < y4.1)))) rfl ?_)
              refine G_split (p := x11_l14 < y4.1) 44 rfl (fun hc => ?_) (fun hc => ?_)
              · replace h := ite_t h hc
                refine Gy_q rfl rfl rfl (op_move (av := .exact (.int .i64 x9_l14)) rfl ?_)
                refine Gy_q rfl rfl rfl (op_eql rfl rfl ?_)
                refine G_q rfl (op_pick_t rfl (av := .exact (.bool (decide (x9_l14 = 0)))) rfl ?_)
                refine G_nil ?_
                refine kI_normal ⟨_, h, ?_⟩
                exact Sub.of_le (AF.le_put (AV.le_eq rfl) (AF.le_put (AV.le_eq rfl) (AF.le_put (AV.le_eq rfl) (AF.le_put (AV.le_eq rfl) (AF.le_put (AV.le_eq rfl) (AF.le_put (AV.le_eq rfl) (AF.le_put (AV.le_eq rfl) (AF.le_put (AV.le_eq rfl) (AF.le_top _)))))))))
              · replace h := ite_f h hc
                refine G_n rfl rfl ?_
                refine G_n rfl rfl ?_
                refine G_q rfl (op_pick_f rfl (av := .exact (.bool false)) rfl ?_)
                refine G_nil ?_
                refine kI_normal ⟨_, h, ?_⟩
                exact Sub.of_le (AF.le_put (AV.le_eq rfl) (AF.le_put (AV.le_eq rfl) (AF.le_put (AV.le_eq rfl) (AF.le_put (AV.le_eq rfl) (AF.le_put (AV.le_eq rfl) (AF.le_put (AV.le_eq rfl) (AF.le_put (AV.le_eq rfl) (AF.le_put (AV.le_eq rfl) (AF.le_top _)))))))))
            · refine k_cond_b (c := x47_j518) rfl (fun hc => ?_) (fun hc => ?_)
              · replace h := ite_t h hc
                refine k_skip ?_
                refine kC_normal ?_
                refine k_join3_1 h (fun (x8_j519 : Int) (x9_j519 : Int) (x10_j519 : List (Int × Int)) (v10_j519 : Value) => (AF.put (AF.put (AF.put (AF.put (AF.put (AF.put (AF.put AF0 (some 0) (.row 1 c_uint8 a0)) (some 1) (.exact (.int .i64 a1))) (some 7) (.exact (.int .i64 y4.1))) (some 8) (.exact (.int .i64 x8_j519))) (some 9) (.exact (.int .i64 x9_j519))) (some 10) (.exact v10_j519)) (some 11) (.exact (.int .i64 x11_l14)))) (fun (x8_j519 : Int) (x9_j519 : Int) (x10_j519 : List (Int × Int)) (v10_j519 : Value) => [vecT Try.prog 23 2 c_A2_int v10_j519 x10_j519]) (fun k519 h => ?_) (fun x8_j519 x9_j519 x10_j519 v10_j519 h => ?_)
                · refine k_block ?_
                  refine k_seq ?_
                  refine k_reg .free hmixP (by kernel_rfl) ?_
                  refine G_l rfl (op_alloc (c := [.exact (.int .i64 ((0, 0).1)), .exact (.int .i64 ((0, 0).2))]) rfl (LEs.cons (AV.le_eq rfl) (LEs.cons (AV.le_eq rfl) LEs.nil)) (fun b571 => ?_))
                  refine G_nil ?_
                  refine kC_normal ?_
                  refine k_join4_0 h (fun (x8_j572 : Int) (x9_j572 : Int) (x12_0_j572 : Int) (x12_1_j572 : Int) => (AF.put (AF.put (AF.put (AF.put (AF.put (AF.put (AF.put (AF.put AF0 (some 0) (.row 1 c_uint8 a0)) (some 1) (.exact (.int .i64 a1))) (some 7) (.exact (.int .i64 y4.1))) (some 8) (.exact (.int .i64 x8_j572))) (some 9) (.exact (.int .i64 x9_j572))) (some 10) (.exact v10_l14)) (some 11) (.exact (.int .i64 x11_l14))) (some 12) (pA b571 0))) (fun (x8_j572 : Int) (x9_j572 : Int) (x12_0_j572 : Int) (x12_1_j572 : Int) => [vecT Try.prog 23 2 c_A2_int v10_l14 x10_l14, boxI 29 b571 [.exact (.int .i64 x12_0_j572), .exact (.int .i64 x12_1_j572)]]) (fun k572 h => ?_) (fun x8_j572 x9_j572 x12_0_j572 x12_1_j572 h => ?_)
                  · refine k_seq ?_
                    refine k_reg .free hmixP (by kernel_rfl) ?_
                    refine G_q rfl (op_assign (av := .exact (.int .i64 0)) rfl ?_)
                    refine G_nil ?_
                    refine kC_normal ?_
                    refine k_block ?_
                    refine k_loop5_0 (m_frontier_DecodeBlock_L26 a0 k572) (m_frontier_DecodeBlock_B26 a0 k572) (fun _ _ _ _ _ => rfl) (fun m _ _ _ _ _ => rfl) h (fun (x8_l26 : Int) (x9_l26 : Int) (x12_0_l26 : Int) (x12_1_l26 : Int) (x13_l26 : Int) => (AF.put (AF.put (AF.put (AF.put (AF.put (AF.put (AF.put (AF.put (AF.put AF0 (some 0) (.row 1 c_uint8 a0)) (some 1) (.exact (.int .i64 a1))) (some 7) (.exact (.int .i64 y4.1))) (some 8) (.exact (.int .i64 x8_l26))) (some 9) (.exact (.int .i64 x9_l26))) (some 10) (.exact v10_l14)) (some 11) (.exact (.int .i64 x11_l14))) (some 12) (pA b571 0)) (some 13) (.exact (.int .i64 x13_l26)))) (fun (x8_l26 : Int) (x9_l26 : Int) (x12_0_l26 : Int) (x12_1_l26 : Int) (x13_l26 : Int) => [vecT Try.prog 23 2 c_A2_int v10_l14 x10_l14, boxI 29 b571 [.exact (.int .i64 x12_0_l26), .exact (.int .i64 x12_1_l26)]]) ?_ (fun rec26 x8_l26 x9_l26 x12_0_l26 x12_1_l26 x13_l26 h => ?_)
                    · refine Sub.trans (SubU.to SubU.f1) ?_
                      exact Sub.of_le (AF.le_put (AV.le_eq rfl) (AF.le_put (AV.le_eq rfl) (AF.le_put (AV.le_eq rfl) (AF.le_put (AV.le_eq rfl) (AF.le_put (AV.le_eq rfl) (AF.le_put (AV.le_eq rfl) (AF.le_put (AV.le_eq rfl) (AF.le_put (AV.le_eq rfl) (AF.le_put (AV.le_eq rfl) (AF.le_top _))))))))))
                    · unfold m_frontier_DecodeBlock_B26 at h
                      refine k_seq ?_
                      refine k_join1_0 h (fun (x55_j609 : Bool) => (AF.put (AF.put (AF.put (AF.put (AF.put (AF.put (AF.put (AF.put (AF.put (AF.put AF0 (some 0) (.row 1 c_uint8 a0)) (some 1) (.exact (.int .i64 a1))) (some 7) (.exact (.int .i64 y4.1))) (some 8) (.exact (.int .i64 x8_l26))) (some 9) (.exact (.int .i64 x9_l26))) (some 10) (.exact v10_l14)) (some 11) (.exact (.int .i64 x11_l14))) (some 12) (pA b571 0)) (some 13) (.exact (.int .i64 x13_l26))) (some 55) (.exact (.bool x55_j609)))) (fun (x55_j609 : Bool) => [vecT Try.prog 23 2 c_A2_int v10_l14 x10_l14, boxI 29 b571 [.exact (.int .i64 x12_0_l26), .exact (.int .i64 x12_1_l26)]]) (fun k609 h => ?_) (fun x55_j609 h => ?_)
                      · refine k_reg .free hmixP (by kernel_rfl) ?_
                        refine G_q rfl (op_move (av := .exact (.int .i64 x13_l26)) rfl ?_)
                        refine G_q rfl (op_lss rfl rfl ?_)
                        refine G_q rfl (op_move (av := .exact (.bool (decide (x13_l26 < 2)))) rfl ?_)
                        refine G_split (p := x13_l26 < 2) 52 rfl (fun hc => ?_) (fun hc => ?_)
                        · replace h := ite_t h hc
                          refine Gy_q rfl rfl rfl (op_move (av := .exact (.int .i64 x9_l26)) rfl ?_)
                          refine Gy_q rfl rfl rfl (op_eql rfl rfl ?_)
                          refine G_q rfl (op_pick_t rfl (av := .exact (.bool (decide (x9_l26 = 0)))) rfl ?_)
                          refine G_nil ?_
                          refine kI_normal ⟨_, h, ?_⟩
                          exact Sub.of_le (AF.le_put (AV.le_eq rfl) (AF.le_put (AV.le_eq rfl) (AF.le_put (AV.le_eq rfl) (AF.le_put (AV.le_eq rfl) (AF.le_put (AV.le_eq rfl) (AF.le_put (AV.le_eq rfl) (AF.le_put (AV.le_eq rfl) (AF.le_put (AV.le_eq rfl) (AF.le_put (AV.le_eq rfl) (AF.le_put (AV.le_eq rfl) (AF.le_top _)))))))))))
                        · replace h := ite_f h hc
                          refine G_n rfl rfl ?_
                          refine G_n rfl rfl ?_
                          refine G_q rfl (op_pick_f rfl (av := .exact (.bool false)) rfl ?_)
                          refine G_nil ?_
                          refine kI_normal ⟨_, h, ?_⟩
                          exact Sub.of_le (AF.le_put (AV.le_eq rfl) (AF.le_put (AV.le_eq rfl) (AF.le_put (AV.le_eq rfl) (AF.le_put (AV.le_eq rfl) (AF.le_put (AV.le_eq rfl) (AF.le_put (AV.le_eq rfl) (AF.le_put (AV.le_eq rfl) (AF.le_put (AV.le_eq rfl) (AF.le_put (AV.le_eq rfl) (AF.le_put (AV.le_eq rfl) (AF.le_top _)))))))))))
                      · refine k_cond_b (c := x55_j609) rfl (fun hc => ?_) (fun hc => ?_)
                        · replace h := ite_t h hc
                          refine k_skip ?_
                          refine kC_normal ?_
                          refine k_seq ?_
                          refine k_block ?_
                          refine k_reg .free hmixP (by kernel_rfl) ?_
                          refine G_q rfl (op_move (av := .exact (.int .i64 x13_l26)) rfl ?_)
                          refine G_q rfl (op_move (av := .row 1 c_uint8 a0) rfl ?_)
                          refine G_q rfl (op_move (av := .exact (.int .i64 x8_l26)) rfl ?_)
                          obtain ⟨y610, hy610, h⟩ := bnd1_some h
                          refine G_q rfl (op_pure (m_frontier_number_ok _ _ _ hy610) Try.func79 (by kernel_rfl) (LEs.cons (AV.le_eq rfl) (LEs.cons (AV.le_eq rfl) LEs.nil)) ?_)
                          refine G_q rfl (op_move (av := .tup [.exact (.int .i64 y610.1), .exact (.int .i64 y610.2.1), .exact (.int .i64 y610.2.2)]) rfl ?_)
                          refine G_q rfl (op_extract (av := .exact (.int .i64 y610.1)) rfl rfl ?_)
                          refine G_q rfl (op_extract (av := .exact (.int .i64 y610.2.1)) rfl rfl ?_)
                          refine G_q rfl (op_extract (av := .exact (.int .i64 y610.2.2)) rfl rfl ?_)
                          obtain ⟨n611, h⟩ := need_some h
                          refine G_q rfl (op_indexArr (m := 2) (n := 1) (by kernel_rfl) rfl rfl n611.1 n611.2 ?_)
                          refine G_l rfl (opB_f1 (op_store_box (c' := [.exact (.int .i64 y610.1)]) (c3 := [.exact (.int .i64 (if x13_l26 = 0 then y610.1 else x12_0_l26)), .exact (.int .i64 (if x13_l26 = 0 then x12_1_l26 else y610.1))]) rfl rfl CellsOf.int (LEs.cons (AV.le_eq rfl) LEs.nil) (OneC.int OneC.nil) (by kernel_rfl) (set2_le n611.1 n611.2) (set2 n611.1 n611.2) ?_))
                          refine G_q rfl (op_assign (av := .exact (.int .i64 y610.2.1)) rfl ?_)
                          refine G_q rfl (op_assign (av := .exact (.int .i64 y610.2.2)) rfl ?_)
                          refine G_nil ?_
                          refine kB_normal ?_
                          refine kC_normal ?_
                          refine k_reg .free hmixP (by kernel_rfl) ?_
                          refine G_q rfl (op_move (av := .exact (.int .i64 x13_l26)) rfl ?_)
                          refine G_q rfl (op_add rfl rfl rfl ?_)
                          refine G_q rfl (op_assign (av := .exact (.int .i64 (i64 (x13_l26 + 1)))) rfl ?_)
                          refine G_nil ?_
                          refine kI_normal ⟨_, _, _, _, _, h, ?_⟩
                          refine Sub.trans (SubU.to SubU.f1) ?_
                          exact Sub.of_le (AF.le_put (AV.le_eq rfl) (AF.le_put (AV.le_eq rfl) (AF.le_put (AV.le_eq rfl) (AF.le_put (AV.le_eq rfl) (AF.le_put (AV.le_eq rfl) (AF.le_put (AV.le_eq rfl) (AF.le_put (AV.le_eq rfl) (AF.le_put (AV.le_eq rfl) (AF.le_put (AV.le_eq rfl) (AF.le_top _))))))))))
                        · replace h := ite_f h hc
                          refine k_exit ?_
                          refine kC_exit ?_
                          refine kI_exit ?_
                          refine kB_exit ?_
                          refine kI_normal ⟨_, _, _, _, h, ?_⟩
                          exact Sub.of_le (AF.le_put (AV.le_eq rfl) (AF.le_put (AV.le_eq rfl) (AF.le_put (AV.le_eq rfl) (AF.le_put (AV.le_eq rfl) (AF.le_put (AV.le_eq rfl) (AF.le_put (AV.le_eq rfl) (AF.le_put (AV.le_eq rfl) (AF.le_put (AV.le_eq rfl) (AF.le_top _)))))))))
                  · refine k_join2_0 h (fun (x12_0_j612 : Int) (x12_1_j612 : Int) => (AF.put (AF.put (AF.put (AF.put (AF.put (AF.put (AF.put (AF.put AF0 (some 0) (.row 1 c_uint8 a0)) (some 1) (.exact (.int .i64 a1))) (some 7) (.exact (.int .i64 y4.1))) (some 8) (.exact (.int .i64 x8_j572))) (some 9) (.exact (.int .i64 x9_j572))) (some 10) (.exact v10_l14)) (some 11) (.exact (.int .i64 x11_l14))) (some 12) (pA b571 0))) (fun (x12_0_j612 : Int) (x12_1_j612 : Int) => [vecT Try.prog 23 2 c_A2_int v10_l14 x10_l14, boxI 29 b571 [.exact (.int .i64 x12_0_j612), .exact (.int .i64 x12_1_j612)]]) (fun k612 h => ?_) (fun x12_0_j612 x12_1_j612 h => ?_)
                    · refine k_seq ?_
                      refine k_reg .free hmixP (by kernel_rfl) ?_
                      refine G_q rfl (op_move (av := .exact (.int .i64 x11_l14)) rfl ?_)
                      refine G_q rfl (op_gtr rfl rfl ?_)
                      refine G_nil ?_
                      refine kC_normal ?_
                      refine k_cond_d (p := 0 < x11_l14) rfl (fun hc => ?_) (fun hc => ?_)
                      · replace h := ite_t h hc
                        refine k_seq ?_
                        refine k_reg .free hmixP (by kernel_rfl) ?_
                        refine G_q rfl (op_move (av := .exact v10_l14) rfl ?_)
                        refine G_q rfl (op_move (av := .exact (.int .i64 x11_l14)) rfl ?_)
                        refine G_q rfl (op_sub rfl rfl rfl ?_)
                        obtain ⟨n616, h⟩ := need_some h
                        refine G_r rfl (op_index_vec (by kernel_rfl) rfl rfl n616.1 n616.2 ?_)
                        refine G_r rfl (op_load_vecN (i := i64 (x11_l14 - 1)) (o := 0) (m := 2) (c' := c_A2_int (gi x10_l14 (i64 (x11_l14 - 1)))) (by kernel_rfl) len_c_A2_int rfl n616.1 n616.2 rfl rfl ?_)
                        refine G_l rfl (op_alloc (c := [.exact (.int .i64 ((0, 0).1)), .exact (.int .i64 ((0, 0).2))]) rfl (LEs.cons (AV.le_eq rfl) (LEs.cons (AV.le_eq rfl) LEs.nil)) (fun b617 => ?_))
                        refine G_l rfl (op_store_box (c' := [.exact (.int .i64 ((gi x10_l14 (i64 (x11_l14 - 1))).1)), .exact (.int .i64 ((gi x10_l14 (i64 (x11_l14 - 1))).2))]) (c3 := [.exact (.int .i64 ((gi x10_l14 (i64 (x11_l14 - 1))).1)), .exact (.int .i64 ((gi x10_l14 (i64 (x11_l14 - 1))).2))]) rfl rfl CellsOf.agg (LEs.cons (AV.le_eq rfl) (LEs.cons (AV.le_eq rfl) LEs.nil)) (oc_c_A2_int _) (by kernel_rfl) (Nat.le_of_ble_eq_true rfl) rfl ?_)
                        refine G_nil ?_
                        refine kC_normal ?_
                        refine k_join1_0 h (fun (x12_1_j618 : Int) => (AF.put (AF.put (AF.put (AF.put (AF.put (AF.put (AF.put (AF.put (AF.put AF0 (some 0) (.row 1 c_uint8 a0)) (some 1) (.exact (.int .i64 a1))) (some 7) (.exact (.int .i64 y4.1))) (some 8) (.exact (.int .i64 x8_j572))) (some 9) (.exact (.int .i64 x9_j572))) (some 10) (.exact v10_l14)) (some 11) (.exact (.int .i64 x11_l14))) (some 12) (pA b571 0)) (some 14) (pA b617 0))) (fun (x12_1_j618 : Int) => [vecT Try.prog 23 2 c_A2_int v10_l14 x10_l14, boxI 29 b571 [.exact (.int .i64 x12_0_j572), .exact (.int .i64 x12_1_j618)], boxI 29 b617 [.exact (.int .i64 ((gi x10_l14 (i64 (x11_l14 - 1))).1)), .exact (.int .i64 ((gi x10_l14 (i64 (x11_l14 - 1))).2))]]) (fun k618 h => ?_) (fun x12_1_j618 h => ?_)
                        · refine k_seq ?_
                          refine k_reg .free hmixP (by kernel_rfl) ?_
                          refine G_q rfl (op_indexArr (m := 2) (n := 1) (by kernel_rfl) rfl rfl (by decide) (by decide) ?_)
                          refine G_r rfl (opR_f2 (op_load_box1 (a := .exact (.int .i64 x12_0_j572)) (by kernel_rfl) rfl rfl ?_))
                          refine G_q rfl (op_eql rfl rfl ?_)
                          refine G_nil ?_
                          refine kC_normal ?_
                          refine k_cond_d (p := x12_0_j572 = 0) rfl (fun hc => ?_) (fun hc => ?_)
                          · replace h := ite_t h hc
                            refine k_reg .free hmixP (by kernel_rfl) ?_
                            refine G_q rfl (op_indexArr (m := 2) (n := 1) (by kernel_rfl) rfl rfl (by decide) (by decide) ?_)
                            refine G_r rfl (opR_f2 (op_load_box1 (a := .exact (.int .i64 x12_1_j572)) (by kernel_rfl) rfl rfl ?_))
                            refine G_q rfl (op_indexArr (m := 2) (n := 1) (by kernel_rfl) rfl rfl (by decide) (by decide) ?_)
                            refine G_r rfl (op_load_box1 (a := .exact (.int .i64 ((gi x10_l14 (i64 (x11_l14 - 1))).2))) (by kernel_rfl) rfl rfl ?_)
                            refine G_q rfl (op_add rfl rfl rfl ?_)
                            refine G_q rfl (op_add rfl rfl rfl ?_)
                            refine G_q rfl (op_indexArr (m := 2) (n := 1) (by kernel_rfl) rfl rfl (by decide) (by decide) ?_)
                            refine G_l rfl (opB_f2 (op_store_box (c' := [.exact (.int .i64 (i64 (x12_1_j572 + (i64 (((gi x10_l14 (i64 (x11_l14 - 1))).2) + 1)))))]) (c3 := [.exact (.int .i64 x12_0_j572), .exact (.int .i64 (i64 (x12_1_j572 + (i64 (((gi x10_l14 (i64 (x11_l14 - 1))).2) + 1)))))]) rfl rfl CellsOf.int (LEs.cons (AV.le_eq rfl) LEs.nil) (OneC.int OneC.nil) (by kernel_rfl) (Nat.le_of_ble_eq_true rfl) rfl ?_))
                            refine G_nil ?_
                            refine kI_normal ⟨_, h, ?_⟩
                            refine Sub.trans (SubU.to SubU.f1) ?_
                            refine Sub.trans (SubU.to SubU.f1) ?_
                            refine Sub.trans (SubU.to SubU.f2) ?_
                            exact Sub.of_le (AF.le_put (AV.le_eq rfl) (AF.le_put (AV.le_eq rfl) (AF.le_put (AV.le_eq rfl) (AF.le_put (AV.le_eq rfl) (AF.le_put (AV.le_eq rfl) (AF.le_put (AV.le_eq rfl) (AF.le_put (AV.le_eq rfl) (AF.le_put (AV.le_eq rfl) (AF.le_put (AV.le_eq rfl) (AF.le_top _))))))))))
                          · replace h := ite_f h hc
                            refine k_skip ?_
                            refine kI_normal ⟨_, h, ?_⟩
                            refine Sub.trans (SubU.to SubU.f2) ?_
                            refine Sub.trans (SubU.to SubU.f2) ?_
                            exact Sub.of_le (AF.le_put (AV.le_eq rfl) (AF.le_put (AV.le_eq rfl) (AF.le_put (AV.le_eq rfl) (AF.le_put (AV.le_eq rfl) (AF.le_put (AV.le_eq rfl) (AF.le_put (AV.le_eq rfl) (AF.le_put (AV.le_eq rfl) (AF.le_put (AV.le_eq rfl) (AF.le_put (AV.le_eq rfl) (AF.le_top _))))))))))
                        · refine k_reg .free hmixP (by kernel_rfl) ?_
                          refine G_q rfl (op_indexArr (m := 2) (n := 1) (by kernel_rfl) rfl rfl (by decide) (by decide) ?_)
                          refine G_r rfl (opR_f1 (op_load_box1 (a := .exact (.int .i64 x12_0_j572)) (by kernel_rfl) rfl rfl ?_))
                          refine G_q rfl (op_indexArr (m := 2) (n := 1) (by kernel_rfl) rfl rfl (by decide) (by decide) ?_)
                          refine G_r rfl (opR_f2 (op_load_box1 (a := .exact (.int .i64 ((gi x10_l14 (i64 (x11_l14 - 1))).1))) (by kernel_rfl) rfl rfl ?_))
                          refine G_q rfl (op_add rfl rfl rfl ?_)
                          refine G_q rfl (op_indexArr (m := 2) (n := 1) (by kernel_rfl) rfl rfl (by decide) (by decide) ?_)
                          refine G_l rfl (opB_f1 (op_store_box (c' := [.exact (.int .i64 (i64 (x12_0_j572 + ((gi x10_l14 (i64 (x11_l14 - 1))).1))))]) (c3 := [.exact (.int .i64 (i64 (x12_0_j572 + ((gi x10_l14 (i64 (x11_l14 - 1))).1)))), .exact (.int .i64 x12_1_j618)]) rfl rfl CellsOf.int (LEs.cons (AV.le_eq rfl) LEs.nil) (OneC.int OneC.nil) (by kernel_rfl) (Nat.le_of_ble_eq_true rfl) rfl ?_))
                          refine G_nil ?_
                          refine kI_normal ⟨_, _, h, ?_⟩
                          refine Sub.trans (SubU.to SubU.f2) ?_
                          refine Sub.trans (SubU.to SubU.drop) ?_
                          refine Sub.trans (SubU.to SubU.f1) ?_
                          exact Sub.of_le (AF.le_put (AV.le_eq rfl) (AF.le_put (AV.le_eq rfl) (AF.le_put (AV.le_eq rfl) (AF.le_put (AV.le_eq rfl) (AF.le_put (AV.le_eq rfl) (AF.le_put (AV.le_eq rfl) (AF.le_put (AV.le_eq rfl) (AF.le_put (AV.le_eq rfl) (AF.le_top _)))))))))
                      · replace h := ite_f h hc
                        refine k_skip ?_
                        refine kI_normal ⟨_, _, h, ?_⟩
                        exact Sub.of_le (AF.le_put (AV.le_eq rfl) (AF.le_put (AV.le_eq rfl) (AF.le_put (AV.le_eq rfl) (AF.le_put (AV.le_eq rfl) (AF.le_put (AV.le_eq rfl) (AF.le_put (AV.le_eq rfl) (AF.le_put (AV.le_eq rfl) (AF.le_put (AV.le_eq rfl) (AF.le_top _)))))))))
                    · refine k_reg .free hmixP (by kernel_rfl) ?_
                      refine G_q rfl (op_move (av := .exact v10_l14) rfl ?_)
                      refine G_r rfl (opR_f1 (op_load_boxN (m := 2) (c' := c_A2_int (x12_0_j612, x12_1_j612)) (by kernel_rfl) rfl rfl rfl ?_))
                      refine G_q rfl (op_litT (n := 2) (enc := c_A2_int) [(x12_0_j612, x12_1_j612)] (CellsAll.cons rfl CellsOf.agg CellsAll.nil) rfl (by kernel_rfl) (LEss.cons (LEs.cons (AV.le_eq rfl) (LEs.cons (AV.le_eq rfl) LEs.nil)) LEss.nil) ?_)
                      obtain ⟨n619, h⟩ := need_some h
                      refine G_l rfl (op_appT (by kernel_rfl) rfl rfl oc_c_A2_int n619 (fun v620 => ?_))
                      refine G_q rfl (op_assign (av := .exact v620) rfl ?_)
                      refine G_nil ?_
                      refine kB_normal ?_
                      refine kI_normal ⟨_, _, _, v620, h, ?_⟩
                      refine Sub.trans (SubU.to SubU.f1) ?_
                      refine Sub.trans (SubU.to SubU.drop) ?_
                      exact Sub.of_le (AF.le_put (AV.le_eq rfl) (AF.le_put (AV.le_eq rfl) (AF.le_put (AV.le_eq rfl) (AF.le_put (AV.le_eq rfl) (AF.le_put (AV.le_eq rfl) (AF.le_put (AV.le_eq rfl) (AF.le_put (AV.le_eq rfl) (AF.le_top _))))))))
                · refine k_reg .free hmixP (by kernel_rfl) ?_
                  refine G_q rfl (op_move (av := .exact (.int .i64 x11_l14)) rfl ?_)
                  refine G_q rfl (op_add rfl rfl rfl ?_)
                  refine G_q rfl (op_assign (av := .exact (.int .i64 (i64 (x11_l14 + 1)))) rfl ?_)
                  refine G_nil ?_
                  refine kI_normal ⟨_, _, _, _, v10_j519, h, ?_⟩
                  exact Sub.of_le (AF.le_put (AV.le_eq rfl) (AF.le_put (AV.le_eq rfl) (AF.le_put (AV.le_eq rfl) (AF.le_put (AV.le_eq rfl) (AF.le_put (AV.le_eq rfl) (AF.le_put (AV.le_eq rfl) (AF.le_put (AV.le_eq rfl) (AF.le_top _))))))))
              · replace h := ite_f h hc
                refine k_exit ?_
                refine kC_exit ?_
                refine kI_exit ?_
                refine kB_exit ?_
                refine kI_normal ⟨_, _, _, v10_l14, h, ?_⟩
                exact Sub.of_le (AF.le_put (AV.le_eq rfl) (AF.le_put (AV.le_eq rfl) (AF.le_put (AV.le_eq rfl) (AF.le_put (AV.le_eq rfl) (AF.le_put (AV.le_eq rfl) (AF.le_top _))))))
        · refine k_seq ?_
          refine k_block ?_
          refine k_seq ?_
          refine k_reg .free hmixP (by kernel_rfl) ?_
          refine G_q rfl (op_move (av := .exact (.int .i64 x9_j8)) rfl ?_)
          refine G_q rfl (op_neq rfl rfl ?_)
          refine G_q rfl (op_assign (av := .exact (.bool (decide (¬ x9_j8 = 0)))) rfl ?_)
          refine G_nil ?_
          refine kC_normal ?_
          refine k_cond_d (p := ¬ x9_j8 = 0) rfl (fun hc => ?_) (fun hc => ?_)
          · replace h := ite_t h hc
            refine k_seq ?_
            refine k_reg .free hmixP (by kernel_rfl) ?_
            refine G_q rfl (op_move (av := .exact (.int .i64 x9_j8)) rfl ?_)
            refine G_q rfl (op_assign (av := .exact (.slice none 0 0)) rfl ?_)
            refine G_q rfl (op_assign (av := .exact (.int .i64 0)) rfl ?_)
            refine G_q rfl (op_assign (av := .exact (.int .i64 x9_j8)) rfl ?_)
            refine G_nil ?_
            refine kC_normal ?_
            refine k_ret ?_
            refine kB_ret ?_
            refine kC_ret ?_
            obtain rfl := Option.some.inj h
            refine kP_any (endN (af' := (AF.put (AF.put (AF.put AF0 (some 4) (.row 2 c_A2_int [])) (some 5) (.exact (.int .i64 0))) (some 6) (.exact (.int .i64 x9_j8)))) (σ' := []) _ rfl ?_ ⟨rfl, rfl⟩)
            refine Sub.trans (SubU.to SubU.drop) ?_
            exact Sub.of_le (AF.le_put (AV.le_eq rfl) (AF.le_put (AV.le_eq rfl) (AF.le_put (row_nil (by decide)) (AF.le_top _))))
          · replace h := ite_f h hc
            refine k_seq ?_
            refine k_reg .free hmixP (by kernel_rfl) ?_
            refine G_q rfl (op_move (av := .row 1 c_uint8 a0) rfl ?_)
            refine G_q rfl (op_len_row (by kernel_rfl) rfl ?_)
            refine G_q rfl (op_move (av := .exact (.int .i64 x8_j8)) rfl ?_)
            refine G_q rfl (op_sub rfl rfl rfl ?_)
            refine G_q rfl (op_lss rfl rfl ?_)
            refine G_q rfl (op_assign (av := .exact (.bool (decide ((i64 ((List.length a0 : Int) - x8_j8)) < 4)))) rfl ?_)
            refine G_nil ?_
            refine kC_normal ?_
            refine k_cond_d (p := (i64 ((List.length a0 : Int) - x8_j8)) < 4) rfl (fun hc => ?_) (fun hc => ?_)
            · replace h := ite_t h hc
              refine k_seq ?_
              refine k_reg .free hmixP (by kernel_rfl) ?_
              refine G_q rfl (op_assign (av := .exact (.slice none 0 0)) rfl ?_)
              refine G_q rfl (op_assign (av := .exact (.int .i64 0)) rfl ?_)
              refine G_q rfl (op_assign (av := .exact (.int .i64 23)) rfl ?_)
              refine G_nil ?_
              refine kC_normal ?_
              refine k_ret ?_
              refine kB_ret ?_
              refine kC_ret ?_
              obtain rfl := Option.some.inj h
              refine kP_any (endN (af' := (AF.put (AF.put (AF.put AF0 (some 4) (.row 2 c_A2_int [])) (some 5) (.exact (.int .i64 0))) (some 6) (.exact (.int .i64 23)))) (σ' := []) _ rfl ?_ ⟨rfl, rfl⟩)
              refine Sub.trans (SubU.to SubU.drop) ?_
              exact Sub.of_le (AF.le_put (AV.le_eq rfl) (AF.le_put (AV.le_eq rfl) (AF.le_put (row_nil (by decide)) (AF.le_top _))))
            · replace h := ite_f h hc
              refine k_skip ?_
              refine kB_normal ?_
              refine kC_normal ?_
              refine k_seq ?_
              refine k_reg .free hmixP (by kernel_rfl) ?_
              refine G_q rfl (op_move (av := .exact (.int .i64 x8_j8)) rfl ?_)
              refine G_q rfl (op_add rfl rfl rfl ?_)
              refine G_q rfl (op_assign (av := .exact (.int .i64 (i64 (x8_j8 + 4)))) rfl ?_)
              refine G_nil ?_
              refine kC_normal ?_
              refine k_seq ?_
              refine k_seq ?_
              refine k_reg .free hmixP (by kernel_rfl) ?_
              refine G_q rfl (op_move (av := .row 1 c_uint8 a0) rfl ?_)
              refine G_q rfl (op_move (av := .exact (.int .i64 a1)) rfl ?_)
              refine G_q rfl (op_move (av := .exact (.int .i64 (i64 (x8_j8 + 4)))) rfl ?_)
              obtain ⟨n631, h⟩ := need_some h
              refine G_q rfl (op_slice_row (by kernel_rfl) rfl (bnd_some rfl) (bnd_some rfl) n631.1 n631.2.1 n631.2.2 ?_)
              refine G_q rfl (op_assign (av := .row 1 c_uint8 (List.take (Int.toNat (i64 (x8_j8 + 4)) - Int.toNat a1) (List.drop (Int.toNat a1) a0))) rfl ?_)
              refine G_nil ?_
              refine kC_normal ?_
              refine k_block ?_
              refine k_seq ?_
              refine k_reg .free hmixP (by kernel_rfl) ?_
              refine G_q rfl (op_move (av := .row 1 c_uint8 (List.take (Int.toNat (i64 (x8_j8 + 4)) - Int.toNat a1) (List.drop (Int.toNat a1) a0))) rfl ?_)
              obtain ⟨y632, hy632, h⟩ := bnd1_some h
              refine G_q rfl (op_pure (m_codec_Sealed_ok _ _ hy632) Try.func80 (by kernel_rfl) (LEs.cons (AV.le_eq rfl) LEs.nil) ?_)
              refine G_q rfl (op_not rfl ?_)
              refine G_q rfl (op_assign (av := .exact (.bool (!y632))) rfl ?_)
              refine G_nil ?_
              refine kC_normal ?_
              refine k_cond_b (c := !y632) rfl (fun hc => ?_) (fun hc => ?_)
              · replace h := ite_t h hc
                refine k_seq ?_
                refine k_reg .free hmixP (by kernel_rfl) ?_
                refine G_q rfl (op_assign (av := .exact (.slice none 0 0)) rfl ?_)
                refine G_q rfl (op_assign (av := .exact (.int .i64 0)) rfl ?_)
                refine G_q rfl (op_assign (av := .exact (.int .i64 24)) rfl ?_)
                refine G_nil ?_
                refine kC_normal ?_
                refine k_ret ?_
                refine kB_ret ?_
                refine kC_ret ?_
                obtain rfl := Option.some.inj h
                refine kP_any (endN (af' := (AF.put (AF.put (AF.put AF0 (some 4) (.row 2 c_A2_int [])) (some 5) (.exact (.int .i64 0))) (some 6) (.exact (.int .i64 24)))) (σ' := []) _ rfl ?_ ⟨rfl, rfl⟩)
                refine Sub.trans (SubU.to SubU.drop) ?_
                exact Sub.of_le (AF.le_put (AV.le_eq rfl) (AF.le_put (AV.le_eq rfl) (AF.le_put (row_nil (by decide)) (AF.le_top _))))
              · replace h := ite_f h hc
                refine k_join1_0 h (fun (x114_j633 : Bool) => (AF.put (AF.put (AF.put AF0 (some 8) (.exact (.int .i64 (i64 (x8_j8 + 4))))) (some 10) (.row 2 c_A2_int x10_j8)) (some 114) (.exact (.bool x114_j633)))) (fun (x114_j633 : Bool) => []) (fun k633 h => ?_) (fun x114_j633 h => ?_)
                · refine k_reg .free hmixP (by kernel_rfl) ?_
                  refine G_q rfl (op_move (av := .exact v10_j8) rfl ?_)
                  refine G_sub rfl (SubU.freezeT2 (s1 := 10) (s2 := 115) rfl rfl len_c_A2_int) ?_
                  obtain ⟨y637, hy637, h⟩ := bnd1_some h
                  refine G_q rfl (op_pure (m_frontier_isBlock_ok _ _ hy637) Try.func77 (by kernel_rfl) (LEs.cons (AV.le_eq rfl) LEs.nil) ?_)
                  refine G_q rfl (op_not rfl ?_)
                  refine G_q rfl (op_move (av := .exact (.bool (!y637))) rfl ?_)
                  refine G_splitB (c := !y637) 118 rfl (fun hc => ?_) (fun hc => ?_)
                  · replace h := ite_t h hc
                    refine G_n rfl rfl ?_
                    refine G_n rfl rfl ?_
                    refine G_n rfl rfl ?_
                    refine G_n rfl rfl ?_
                    refine G_n rfl rfl ?_
                    refine G_q rfl (op_pick_t rfl (av := .exact (.bool true)) rfl ?_)
                    refine G_q rfl (op_assign (av := .exact (.bool true)) rfl ?_)
                    refine G_nil ?_
                    refine kI_normal ⟨_, h, ?_⟩
                    exact Sub.of_le (AF.le_put (AV.le_eq rfl) (AF.le_put (AV.le_eq rfl) (AF.le_put (AV.le_eq rfl) (AF.le_top _))))
                  · replace h := ite_f h hc
                    refine Gy_q rfl rfl rfl (op_move (av := .row 2 c_A2_int x10_j8) rfl ?_)
                    obtain ⟨y638, hy638, h⟩ := bnd1_some h
                    refine Gy_q rfl rfl rfl (op_pure (m_frontier_encode_ok _ _ hy638) Try.func49 (by kernel_rfl) (LEs.cons (AV.le_eq rfl) LEs.nil) ?_)
                    refine Gy_q rfl rfl rfl (op_move (av := .row 1 c_uint8 (List.take (Int.toNat (i64 (x8_j8 + 4)) - Int.toNat a1) (List.drop (Int.toNat a1) a0))) rfl ?_)
                    obtain ⟨y639, hy639, h⟩ := bnd1_some h
                    refine Gy_q rfl rfl rfl (op_pure (m_bytes_Equal_ok _ _ _ hy639) Try.func81 (by kernel_rfl) (LEs.cons (AV.le_eq rfl) (LEs.cons (AV.le_eq rfl) LEs.nil)) ?_)
                    refine Gy_q rfl rfl rfl (op_not rfl ?_)
                    refine G_q rfl (op_pick_f rfl (av := .exact (.bool (!y639))) rfl ?_)
                    refine G_q rfl (op_assign (av := .exact (.bool (!y639))) rfl ?_)
                    refine G_nil ?_
                    refine kI_normal ⟨_, h, ?_⟩
                    exact Sub.of_le (AF.le_put (AV.le_eq rfl) (AF.le_put (AV.le_eq rfl) (AF.le_put (AV.le_eq rfl) (AF.le_top _))))
                · refine k_cond_b (c := x114_j633) rfl (fun hc => ?_) (fun hc => ?_)
                  · replace h := ite_t h hc
                    refine k_seq ?_
                    refine k_reg .free hmixP (by kernel_rfl) ?_
                    refine G_q rfl (op_assign (av := .exact (.slice none 0 0)) rfl ?_)
                    refine G_q rfl (op_assign (av := .exact (.int .i64 0)) rfl ?_)
                    refine G_q rfl (op_assign (av := .exact (.int .i64 22)) rfl ?_)
                    refine G_nil ?_
                    refine kC_normal ?_
                    refine k_ret ?_
                    refine kB_ret ?_
                    refine kC_ret ?_
                    obtain rfl := Option.some.inj h
                    refine kP_any (endN (af' := (AF.put (AF.put (AF.put AF0 (some 4) (.row 2 c_A2_int [])) (some 5) (.exact (.int .i64 0))) (some 6) (.exact (.int .i64 22)))) (σ' := []) _ rfl ?_ ⟨rfl, rfl⟩)
                    exact Sub.of_le (AF.le_put (AV.le_eq rfl) (AF.le_put (AV.le_eq rfl) (AF.le_put (row_nil (by decide)) (AF.le_top _))))
                  · replace h := ite_f h hc
                    refine k_skip ?_
                    refine kB_normal ?_
                    refine kC_normal ?_
                    refine k_seq ?_
                    refine k_reg .free hmixP (by kernel_rfl) ?_
                    refine G_q rfl (op_move (av := .row 2 c_A2_int x10_j8) rfl ?_)
                    refine G_q rfl (op_move (av := .exact (.int .i64 (i64 (x8_j8 + 4)))) rfl ?_)
                    refine G_q rfl (op_assign (av := .row 2 c_A2_int x10_j8) rfl ?_)
                    refine G_q rfl (op_assign (av := .exact (.int .i64 (i64 (x8_j8 + 4)))) rfl ?_)
                    refine G_q rfl (op_assign (av := .exact (.int .i64 0)) rfl ?_)
                    refine G_nil ?_
                    refine kC_normal ?_
                    refine k_ret ?_
                    obtain rfl := Option.some.inj h
                    refine kP_any (endN (af' := (AF.put (AF.put (AF.put AF0 (some 4) (.row 2 c_A2_int x10_j8)) (some 5) (.exact (.int .i64 (i64 (x8_j8 + 4))))) (some 6) (.exact (.int .i64 0)))) (σ' := []) _ rfl ?_ ⟨rfl, rfl⟩)
                    exact Sub.of_le (AF.le_put (AV.le_eq rfl) (AF.le_put (AV.le_eq rfl) (AF.le_put (AV.le_eq rfl) (AF.le_top _))))
end Go.Proofs.Ytkplmgdmkfgjhaa
/- The functions compute their models, by program. -/
namespace Go.Proofs.Ytkplmgdmkfgjhaa
open Go.RowKit
attribute [local irreducible] AV.exact AV.top AV.row AV.ptr AV.agg AV.tup AV.eptr AV.fn AV.nilq AV.nilqn opA opB opM opR Quiet Loud Reads wpG awp den Sub SubU Pure Fun vecI vecT boxI CellsAll CellsOf OneC LEs LEss
set_option maxRecDepth 100000

set_option maxHeartbeats 4000000 in
theorem m_law36_same_ok (a0 : List (Int × Int)) (a1 : List (Int × Int)) (r : Bool) (h : m_law36_same a0 a1 = some r) : Pure Try.prog 25 [(.row 2 c_A2_int a0), (.row 2 c_A2_int a1)] (.exact (.bool r)) := by
  unfold m_law36_same at h
  refine Pure.ofFun (fun_of_awp Try.func25 rfl Try.ntmps25 (by simp) rfl (res1 rfl) fun E hE => k_end ?_)
  refine k_seq ?_
  refine k_reg .free hmixP (by kernel_rfl) ?_
  refine G_q rfl (op_assign (av := .exact (.bool false)) rfl ?_)
  refine G_nil ?_
  refine kC_normal ?_
  refine k_seq ?_
  refine k_seq ?_
  refine k_reg .free hmixP (by kernel_rfl) ?_
  refine G_q rfl (op_move (av := .row 2 c_A2_int a0) rfl ?_)
  refine G_q rfl (op_len_row (by kernel_rfl) rfl ?_)
  refine G_q rfl (op_move (av := .row 2 c_A2_int a1) rfl ?_)
  refine G_q rfl (op_len_row (by kernel_rfl) rfl ?_)
  refine G_q rfl (op_neq rfl rfl ?_)
  refine G_nil ?_
  refine kC_normal ?_
  refine k_cond_d (p := ¬ (List.length a0 : Int) = (List.length a1 : Int)) rfl (fun hc => ?_) (fun hc => ?_)
  · replace h := ite_t h hc
    refine k_seq ?_
    refine k_reg .free hmixP (by kernel_rfl) ?_
    refine G_q rfl (op_assign (av := .exact (.bool false)) rfl ?_)
    refine G_nil ?_
    refine kC_normal ?_
    refine k_ret ?_
    refine kC_ret ?_
    obtain rfl := Option.some.inj h
    refine kP_any (endN (af' := (AF.put AF0 (some 4) (.exact (.bool false)))) (σ' := []) _ rfl ?_ ⟨rfl, rfl⟩)
    exact Sub.of_le (AF.le_put (AV.le_eq rfl) (AF.le_top _))
  · replace h := ite_f h hc
    refine k_skip ?_
    refine kC_normal ?_
    refine k_join0_0 h (AF0) ([]) (fun k1 h => ?_) (fun  h => ?_)
    · refine k_seq ?_
      refine k_reg .free hmixP (by kernel_rfl) ?_
      refine G_q rfl (op_assign (av := .exact (.int .i64 0)) rfl ?_)
      refine G_nil ?_
      refine kC_normal ?_
      refine k_block ?_
      refine k_loop1_0 (m_law36_same_L2 a0 a1 k1) (m_law36_same_B2 a0 a1 k1) (fun _ => rfl) (fun m _ => rfl) h (fun (x5_l2 : Int) => (AF.put (AF.put (AF.put AF0 (some 0) (.row 2 c_A2_int a0)) (some 1) (.row 2 c_A2_int a1)) (some 5) (.exact (.int .i64 x5_l2)))) (fun (x5_l2 : Int) => []) ?_ (fun rec2 x5_l2 h => ?_)
      · exact Sub.of_le (AF.le_put (AV.le_eq rfl) (AF.le_put (AV.le_eq rfl) (AF.le_put (AV.le_eq rfl) (AF.le_top _))))
      · unfold m_law36_same_B2 at h
        refine k_seq ?_
        refine k_seq ?_
        refine k_reg .free hmixP (by kernel_rfl) ?_
        refine G_q rfl (op_move (av := .exact (.int .i64 x5_l2)) rfl ?_)
        refine G_q rfl (op_move (av := .row 2 c_A2_int a0) rfl ?_)
        refine G_q rfl (op_len_row (by kernel_rfl) rfl ?_)
        refine G_q rfl (op_lss rfl rfl ?_)
        refine G_nil ?_
        refine kC_normal ?_
        refine k_cond_d (p := x5_l2 < (List.length a0 : Int)) rfl (fun hc => ?_) (fun hc => ?_)
        · replace h := ite_t h hc
          refine k_skip ?_
          refine kC_normal ?_
          refine k_seq ?_
          refine k_block ?_
          refine k_seq ?_
          refine k_plan [] [(0, 0), (0, 1), (0, 2), (0, 3), (0, 4), (0, 5), (0, 6), (0, 7), (0, 8)] hmixP (by kernel_rfl) ?_
          refine P_q no34_0 rfl (op_move (av := .row 2 c_A2_int a0) rfl ?_)
          refine P_q no34_0 rfl (op_move (av := .exact (.int .i64 x5_l2)) rfl ?_)
          obtain ⟨n13, h⟩ := need_some h
          refine P_q no34_0 rfl (op_index_row (by kernel_rfl) rfl rfl n13.1 n13.2 ?_)
          refine P_q no34_0 rfl (op_loadNp (m := 2) (c' := c_A2_int (gi a0 x5_l2)) (by kernel_rfl) rfl rfl rfl ?_)
          refine P_q no34_0 rfl (op_move (av := .row 2 c_A2_int a1) rfl ?_)
          refine P_q no34_0 rfl (op_move (av := .exact (.int .i64 x5_l2)) rfl ?_)
          obtain ⟨n14, h⟩ := need_some h
          refine P_q no34_0 rfl (op_index_row (by kernel_rfl) rfl rfl n14.1 n14.2 ?_)
          refine P_q no34_0 rfl (op_loadNp (m := 2) (c' := c_A2_int (gi a1 x5_l2)) (by kernel_rfl) rfl rfl rfl ?_)
          refine P_q no34_0 rfl (op_neqA (a := (gi a0 x5_l2)) (b := (gi a1 x5_l2)) (by kernel_rfl) (eq_c_A2_int _ _) rfl rfl ?_)
          refine P_nil ?_
          refine kC_normal ?_
          refine k_cond_d (p := ¬ (gi a0 x5_l2) = (gi a1 x5_l2)) rfl (fun hc => ?_) (fun hc => ?_)
          · replace h := ite_t h hc
            refine k_seq ?_
            refine k_reg .free hmixP (by kernel_rfl) ?_
            refine G_q rfl (op_assign (av := .exact (.bool false)) rfl ?_)
            refine G_nil ?_
            refine kC_normal ?_
            refine k_ret ?_
            refine kB_ret ?_
            refine kC_ret ?_
            refine kI_ret ?_
            refine kB_ret ?_
            refine kI_ret ?_
            obtain rfl := Option.some.inj h
            refine kP_any (endN (af' := (AF.put AF0 (some 4) (.exact (.bool false)))) (σ' := []) _ rfl ?_ ⟨rfl, rfl⟩)
            exact Sub.of_le (AF.le_put (AV.le_eq rfl) (AF.le_top _))
          · replace h := ite_f h hc
            refine k_skip ?_
            refine kB_normal ?_
            refine kC_normal ?_
            refine k_reg .free hmixP (by kernel_rfl) ?_
            refine G_q rfl (op_move (av := .exact (.int .i64 x5_l2)) rfl ?_)
            refine G_q rfl (op_add rfl rfl rfl ?_)
            refine G_q rfl (op_assign (av := .exact (.int .i64 (i64 (x5_l2 + 1)))) rfl ?_)
            refine G_nil ?_
            refine kI_normal ⟨_, h, ?_⟩
            exact Sub.of_le (AF.le_put (AV.le_eq rfl) (AF.le_put (AV.le_eq rfl) (AF.le_put (AV.le_eq rfl) (AF.le_top _))))
        · replace h := ite_f h hc
          refine k_exit ?_
          refine kC_exit ?_
          refine kI_exit ?_
          refine kB_exit ?_
          refine kI_normal ⟨h, ?_⟩
          exact Sub.of_le (AF.le_top _)
    · refine k_seq ?_
      refine k_reg .free hmixP (by kernel_rfl) ?_
      refine G_q rfl (op_assign (av := .exact (.bool true)) rfl ?_)
      refine G_nil ?_
      refine kC_normal ?_
      refine k_ret ?_
      obtain rfl := Option.some.inj h
      refine kP_any (endN (af' := (AF.put AF0 (some 4) (.exact (.bool true)))) (σ' := []) _ rfl ?_ ⟨rfl, rfl⟩)
      exact Sub.of_le (AF.le_put (AV.le_eq rfl) (AF.le_top _))
set_option maxHeartbeats 4000000 in
theorem m_frontier_EncodeBlock_ok (a0 : List (Int × Int)) (r : (List UInt8) × Int) (h : m_frontier_EncodeBlock a0 = some r) : Pure Try.prog 41 [(.row 2 c_A2_int a0)] (.tup [.row 1 c_uint8 r.1, .exact (.int .i64 r.2)]) := by
  unfold m_frontier_EncodeBlock at h
  refine Pure.ofFun (fun_of_awp Try.func41 rfl Try.ntmps41 (by simp) rfl (res2 rfl) fun E hE => k_end ?_)
  refine k_seq ?_
  refine k_reg .free hmixP (by kernel_rfl) ?_
  refine G_q rfl (op_assign (av := .exact (.slice none 0 0)) rfl ?_)
  refine G_q rfl (op_assign (av := .exact (.int .i64 0)) rfl ?_)
  refine G_nil ?_
  refine kC_normal ?_
  refine k_seq ?_
  refine k_seq ?_
  refine k_reg .free hmixP (by kernel_rfl) ?_
  refine G_q rfl (op_move (av := .row 2 c_A2_int a0) rfl ?_)
  obtain ⟨y1, hy1, h⟩ := bnd1_some h
  refine G_q rfl (op_pure (m_frontier_isBlock_ok _ _ hy1) Try.func77 (by kernel_rfl) (LEs.cons (AV.le_eq rfl) LEs.nil) ?_)
  refine G_q rfl (op_not rfl ?_)
  refine G_nil ?_
  refine kC_normal ?_
  refine k_cond_b (c := !y1) rfl (fun hc => ?_) (fun hc => ?_)
  · replace h := ite_t h hc
    refine k_seq ?_
    refine k_reg .free hmixP (by kernel_rfl) ?_
    refine G_q rfl (op_assign (av := .exact (.slice none 0 0)) rfl ?_)
    refine G_q rfl (op_assign (av := .exact (.int .i64 1)) rfl ?_)
    refine G_nil ?_
    refine kC_normal ?_
    refine k_ret ?_
    refine kC_ret ?_
    obtain rfl := Option.some.inj h
    refine kP_any (endN (af' := (AF.put (AF.put AF0 (some 2) (.row 1 c_uint8 [])) (some 3) (.exact (.int .i64 1)))) (σ' := []) _ rfl ?_ ⟨rfl, rfl⟩)
    exact Sub.of_le (AF.le_put (AV.le_eq rfl) (AF.le_put (row_nil (by decide)) (AF.le_top _)))
  · replace h := ite_f h hc
    refine k_skip ?_
    refine kC_normal ?_
    refine k_seq ?_
    refine k_reg .free hmixP (by kernel_rfl) ?_
    refine G_q rfl (op_move (av := .row 2 c_A2_int a0) rfl ?_)
    obtain ⟨y2, hy2, h⟩ := bnd1_some h
    refine G_q rfl (op_pure (m_frontier_encode_ok _ _ hy2) Try.func49 (by kernel_rfl) (LEs.cons (AV.le_eq rfl) LEs.nil) ?_)
    refine G_q rfl (op_assign (av := .row 1 c_uint8 y2) rfl ?_)
    refine G_q rfl (op_assign (av := .exact (.int .i64 0)) rfl ?_)
    refine G_nil ?_
    refine kC_normal ?_
    refine k_ret ?_
    obtain rfl := Option.some.inj h
    refine kP_any (endN (af' := (AF.put (AF.put AF0 (some 2) (.row 1 c_uint8 y2)) (some 3) (.exact (.int .i64 0)))) (σ' := []) _ rfl ?_ ⟨rfl, rfl⟩)
    exact Sub.of_le (AF.le_put (AV.le_eq rfl) (AF.le_put (AV.le_eq rfl) (AF.le_top _)))
set_option maxHeartbeats 4000000 in
theorem m_law36_sane_ok  (r : Bool) (h : m_law36_sane = some r) : Pure Try.prog 15 [] (.exact (.bool r)) := by
  unfold m_law36_sane at h
  refine Pure.ofFun (fun_of_awp Try.func15 rfl Try.ntmps15 (by simp) rfl (res1 rfl) fun E hE => k_end ?_)
  refine k_seq ?_
  refine k_reg .free hmixP (by kernel_rfl) ?_
  refine G_q rfl (op_assign (av := .exact (.bool false)) rfl ?_)
  refine G_nil ?_
  refine kC_normal ?_
  refine k_seq ?_
  refine k_reg .free hmixP (by kernel_rfl) ?_
  refine G_q rfl (op_bld (c' := c_A2_int (0, 5)) (CellsAll.cons rfl CellsOf.int (CellsAll.cons rfl CellsOf.int CellsAll.nil)) rfl (LEs.cons (AV.le_eq rfl) (LEs.cons (AV.le_eq rfl) LEs.nil)) ?_)
  refine G_q rfl (op_bld (c' := c_A2_int (0, 7)) (CellsAll.cons rfl CellsOf.int (CellsAll.cons rfl CellsOf.int CellsAll.nil)) rfl (LEs.cons (AV.le_eq rfl) (LEs.cons (AV.le_eq rfl) LEs.nil)) ?_)
  refine G_q rfl (op_bld (c' := c_A2_int (2, 1)) (CellsAll.cons rfl CellsOf.int (CellsAll.cons rfl CellsOf.int CellsAll.nil)) rfl (LEs.cons (AV.le_eq rfl) (LEs.cons (AV.le_eq rfl) LEs.nil)) ?_)
  refine G_q rfl (op_litT (n := 2) (enc := c_A2_int) [(0, 5), (0, 7), (2, 1)] (CellsAll.cons rfl CellsOf.agg (CellsAll.cons rfl CellsOf.agg (CellsAll.cons rfl CellsOf.agg CellsAll.nil))) rfl (by kernel_rfl) (LEss.cons (LEs.cons (AV.le_eq rfl) (LEs.cons (AV.le_eq rfl) LEs.nil)) (LEss.cons (LEs.cons (AV.le_eq rfl) (LEs.cons (AV.le_eq rfl) LEs.nil)) (LEss.cons (LEs.cons (AV.le_eq rfl) (LEs.cons (AV.le_eq rfl) LEs.nil)) LEss.nil))) ?_)
  obtain ⟨y1, hy1, h⟩ := bnd1_some h
  refine G_q rfl (op_pure (m_frontier_EncodeBlock_ok _ _ hy1) Try.func41 (by kernel_rfl) (LEs.cons (AV.le_eq rfl) LEs.nil) ?_)
  refine G_q rfl (op_move (av := .tup [.row 1 c_uint8 y1.1, .exact (.int .i64 y1.2)]) rfl ?_)
  refine G_q rfl (op_extract (av := .row 1 c_uint8 y1.1) rfl rfl ?_)
  refine G_q rfl (op_extract (av := .exact (.int .i64 y1.2)) rfl rfl ?_)
  refine G_q rfl (op_assign (av := .row 1 c_uint8 y1.1) rfl ?_)
  refine G_q rfl (op_assign (av := .exact (.int .i64 y1.2)) rfl ?_)
  refine G_nil ?_
  refine kC_normal ?_
  refine k_join1_0 h (fun (x0_j2 : Bool) => (AF.put AF0 (some 0) (.exact (.bool x0_j2)))) (fun (x0_j2 : Bool) => []) (fun k2 h => ?_) (fun x0_j2 h => ?_)
  · refine k_reg .free hmixP (by kernel_rfl) ?_
    refine G_q rfl (op_move (av := .exact (.int .i64 y1.2)) rfl ?_)
    refine G_q rfl (op_eql rfl rfl ?_)
    refine G_q rfl (op_move (av := .exact (.bool (decide (y1.2 = 0)))) rfl ?_)
    refine G_split (p := y1.2 = 0) 13 rfl (fun hc => ?_) (fun hc => ?_)
    · replace h := ite_t h hc
      refine Gy_q rfl rfl rfl (op_move (av := .row 1 c_uint8 y1.1) rfl ?_)
      refine Gy_q rfl rfl rfl (op_len_row (by kernel_rfl) rfl ?_)
      refine Gy_q rfl rfl rfl (op_eql rfl rfl ?_)
      refine G_q rfl (op_pick_t rfl (av := .exact (.bool (decide ((List.length y1.1 : Int) = 11)))) rfl ?_)
      refine G_q rfl (op_move (av := .exact (.bool (decide ((List.length y1.1 : Int) = 11)))) rfl ?_)
      refine G_split (p := (List.length y1.1 : Int) = 11) 18 rfl (fun hc => ?_) (fun hc => ?_)
      · replace h := ite_t h hc
        refine Gy_q rfl rfl rfl (op_move (av := .row 1 c_uint8 y1.1) rfl ?_)
        obtain ⟨n4, h⟩ := need_some h
        refine Gy_q rfl rfl rfl (op_slice_rowt (by kernel_rfl) rfl bnd_none (bnd_some rfl) (Int.le_refl 0) (by decide) n4 ?_)
        refine Gy_q rfl rfl rfl (op_bytesS rfl (by kernel_rfl) rfl ?_)
        refine Gy_q rfl rfl rfl (op_eqlS rfl rfl ?_)
        refine G_q rfl (op_pick_t rfl (av := .exact (.bool (decide ((List.take (Int.toNat 7) y1.1) = [3, 0, 5, 0, 1, 2, 1])))) rfl ?_)
        refine G_q rfl (op_assign (av := .exact (.bool (decide ((List.take (Int.toNat 7) y1.1) = [3, 0, 5, 0, 1, 2, 1])))) rfl ?_)
        refine G_nil ?_
        refine kI_normal ⟨_, h, ?_⟩
        exact Sub.of_le (AF.le_put (AV.le_eq rfl) (AF.le_top _))
      · replace h := ite_f h hc
        refine G_n rfl rfl ?_
        refine G_n rfl rfl ?_
        refine G_n rfl rfl ?_
        refine G_n rfl rfl ?_
        refine G_q rfl (op_pick_f rfl (av := .exact (.bool false)) rfl ?_)
        refine G_q rfl (op_assign (av := .exact (.bool false)) rfl ?_)
        refine G_nil ?_
        refine kI_normal ⟨_, h, ?_⟩
        exact Sub.of_le (AF.le_put (AV.le_eq rfl) (AF.le_top _))
    · replace h := ite_f h hc
      refine G_n rfl rfl ?_
      refine G_n rfl rfl ?_
      refine G_n rfl rfl ?_
      refine G_q rfl (op_pick_f rfl (av := .exact (.bool false)) rfl ?_)
      refine G_q rfl (op_move (av := .exact (.bool false)) rfl ?_)
      refine G_n rfl rfl ?_
      refine G_n rfl rfl ?_
      refine G_n rfl rfl ?_
      refine G_n rfl rfl ?_
      refine G_q rfl (op_pick_f rfl (av := .exact (.bool false)) rfl ?_)
      refine G_q rfl (op_assign (av := .exact (.bool false)) rfl ?_)
      refine G_nil ?_
      refine kI_normal ⟨_, h, ?_⟩
      exact Sub.of_le (AF.le_put (AV.le_eq rfl) (AF.le_top _))
  · refine k_ret ?_
    obtain rfl := Option.some.inj h
    refine kP_any (endN (af' := (AF.put AF0 (some 0) (.exact (.bool x0_j2)))) (σ' := []) _ rfl ?_ ⟨rfl, rfl⟩)
    exact Sub.of_le (AF.le_put (AV.le_eq rfl) (AF.le_top _))
end Go.Proofs.Ytkplmgdmkfgjhaa
/- The functions compute their models, by program. -/
namespace Go.Proofs.Ytkplmgdmkfgjhaa
open Go.RowKit
attribute [local irreducible] AV.exact AV.top AV.row AV.ptr AV.agg AV.tup AV.eptr AV.fn AV.nilq AV.nilqn opA opB opM opR Quiet Loud Reads wpG awp den Sub SubU Pure Fun vecI vecT boxI CellsAll CellsOf OneC LEs LEss
set_option maxRecDepth 100000

set_option maxHeartbeats 4000000 in
theorem m_slices_Clone_L_2_int_2_int_ok (a0 : List (Int × Int)) (r : (List (Int × Int))) (h : m_slices_Clone_L_2_int_2_int a0 = some r) : Fun Try.prog 63 [(.row 2 c_A2_int a0)] [] (fun a s => ∃ z0, a = .exact z0 ∧ s = [vecT Try.prog 23 2 c_A2_int z0 r]) := by
  unfold m_slices_Clone_L_2_int_2_int at h
  refine fun_of_awp Try.func63 rfl Try.ntmps63 (by simp) rfl (res1 rfl) fun E hE => k_end ?_
  refine k_seq ?_
  refine k_reg .free hmixP (by kernel_rfl) ?_
  refine G_q rfl (op_assign (av := .exact (.slice none 0 0)) rfl ?_)
  refine G_nil ?_
  refine kC_normal ?_
  refine k_seq ?_
  refine k_seq ?_
  refine k_reg .free hmixP (by kernel_rfl) ?_
  refine G_q rfl (op_move (av := .row 2 c_A2_int a0) rfl ?_)
  refine G_q rfl (op_eqnil_row (by kernel_rfl) rfl ?_)
  refine G_nil ?_
  refine kC_normal ?_
  obtain ⟨h1, h⟩ := nilc_some h
  refine k_cond_u (p := a0 = []) rfl (fun hc => ?_) ?_
  · replace h := h1 hc
    refine k_seq ?_
    refine k_reg .free hmixP (by kernel_rfl) ?_
    refine G_q rfl (op_assign (av := .exact (.slice none 0 0)) rfl ?_)
    refine G_nil ?_
    refine kC_normal ?_
    refine k_ret ?_
    refine kC_ret ?_
    obtain rfl := Option.some.inj h
    refine kP_any (endN (af' := (AF.put AF0 (some 2) (.exact (.slice none 0 0)))) (σ' := [vecT Try.prog 23 2 c_A2_int (.slice none 0 0) []]) _ rfl ?_ ⟨(.slice none 0 0), rfl, rfl⟩)
    refine Sub.trans (SubU.to (SubU.nilT (P := Try.prog) (t := 23) (n := 2) (enc := c_A2_int))) ?_
    exact Sub.of_le (AF.le_put (AV.le_eq rfl) (AF.le_top _))
  · refine k_skip ?_
    refine kC_normal ?_
    refine k_seq ?_
    refine k_reg .free hmixP (by kernel_rfl) ?_
    refine G_l rfl (op_lit0I (enc := c_A2_int) (n := 2) (by kernel_rfl) (fun v1 => ?_))
    refine G_q rfl (op_move (av := .row 2 c_A2_int a0) rfl ?_)
    obtain ⟨n2, h⟩ := need_some h
    refine G_l rfl (op_appT (by kernel_rfl) rfl rfl oc_c_A2_int n2 (fun v3 => ?_))
    refine G_q rfl (op_assign (av := .exact v3) rfl ?_)
    refine G_nil ?_
    refine kC_normal ?_
    refine k_ret ?_
    obtain rfl := Option.some.inj h
    refine kP_any (endN (af' := (AF.put AF0 (some 2) (.exact v3))) (σ' := [vecT Try.prog 23 2 c_A2_int v3 (([] : List (Int × Int)) ++ a0)]) _ rfl ?_ ⟨v3, rfl, rfl⟩)
    exact Sub.of_le (AF.le_put (AV.le_eq rfl) (AF.le_top _))
set_option maxHeartbeats 4000000 in
theorem m_slices_Compact_L_2_int_2_int_ok {w0 : Value} (a0 : List (Int × Int)) (r : (List (Int × Int))) (h : m_slices_Compact_L_2_int_2_int a0 = some r) : Fun Try.prog 65 [(.exact w0)] [vecT Try.prog 23 2 c_A2_int w0 a0] (fun a s => a = .row 2 c_A2_int r ∧ s = []) := by
  unfold m_slices_Compact_L_2_int_2_int at h
  refine fun_of_awp Try.func65 rfl Try.ntmps65 (by simp) rfl (res1 rfl) fun E hE => k_end ?_
  refine k_seq ?_
  refine k_reg .free hmixP (by kernel_rfl) ?_
  refine G_q rfl (op_assign (av := .exact (.slice none 0 0)) rfl ?_)
  refine G_nil ?_
  refine kC_normal ?_
  refine k_seq ?_
  refine k_seq ?_
  refine k_reg .free hmixP (by kernel_rfl) ?_
  refine G_q rfl (op_move (av := .exact w0) rfl ?_)
  refine G_r rfl (op_len_vec (by kernel_rfl) rfl ?_)
  refine G_q rfl (op_lss rfl rfl ?_)
  refine G_nil ?_
  refine kC_normal ?_
  refine k_cond_d (p := (List.length a0 : Int) < 2) rfl (fun hc => ?_) (fun hc => ?_)
  · replace h := ite_t h hc
    refine k_seq ?_
    refine k_reg .free hmixP (by kernel_rfl) ?_
    refine G_q rfl (op_move (av := .exact w0) rfl ?_)
    refine G_q rfl (op_assign (av := .exact w0) rfl ?_)
    refine G_nil ?_
    refine kC_normal ?_
    refine k_ret ?_
    refine kC_ret ?_
    obtain rfl := Option.some.inj h
    refine kP_any (endN (af' := (AF.put AF0 (some 2) (.row 2 c_A2_int a0))) (σ' := []) _ rfl ?_ ⟨rfl, rfl⟩)
    refine Sub.trans (SubU.to (SubU.freezeT (s := 2) rfl len_c_A2_int)) ?_
    exact Sub.of_le (AF.le_put (AV.le_eq rfl) (AF.le_top _))
  · replace h := ite_f h hc
    refine k_skip ?_
    refine kC_normal ?_
    refine k_join0_0 h ((AF.put AF0 (some 0) (.exact w0))) ([vecT Try.prog 23 2 c_A2_int w0 a0]) (fun k1 h => ?_) (fun  h => ?_)
    · refine k_seq ?_
      refine k_reg .free hmixP (by kernel_rfl) ?_
      refine G_q rfl (op_assign (av := .exact (.int .i64 1)) rfl ?_)
      refine G_nil ?_
      refine kC_normal ?_
      refine k_block ?_
      refine k_loop1_0 (m_slices_Compact_L_2_int_2_int_L14 a0 k1) (m_slices_Compact_L_2_int_2_int_B14 a0 k1) (fun _ => rfl) (fun m _ => rfl) h (fun (x3_l14 : Int) => (AF.put (AF.put AF0 (some 0) (.exact w0)) (some 3) (.exact (.int .i64 x3_l14)))) (fun (x3_l14 : Int) => [vecT Try.prog 23 2 c_A2_int w0 a0]) ?_ (fun rec14 x3_l14 h => ?_)
      · exact Sub.of_le (AF.le_put (AV.le_eq rfl) (AF.le_put (AV.le_eq rfl) (AF.le_top _)))
      · unfold m_slices_Compact_L_2_int_2_int_B14 at h
        refine k_seq ?_
        refine k_seq ?_
        refine k_reg .free hmixP (by kernel_rfl) ?_
        refine G_q rfl (op_move (av := .exact (.int .i64 x3_l14)) rfl ?_)
        refine G_q rfl (op_move (av := .exact w0) rfl ?_)
        refine G_r rfl (op_len_vec (by kernel_rfl) rfl ?_)
        refine G_q rfl (op_lss rfl rfl ?_)
        refine G_nil ?_
        refine kC_normal ?_
        refine k_cond_d (p := x3_l14 < (List.length a0 : Int)) rfl (fun hc => ?_) (fun hc => ?_)
        · replace h := ite_t h hc
          refine k_skip ?_
          refine kC_normal ?_
          refine k_join0_0 h ((AF.put (AF.put AF0 (some 0) (.exact w0)) (some 3) (.exact (.int .i64 x3_l14)))) ([vecT Try.prog 23 2 c_A2_int w0 a0]) (fun k628 h => ?_) (fun  h => ?_)
          · refine k_block ?_
            refine k_seq ?_
            refine k_plan [] [(0, 0), (0, 1), (0, 4), (0, 5), (0, 6), (1, 2), (1, 3), (1, 7), (1, 8), (0, 9)] hmixP (by kernel_rfl) ?_
            refine P_q no34_0 rfl (op_move (av := .exact w0) rfl ?_)
            refine P_q no34_0 rfl (op_move (av := .exact (.int .i64 x3_l14)) rfl ?_)
            refine P_q no34_0 rfl (op_move (av := .exact w0) rfl ?_)
            refine P_q no34_0 rfl (op_move (av := .exact (.int .i64 x3_l14)) rfl ?_)
            refine P_q no34_0 rfl (op_sub rfl rfl rfl ?_)
            obtain ⟨n691, h⟩ := need_some h
            refine P_r rfl (op_index_vec (by kernel_rfl) rfl rfl n691.1 n691.2 ?_)
            refine P_r rfl (op_load_vecN (i := x3_l14) (o := 0) (m := 2) (c' := c_A2_int (gi a0 x3_l14)) (by kernel_rfl) len_c_A2_int rfl n691.1 n691.2 rfl rfl ?_)
            obtain ⟨n692, h⟩ := need_some h
            refine P_r rfl (op_index_vec (by kernel_rfl) rfl rfl n692.1 n692.2 ?_)
            refine P_r rfl (op_load_vecN (i := i64 (x3_l14 - 1)) (o := 0) (m := 2) (c' := c_A2_int (gi a0 (i64 (x3_l14 - 1)))) (by kernel_rfl) len_c_A2_int rfl n692.1 n692.2 rfl rfl ?_)
            refine P_q no34_0 rfl (op_eqlA (a := (gi a0 x3_l14)) (b := (gi a0 (i64 (x3_l14 - 1)))) (by kernel_rfl) (eq_c_A2_int _ _) rfl rfl ?_)
            refine P_nil ?_
            refine kC_normal ?_
            refine k_cond_d (p := (gi a0 x3_l14) = (gi a0 (i64 (x3_l14 - 1)))) rfl (fun hc => ?_) (fun hc => ?_)
            · replace h := ite_t h hc
              refine k_seq ?_
              refine k_reg .free hmixP (by kernel_rfl) ?_
              refine G_q rfl (op_move (av := .exact w0) rfl ?_)
              refine G_q rfl (op_move (av := .exact (.int .i64 x3_l14)) rfl ?_)
              obtain ⟨n693, h⟩ := need_some h
              refine G_r rfl (op_slice_vec (by kernel_rfl) rfl (bnd_some rfl) bnd_none n693.1 n693.2.1 n693.2.2 ?_)
              refine G_q rfl (op_assign (av := .vsub w0 2 (Int.toNat x3_l14) (Int.toNat (List.length a0 : Int) - Int.toNat x3_l14)) rfl ?_)
              refine G_nil ?_
              refine kC_normal ?_
              refine k_join2_0 h (fun (x0_j694 : List (Int × Int)) (x3_j694 : Int) => (AF.put (AF.put AF0 (some 0) (.exact w0)) (some 3) (.exact (.int .i64 x3_j694)))) (fun (x0_j694 : List (Int × Int)) (x3_j694 : Int) => [vecT Try.prog 23 2 c_A2_int w0 x0_j694]) (fun k694 h => ?_) (fun x0_j694 x3_j694 h => ?_)
              · refine k_seq ?_
                refine k_reg .free hmixP (by kernel_rfl) ?_
                refine G_q rfl (op_assign (av := .exact (.int .i64 1)) rfl ?_)
                refine G_nil ?_
                refine kC_normal ?_
                refine k_block ?_
                refine k_loop3_0 (m_slices_Compact_L_2_int_2_int_L26 a0 x3_l14 k694) (m_slices_Compact_L_2_int_2_int_B26 a0 x3_l14 k694) (fun _ _ _ => rfl) (fun m _ _ _ => rfl) h (fun (x0_l26 : List (Int × Int)) (x3_l26 : Int) (x5_l26 : Int) => (AF.put (AF.put (AF.put (AF.put AF0 (some 0) (.exact w0)) (some 3) (.exact (.int .i64 x3_l26))) (some 4) (.vsub w0 2 (Int.toNat x3_l14) (Int.toNat (List.length a0 : Int) - Int.toNat x3_l14))) (some 5) (.exact (.int .i64 x5_l26)))) (fun (x0_l26 : List (Int × Int)) (x3_l26 : Int) (x5_l26 : Int) => [vecT Try.prog 23 2 c_A2_int w0 x0_l26]) ?_ (fun rec26 x0_l26 x3_l26 x5_l26 h => ?_)
                · exact Sub.of_le (AF.le_put (AV.le_eq rfl) (AF.le_put (AV.le_eq rfl) (AF.le_put (AV.le_eq rfl) (AF.le_put (AV.le_eq rfl) (AF.le_top _)))))
                · unfold m_slices_Compact_L_2_int_2_int_B26 at h
                  refine k_seq ?_
                  refine k_seq ?_
                  refine k_reg .free hmixP (by kernel_rfl) ?_
                  refine G_q rfl (op_move (av := .exact (.int .i64 x5_l26)) rfl ?_)
                  refine G_q rfl (op_move (av := .vsub w0 2 (Int.toNat x3_l14) (Int.toNat (List.length a0 : Int) - Int.toNat x3_l14)) rfl ?_)
                  refine G_q rfl (op_len_vsub (by kernel_rfl) rfl ?_)
                  refine G_q rfl (op_lss rfl rfl ?_)
                  refine G_nil ?_
                  refine kC_normal ?_
                  refine k_cond_d (p := x5_l26 < ((Int.toNat (List.length a0 : Int) - Int.toNat x3_l14 : Nat) : Int)) rfl (fun hc => ?_) (fun hc => ?_)
                  · replace h := ite_t h hc
                    refine k_skip ?_
                    refine kC_normal ?_
                    refine k_join2_0 h (fun (x0_j741 : List (Int × Int)) (x3_j741 : Int) => (AF.put (AF.put (AF.put (AF.put AF0 (some 0) (.exact w0)) (some 3) (.exact (.int .i64 x3_j741))) (some 4) (.vsub w0 2 (Int.toNat x3_l14) (Int.toNat (List.length a0 : Int) - Int.toNat x3_l14))) (some 5) (.exact (.int .i64 x5_l26)))) (fun (x0_j741 : List (Int × Int)) (x3_j741 : Int) => [vecT Try.prog 23 2 c_A2_int w0 x0_j741]) (fun k741 h => ?_) (fun x0_j741 x3_j741 h => ?_)
                    · refine k_block ?_
                      refine k_seq ?_
                      refine k_plan [] [(0, 0), (0, 1), (0, 4), (0, 5), (0, 6), (1, 2), (1, 3), (1, 7), (1, 8), (0, 9)] hmixP (by kernel_rfl) ?_
                      refine P_q no34_0 rfl (op_move (av := .vsub w0 2 (Int.toNat x3_l14) (Int.toNat (List.length a0 : Int) - Int.toNat x3_l14)) rfl ?_)
                      refine P_q no34_0 rfl (op_move (av := .exact (.int .i64 x5_l26)) rfl ?_)
                      refine P_q no34_0 rfl (op_move (av := .vsub w0 2 (Int.toNat x3_l14) (Int.toNat (List.length a0 : Int) - Int.toNat x3_l14)) rfl ?_)
                      refine P_q no34_0 rfl (op_move (av := .exact (.int .i64 x5_l26)) rfl ?_)
                      refine P_q no34_0 rfl (op_sub rfl rfl rfl ?_)
                      obtain ⟨n746, h⟩ := need_some h
                      refine P_r rfl (op_index_vsub (j := (x3_l14 + x5_l26)) (by kernel_rfl) rfl rfl n746.2.1 (by have hh := n746; try simp only [i64] at *; omega) (by have hh := n746; try simp only [i64] at *; omega) (by have hh := n746; try simp only [i64] at *; omega) ?_)
                      refine P_r rfl (op_load_vecN (i := (x3_l14 + x5_l26)) (o := 0) (m := 2) (c' := c_A2_int (gi x0_l26 (x3_l14 + x5_l26))) (by kernel_rfl) len_c_A2_int rfl n746.2.2.2.1 n746.2.2.2.2 rfl rfl ?_)
                      obtain ⟨n747, h⟩ := need_some h
                      refine P_r rfl (op_index_vsub (j := (x3_l14 + (i64 (x5_l26 - 1)))) (by kernel_rfl) rfl rfl n747.2.1 (by have hh := n747; try simp only [i64] at *; omega) (by have hh := n747; try simp only [i64] at *; omega) (by have hh := n747; try simp only [i64] at *; omega) ?_)
                      refine P_r rfl (op_load_vecN (i := (x3_l14 + (i64 (x5_l26 - 1)))) (o := 0) (m := 2) (c' := c_A2_int (gi x0_l26 (x3_l14 + (i64 (x5_l26 - 1))))) (by kernel_rfl) len_c_A2_int rfl n747.2.2.2.1 n747.2.2.2.2 rfl rfl ?_)
                      refine P_q no34_0 rfl (op_neqA (a := (gi x0_l26 (x3_l14 + x5_l26))) (b := (gi x0_l26 (x3_l14 + (i64 (x5_l26 - 1))))) (by kernel_rfl) (eq_c_A2_int _ _) rfl rfl ?_)
                      refine P_nil ?_
                      refine kC_normal ?_
                      refine k_cond_d (p := ¬ (gi x0_l26 (x3_l14 + x5_l26)) = (gi x0_l26 (x3_l14 + (i64 (x5_l26 - 1))))) rfl (fun hc => ?_) (fun hc => ?_)
                      · replace h := ite_t h hc
                        refine k_seq ?_
                        refine k_reg .free hmixP (by kernel_rfl) ?_
                        refine G_q rfl (op_move (av := .exact w0) rfl ?_)
                        refine G_q rfl (op_move (av := .exact (.int .i64 x3_l26)) rfl ?_)
                        refine G_q rfl (op_move (av := .vsub w0 2 (Int.toNat x3_l14) (Int.toNat (List.length a0 : Int) - Int.toNat x3_l14)) rfl ?_)
                        refine G_q rfl (op_move (av := .exact (.int .i64 x5_l26)) rfl ?_)
                        obtain ⟨n748, h⟩ := need_some h
                        refine G_r rfl (op_index_vsub (j := (x3_l14 + x5_l26)) (by kernel_rfl) rfl rfl n748.2.1 (by have hh := n748; try simp only [i64] at *; omega) (by have hh := n748; try simp only [i64] at *; omega) (by have hh := n748; try simp only [i64] at *; omega) ?_)
                        refine G_r rfl (op_load_vecN (i := (x3_l14 + x5_l26)) (o := 0) (m := 2) (c' := c_A2_int (gi x0_l26 (x3_l14 + x5_l26))) (by kernel_rfl) len_c_A2_int rfl n748.2.2.2.1 n748.2.2.2.2 rfl rfl ?_)
                        obtain ⟨n749, h⟩ := need_some h
                        refine G_r rfl (op_index_vec (by kernel_rfl) rfl rfl n749.1 n749.2 ?_)
                        refine G_l rfl (op_store_vec (i := x3_l26) (o := 0) (z := gi x0_l26 (x3_l14 + x5_l26)) (c' := [.exact (.int .i64 ((gi x0_l26 (x3_l14 + x5_l26)).1)), .exact (.int .i64 ((gi x0_l26 (x3_l14 + x5_l26)).2))]) (by kernel_rfl) len_c_A2_int rfl n749.1 n749.2 rfl CellsOf.agg (LEs.cons (AV.le_eq rfl) (LEs.cons (AV.le_eq rfl) LEs.nil)) (oc_c_A2_int _) (by kernel_rfl) (Nat.le_of_ble_eq_true rfl) rfl ?_)
                        refine G_nil ?_
                        refine kC_normal ?_
                        refine k_reg .free hmixP (by kernel_rfl) ?_
                        refine G_q rfl (op_move (av := .exact (.int .i64 x3_l26)) rfl ?_)
                        refine G_q rfl (op_add rfl rfl rfl ?_)
                        refine G_q rfl (op_assign (av := .exact (.int .i64 (i64 (x3_l26 + 1)))) rfl ?_)
                        refine G_nil ?_
                        refine kB_normal ?_
                        refine kI_normal ⟨_, _, h, ?_⟩
                        exact Sub.of_le (AF.le_put (AV.le_eq rfl) (AF.le_put (AV.le_eq rfl) (AF.le_put (AV.le_eq rfl) (AF.le_put (AV.le_eq rfl) (AF.le_top _)))))
                      · replace h := ite_f h hc
                        refine k_skip ?_
                        refine kB_normal ?_
                        refine kI_normal ⟨_, _, h, ?_⟩
                        exact Sub.of_le (AF.le_put (AV.le_eq rfl) (AF.le_put (AV.le_eq rfl) (AF.le_put (AV.le_eq rfl) (AF.le_put (AV.le_eq rfl) (AF.le_top _)))))
                    · refine k_reg .free hmixP (by kernel_rfl) ?_
                      refine G_q rfl (op_move (av := .exact (.int .i64 x5_l26)) rfl ?_)
                      refine G_q rfl (op_add rfl rfl rfl ?_)
                      refine G_q rfl (op_assign (av := .exact (.int .i64 (i64 (x5_l26 + 1)))) rfl ?_)
                      refine G_nil ?_
                      refine kI_normal ⟨_, _, _, h, ?_⟩
                      exact Sub.of_le (AF.le_put (AV.le_eq rfl) (AF.le_put (AV.le_eq rfl) (AF.le_put (AV.le_eq rfl) (AF.le_put (AV.le_eq rfl) (AF.le_top _)))))
                  · replace h := ite_f h hc
                    refine k_exit ?_
                    refine kC_exit ?_
                    refine kI_exit ?_
                    refine kB_exit ?_
                    refine kI_normal ⟨_, _, h, ?_⟩
                    exact Sub.of_le (AF.le_put (AV.le_eq rfl) (AF.le_put (AV.le_eq rfl) (AF.le_top _)))
              · refine k_seq ?_
                refine k_reg .free hmixP (by kernel_rfl) ?_
                refine G_q rfl (op_move (av := .exact w0) rfl ?_)
                refine G_q rfl (op_move (av := .exact (.int .i64 x3_j694)) rfl ?_)
                obtain ⟨n750, h⟩ := need_some h
                refine G_r rfl (op_slice_vec (by kernel_rfl) rfl (bnd_some rfl) bnd_none n750.1 n750.2.1 n750.2.2 ?_)
                refine G_l rfl (op_clear (zr := (0, 0)) (by kernel_rfl) len_c_A2_int oc_c_A2_int rfl (by have := n750; omega) Try.zeroValue29 (fun _ _ => (Fit.ex (Fit.ex Fit.nil0))) ?_)
                refine G_nil ?_
                refine kC_normal ?_
                refine k_seq ?_
                refine k_reg .free hmixP (by kernel_rfl) ?_
                refine G_q rfl (op_move (av := .exact w0) rfl ?_)
                refine G_q rfl (op_move (av := .exact (.int .i64 x3_j694)) rfl ?_)
                refine G_sub rfl (SubU.freezeT3 (s1 := 0) (s2 := 54) (s3 := 57) rfl rfl rfl len_c_A2_int) ?_
                obtain ⟨n751, h⟩ := need_some h
                refine G_q rfl (op_slice_rowt (by kernel_rfl) rfl bnd_none (bnd_some rfl) (Int.le_refl 0) n751.1 n751.2 ?_)
                refine G_q rfl (op_assign (av := .row 2 c_A2_int (List.take (Int.toNat x3_j694) (List.take (Int.toNat x3_j694) x0_j694 ++ List.replicate (Int.toNat (List.length x0_j694 : Int) - Int.toNat x3_j694) ((0, 0) : Int × Int) ++ List.drop (Int.toNat x3_j694 + (Int.toNat (List.length x0_j694 : Int) - Int.toNat x3_j694)) x0_j694))) rfl ?_)
                refine G_nil ?_
                refine kC_normal ?_
                refine k_ret ?_
                refine kB_ret ?_
                refine kI_ret ?_
                refine kI_ret ?_
                refine kB_ret ?_
                refine kI_ret ?_
                obtain rfl := Option.some.inj h
                refine kP_any (endN (af' := (AF.put AF0 (some 2) (.row 2 c_A2_int (List.take (Int.toNat x3_j694) (List.take (Int.toNat x3_j694) x0_j694 ++ List.replicate (Int.toNat (List.length x0_j694 : Int) - Int.toNat x3_j694) ((0, 0) : Int × Int) ++ List.drop (Int.toNat x3_j694 + (Int.toNat (List.length x0_j694 : Int) - Int.toNat x3_j694)) x0_j694))))) (σ' := []) _ rfl ?_ ⟨rfl, rfl⟩)
                exact Sub.of_le (AF.le_put (AV.le_eq rfl) (AF.le_top _))
            · replace h := ite_f h hc
              refine k_skip ?_
              refine kB_normal ?_
              refine kI_normal ⟨h, ?_⟩
              exact Sub.of_le (AF.le_put (AV.le_eq rfl) (AF.le_put (AV.le_eq rfl) (AF.le_top _)))
          · refine k_reg .free hmixP (by kernel_rfl) ?_
            refine G_q rfl (op_move (av := .exact (.int .i64 x3_l14)) rfl ?_)
            refine G_q rfl (op_add rfl rfl rfl ?_)
            refine G_q rfl (op_assign (av := .exact (.int .i64 (i64 (x3_l14 + 1)))) rfl ?_)
            refine G_nil ?_
            refine kI_normal ⟨_, h, ?_⟩
            exact Sub.of_le (AF.le_put (AV.le_eq rfl) (AF.le_put (AV.le_eq rfl) (AF.le_top _)))
        · replace h := ite_f h hc
          refine k_exit ?_
          refine kC_exit ?_
          refine kI_exit ?_
          refine kB_exit ?_
          refine kI_normal ⟨h, ?_⟩
          exact Sub.of_le (AF.le_put (AV.le_eq rfl) (AF.le_top _))
    · refine k_seq ?_
      refine k_reg .free hmixP (by kernel_rfl) ?_
      refine G_q rfl (op_move (av := .exact w0) rfl ?_)
      refine G_q rfl (op_assign (av := .exact w0) rfl ?_)
      refine G_nil ?_
      refine kC_normal ?_
      refine k_ret ?_
      obtain rfl := Option.some.inj h
      refine kP_any (endN (af' := (AF.put AF0 (some 2) (.row 2 c_A2_int a0))) (σ' := []) _ rfl ?_ ⟨rfl, rfl⟩)
      refine Sub.trans (SubU.to (SubU.freezeT (s := 2) rfl len_c_A2_int)) ?_
      exact Sub.of_le (AF.le_put (AV.le_eq rfl) (AF.le_top _))
set_option maxHeartbeats 4000000 in
theorem m_frontier_Sorted_ok (a0 : List (Int × Int)) (r : (List (Int × Int))) (h : m_frontier_Sorted a0 = some r) : Pure Try.prog 31 [(.row 2 c_A2_int a0)] (.row 2 c_A2_int r) := by
  unfold m_frontier_Sorted at h
  refine Pure.ofFun (fun_of_awp Try.func31 rfl Try.ntmps31 (by simp) rfl (res1 rfl) fun E hE => k_end ?_)
  refine k_seq ?_
  refine k_reg .free hmixP (by kernel_rfl) ?_
  refine G_q rfl (op_assign (av := .exact (.slice none 0 0)) rfl ?_)
  refine G_nil ?_
  refine kC_normal ?_
  refine k_join0_0 h ((AF.put AF0 (some 0) (.row 2 c_A2_int a0))) ([]) (fun k1 h => ?_) (fun  h => ?_)
  · refine k_seq ?_
    refine k_reg .free hmixP (by kernel_rfl) ?_
    refine G_q rfl (op_move (av := .row 2 c_A2_int a0) rfl ?_)
    refine G_q rfl (op_len_row (by kernel_rfl) rfl ?_)
    refine G_q rfl (op_move (av := .exact (.int .i64 0)) rfl ?_)
    refine G_nil ?_
    refine kC_normal ?_
    refine k_block ?_
    refine k_loop1_0 (m_frontier_Sorted_L2 a0 k1) (m_frontier_Sorted_B2 a0 k1) (fun _ => rfl) (fun m _ => rfl) h (fun (x8_l2 : Int) => (AF.put (AF.put (AF.put (AF.put AF0 (some 0) (.row 2 c_A2_int a0)) (some 6) (.row 2 c_A2_int a0)) (some 7) (.exact (.int .i64 (List.length a0 : Int)))) (some 8) (.exact (.int .i64 x8_l2)))) (fun (x8_l2 : Int) => []) ?_ (fun rec2 x8_l2 h => ?_)
    · exact Sub.of_le (AF.le_put (AV.le_eq rfl) (AF.le_put (AV.le_eq rfl) (AF.le_put (AV.le_eq rfl) (AF.le_put (AV.le_eq rfl) (AF.le_top _)))))
    · unfold m_frontier_Sorted_B2 at h
      refine k_seq ?_
      refine k_reg .free hmixP (by kernel_rfl) ?_
      refine G_q rfl (op_lss rfl rfl ?_)
      refine G_nil ?_
      refine kC_normal ?_
      refine k_seq ?_
      refine k_cond_d (p := x8_l2 < (List.length a0 : Int)) rfl (fun hc => ?_) (fun hc => ?_)
      · replace h := ite_t h hc
        refine k_skip ?_
        refine kC_normal ?_
        refine k_seq ?_
        refine k_block ?_
        refine k_seq ?_
        refine k_reg .free hmixP (by kernel_rfl) ?_
        obtain ⟨n18, h⟩ := need_some h
        refine G_q rfl (op_index_row (by kernel_rfl) rfl rfl n18.1 n18.2 ?_)
        refine G_q rfl (op_loadNp (m := 2) (c' := c_A2_int (gi a0 x8_l2)) (by kernel_rfl) rfl rfl rfl ?_)
        refine G_l rfl (op_alloc (c := [.exact (.int .i64 ((0, 0).1)), .exact (.int .i64 ((0, 0).2))]) rfl (LEs.cons (AV.le_eq rfl) (LEs.cons (AV.le_eq rfl) LEs.nil)) (fun b19 => ?_))
        refine G_l rfl (op_store_box (c' := [.exact (.int .i64 ((gi a0 x8_l2).1)), .exact (.int .i64 ((gi a0 x8_l2).2))]) (c3 := [.exact (.int .i64 ((gi a0 x8_l2).1)), .exact (.int .i64 ((gi a0 x8_l2).2))]) rfl rfl CellsOf.agg (LEs.cons (AV.le_eq rfl) (LEs.cons (AV.le_eq rfl) LEs.nil)) (oc_c_A2_int _) (by kernel_rfl) (Nat.le_of_ble_eq_true rfl) rfl ?_)
        refine G_nil ?_
        refine kC_normal ?_
        refine k_seq ?_
        refine k_reg .free hmixP (by kernel_rfl) ?_
        refine G_r rfl (op_load_boxN (m := 2) (c' := c_A2_int ((gi a0 x8_l2).1, (gi a0 x8_l2).2)) (by kernel_rfl) rfl rfl rfl ?_)
        obtain ⟨y20, hy20, h⟩ := bnd1_some h
        refine G_q rfl (op_pure (m_frontier_isPair_ok _ _ hy20) Try.func62 (by kernel_rfl) (LEs.cons (AV.le_eq rfl) LEs.nil) ?_)
        refine G_q rfl (op_not rfl ?_)
        refine G_nil ?_
        refine kC_normal ?_
        refine k_cond_b (c := !y20) rfl (fun hc => ?_) (fun hc => ?_)
        · replace h := ite_t h hc
          refine k_seq ?_
          refine k_reg .free hmixP (by kernel_rfl) ?_
          refine G_q rfl (op_assign (av := .exact (.slice none 0 0)) rfl ?_)
          refine G_nil ?_
          refine kC_normal ?_
          refine k_ret ?_
          refine kB_ret ?_
          refine kC_ret ?_
          refine kI_ret ?_
          refine kB_ret ?_
          refine kI_ret ?_
          obtain rfl := Option.some.inj h
          refine kP_any (endN (af' := (AF.put AF0 (some 2) (.row 2 c_A2_int []))) (σ' := []) _ rfl ?_ ⟨rfl, rfl⟩)
          refine Sub.trans (SubU.to SubU.drop) ?_
          exact Sub.of_le (AF.le_put (row_nil (by decide)) (AF.le_top _))
        · replace h := ite_f h hc
          refine k_skip ?_
          refine kB_normal ?_
          refine kC_normal ?_
          refine k_reg .free hmixP (by kernel_rfl) ?_
          refine G_q rfl (op_add rfl rfl rfl ?_)
          refine G_q rfl (op_move (av := .exact (.int .i64 (i64 (x8_l2 + 1)))) rfl ?_)
          refine G_nil ?_
          refine kI_normal ⟨_, h, ?_⟩
          refine Sub.trans (SubU.to SubU.drop) ?_
          exact Sub.of_le (AF.le_put (AV.le_eq rfl) (AF.le_put (AV.le_eq rfl) (AF.le_put (AV.le_eq rfl) (AF.le_put (AV.le_eq rfl) (AF.le_top _)))))
      · replace h := ite_f h hc
        refine k_exit ?_
        refine kC_exit ?_
        refine kI_exit ?_
        refine kB_exit ?_
        refine kI_normal ⟨h, ?_⟩
        exact Sub.of_le (AF.le_put (AV.le_eq rfl) (AF.le_top _))
  · refine k_seq ?_
    refine k_reg .free hmixP (by kernel_rfl) ?_
    refine G_q rfl (op_move (av := .row 2 c_A2_int a0) rfl ?_)
    obtain ⟨y21, hy21, h⟩ := bnd1_some h
    refine G_l rfl (op_fun_0_1_1 (m_slices_Clone_L_2_int_2_int_ok _ _ hy21) Try.func63 (by kernel_rfl) (LEs.cons (AV.le_eq rfl) LEs.nil) (fun v22 => ?_))
    refine G_q rfl (op_assign (av := .exact v22) rfl ?_)
    refine G_nil ?_
    refine kC_normal ?_
    refine k_seq ?_
    refine k_reg .free hmixP (by kernel_rfl) ?_
    refine G_q rfl (op_move (av := .exact v22) rfl ?_)
    obtain ⟨y23, hy23, h⟩ := bnd1_some h
    refine G_l rfl (op_fun_1_0_1 (m_sortP_ok m_frontier_compare_ok _ _ hy23) Try.func64 (by kernel_rfl) (LEs.cons (AV.le_eq rfl) (LEs.cons (AV.le_eq rfl) LEs.nil)) ?_)
    refine G_nil ?_
    refine kC_normal ?_
    refine k_seq ?_
    refine k_reg .free hmixP (by kernel_rfl) ?_
    refine G_q rfl (op_move (av := .exact v22) rfl ?_)
    obtain ⟨y24, hy24, h⟩ := bnd1_some h
    refine G_l rfl (op_fun_1_0_0 (m_slices_Compact_L_2_int_2_int_ok _ _ hy24) Try.func65 (by kernel_rfl) (LEs.cons (AV.le_eq rfl) LEs.nil) ?_)
    refine G_q rfl (op_assign (av := .row 2 c_A2_int y24) rfl ?_)
    refine G_nil ?_
    refine kC_normal ?_
    refine k_ret ?_
    obtain rfl := Option.some.inj h
    refine kP_any (endN (af' := (AF.put AF0 (some 2) (.row 2 c_A2_int y24))) (σ' := []) _ rfl ?_ ⟨rfl, rfl⟩)
    exact Sub.of_le (AF.le_put (AV.le_eq rfl) (AF.le_top _))
end Go.Proofs.Ytkplmgdmkfgjhaa
/- The functions compute their models, by program. -/
namespace Go.Proofs.Ytkplmgdmkfgjhaa
open Go.RowKit
attribute [local irreducible] AV.exact AV.top AV.row AV.ptr AV.agg AV.tup AV.eptr AV.fn AV.nilq AV.nilqn opA opB opM opR Quiet Loud Reads wpG awp den Sub SubU Pure Fun vecI vecT boxI CellsAll CellsOf OneC LEs LEss
set_option maxRecDepth 100000

set_option maxHeartbeats 4000000 in
theorem m_frontier_Write_ok {w0 : Nat} {w0o : List Nat} (a0 : Dk) (a1 : List UInt8) (a2 : List (Int × Int)) (a3 : Int) (r : Int × Dk) (h : m_frontier_Write a0 a1 a2 a3 = some r) : Fun Try.prog 22 [(pA w0 0), (.exact (.string (bs a1))), (.row 2 c_A2_int a2), (.exact (.int .i64 a3))] [dskI w0 w0o a0] (fun a s => ∃ zo0, a = .exact (.int .i64 r.1) ∧ s = [dskI w0 zo0 r.2]) := by
  unfold m_frontier_Write at h
  refine fun_of_awp Try.func22 rfl Try.ntmps22 (by simp) rfl (res1 rfl) fun E hE => k_end ?_
  refine k_seq ?_
  refine k_reg .free hmixP (by kernel_rfl) ?_
  refine G_q rfl (op_assign (av := .exact (.int .i64 0)) rfl ?_)
  refine G_nil ?_
  refine kC_normal ?_
  refine k_seq ?_
  refine k_join1_0 h (fun (x23_j5 : Bool) => (AF.put (AF.put (AF.put (AF.put (AF.put AF0 (some 0) (pA w0 0)) (some 1) (.exact (.string (bs a1)))) (some 2) (.row 2 c_A2_int a2)) (some 3) (.exact (.int .i64 a3))) (some 23) (.exact (.bool x23_j5)))) (fun (x23_j5 : Bool) => [dskI w0 w0o a0]) (fun k5 h => ?_) (fun x23_j5 h => ?_)
  · refine k_reg .free hmixP (by kernel_rfl) ?_
    refine G_q rfl (op_move (av := .row 2 c_A2_int a2) rfl ?_)
    obtain ⟨y7, hy7, h⟩ := bnd1_some h
    refine G_q rfl (op_pure (m_frontier_isRun_ok _ _ hy7) Try.func48 (by kernel_rfl) (LEs.cons (AV.le_eq rfl) LEs.nil) ?_)
    refine G_q rfl (op_not rfl ?_)
    refine G_q rfl (op_move (av := .exact (.bool (!y7))) rfl ?_)
    refine G_splitB (c := !y7) 16 rfl (fun hc => ?_) (fun hc => ?_)
    · replace h := ite_t h hc
      refine G_n rfl rfl ?_
      refine G_n rfl rfl ?_
      refine G_q rfl (op_pick_t rfl (av := .exact (.bool true)) rfl ?_)
      refine G_q rfl (op_move (av := .exact (.bool true)) rfl ?_)
      refine G_n rfl rfl ?_
      refine G_n rfl rfl ?_
      refine G_q rfl (op_pick_t rfl (av := .exact (.bool true)) rfl ?_)
      refine G_nil ?_
      refine kI_normal ⟨_, h, ?_⟩
      exact Sub.of_le (AF.le_put (AV.le_eq rfl) (AF.le_put (AV.le_eq rfl) (AF.le_put (AV.le_eq rfl) (AF.le_put (AV.le_eq rfl) (AF.le_put (AV.le_eq rfl) (AF.le_top _))))))
    · replace h := ite_f h hc
      refine Gy_q rfl rfl rfl (op_move (av := .exact (.int .i64 a3)) rfl ?_)
      refine Gy_q rfl rfl rfl (op_lss rfl rfl ?_)
      refine G_q rfl (op_pick_f rfl (av := .exact (.bool (decide (a3 < 1)))) rfl ?_)
      refine G_q rfl (op_move (av := .exact (.bool (decide (a3 < 1)))) rfl ?_)
      refine G_split (p := a3 < 1) 20 rfl (fun hc => ?_) (fun hc => ?_)
      · replace h := ite_t h hc
        refine G_n rfl rfl ?_
        refine G_n rfl rfl ?_
        refine G_q rfl (op_pick_t rfl (av := .exact (.bool true)) rfl ?_)
        refine G_nil ?_
        refine kI_normal ⟨_, h, ?_⟩
        exact Sub.of_le (AF.le_put (AV.le_eq rfl) (AF.le_put (AV.le_eq rfl) (AF.le_put (AV.le_eq rfl) (AF.le_put (AV.le_eq rfl) (AF.le_put (AV.le_eq rfl) (AF.le_top _))))))
      · replace h := ite_f h hc
        refine Gy_q rfl rfl rfl (op_move (av := .exact (.int .i64 a3)) rfl ?_)
        refine Gy_q rfl rfl rfl (op_gtr rfl rfl ?_)
        refine G_q rfl (op_pick_f rfl (av := .exact (.bool (decide (1024 < a3)))) rfl ?_)
        refine G_nil ?_
        refine kI_normal ⟨_, h, ?_⟩
        exact Sub.of_le (AF.le_put (AV.le_eq rfl) (AF.le_put (AV.le_eq rfl) (AF.le_put (AV.le_eq rfl) (AF.le_put (AV.le_eq rfl) (AF.le_put (AV.le_eq rfl) (AF.le_top _))))))
  · refine k_cond_b (c := x23_j5) rfl (fun hc => ?_) (fun hc => ?_)
    · replace h := ite_t h hc
      refine k_seq ?_
      refine k_reg .free hmixP (by kernel_rfl) ?_
      refine G_q rfl (op_assign (av := .exact (.int .i64 1)) rfl ?_)
      refine G_nil ?_
      refine kC_normal ?_
      refine k_ret ?_
      refine kC_ret ?_
      obtain rfl := Option.some.inj h
      refine kP_any (endN (af' := (AF.put AF0 (some 8) (.exact (.int .i64 1)))) (σ' := [dskI w0 w0o a0]) _ rfl ?_ ⟨w0o, rfl, rfl⟩)
      exact Sub.of_le (AF.le_put (AV.le_eq rfl) (AF.le_top _))
    · replace h := ite_f h hc
      refine k_skip ?_
      refine kC_normal ?_
      refine k_join1_1 h (fun (x0d_j8 : Dk) (o0_j8 : List Nat) => (AF.put (AF.put (AF.put (AF.put AF0 (some 0) (pA w0 0)) (some 1) (.exact (.string (bs a1)))) (some 2) (.row 2 c_A2_int a2)) (some 3) (.exact (.int .i64 a3)))) (fun (x0d_j8 : Dk) (o0_j8 : List Nat) => [dskI w0 o0_j8 x0d_j8]) (fun k8 h => ?_) (fun x0d_j8 o0_j8 h => ?_)
      · refine k_seq ?_
        refine k_reg .free hmixP (by kernel_rfl) ?_
        refine G_q rfl (op_move (av := .row 2 c_A2_int a2) rfl ?_)
        refine G_q rfl (op_len_row (by kernel_rfl) rfl ?_)
        refine G_q rfl (op_eql rfl rfl ?_)
        refine G_nil ?_
        refine kC_normal ?_
        refine k_cond_d (p := (List.length a2 : Int) = 0) rfl (fun hc => ?_) (fun hc => ?_)
        · replace h := ite_t h hc
          refine k_seq ?_
          refine k_reg .free hmixP (by kernel_rfl) ?_
          refine G_q rfl (op_move (av := pA w0 0) rfl ?_)
          refine G_q rfl (op_move (av := .exact (.string (bs a1))) rfl ?_)
          obtain ⟨y11, hy11, h⟩ := bnd1_some h
          refine G_l rfl (op_fun_1_1_1 (m_disk_Append_ok _ _ _ _ hy11) Try.func27 (by kernel_rfl) (LEs.cons (AV.le_eq rfl) (LEs.cons (AV.le_eq rfl) (LEs.cons (row_nil (by decide)) LEs.nil))) (fun o12 => ?_))
          refine G_q rfl (op_assign (av := .exact (.int .i64 y11.1)) rfl ?_)
          refine G_nil ?_
          refine kC_normal ?_
          refine k_seq ?_
          refine k_reg .free hmixP (by kernel_rfl) ?_
          refine G_q rfl (op_move (av := .exact (.int .i64 y11.1)) rfl ?_)
          refine G_q rfl (op_neq rfl rfl ?_)
          refine G_nil ?_
          refine kC_normal ?_
          refine k_cond_d (p := ¬ y11.1 = 0) rfl (fun hc => ?_) (fun hc => ?_)
          · replace h := ite_t h hc
            refine k_seq ?_
            refine k_reg .free hmixP (by kernel_rfl) ?_
            refine G_q rfl (op_move (av := .exact (.int .i64 y11.1)) rfl ?_)
            refine G_q rfl (op_assign (av := .exact (.int .i64 y11.1)) rfl ?_)
            refine G_nil ?_
            refine kC_normal ?_
            refine k_ret ?_
            refine kI_ret ?_
            obtain rfl := Option.some.inj h
            refine kP_any (endN (af' := (AF.put AF0 (some 8) (.exact (.int .i64 y11.1)))) (σ' := [dskI w0 o12 y11.2]) _ rfl ?_ ⟨o12, rfl, rfl⟩)
            exact Sub.of_le (AF.le_put (AV.le_eq rfl) (AF.le_top _))
          · replace h := ite_f h hc
            refine k_skip ?_
            refine kI_normal ⟨_, o12, h, ?_⟩
            exact Sub.of_le (AF.le_put (AV.le_eq rfl) (AF.le_put (AV.le_eq rfl) (AF.le_put (AV.le_eq rfl) (AF.le_put (AV.le_eq rfl) (AF.le_top _)))))
        · replace h := ite_f h hc
          refine k_skip ?_
          refine kI_normal ⟨_, w0o, h, ?_⟩
          exact Sub.of_le (AF.le_put (AV.le_eq rfl) (AF.le_put (AV.le_eq rfl) (AF.le_put (AV.le_eq rfl) (AF.le_put (AV.le_eq rfl) (AF.le_top _)))))
      · refine k_join1_1 h (fun (x0d_j13 : Dk) (o0_j13 : List Nat) => (AF.put (AF.put AF0 (some 0) (pA w0 0)) (some 1) (.exact (.string (bs a1))))) (fun (x0d_j13 : Dk) (o0_j13 : List Nat) => [dskI w0 o0_j13 x0d_j13]) (fun k13 h => ?_) (fun x0d_j13 o0_j13 h => ?_)
        · refine k_seq ?_
          refine k_reg .free hmixP (by kernel_rfl) ?_
          refine G_q rfl (op_assign (av := .exact (.int .i64 0)) rfl ?_)
          refine G_nil ?_
          refine kC_normal ?_
          refine k_block ?_
          refine k_loop2_1 (m_frontier_Write_L2 a1 a2 a3 k13) (m_frontier_Write_B2 a1 a2 a3 k13) (fun _ _ => rfl) (fun m _ _ => rfl) h (fun (x0d_l2 : Dk) (x10_l2 : Int) (o0_l2 : List Nat) => (AF.put (AF.put (AF.put (AF.put (AF.put AF0 (some 0) (pA w0 0)) (some 1) (.exact (.string (bs a1)))) (some 2) (.row 2 c_A2_int a2)) (some 3) (.exact (.int .i64 a3))) (some 10) (.exact (.int .i64 x10_l2)))) (fun (x0d_l2 : Dk) (x10_l2 : Int) (o0_l2 : List Nat) => [dskI w0 o0_l2 x0d_l2]) o0_j8 ?_ (fun rec2 x0d_l2 x10_l2 o0_l2 h => ?_)
          · exact Sub.of_le (AF.le_put (AV.le_eq rfl) (AF.le_put (AV.le_eq rfl) (AF.le_put (AV.le_eq rfl) (AF.le_put (AV.le_eq rfl) (AF.le_put (AV.le_eq rfl) (AF.le_top _))))))
          · unfold m_frontier_Write_B2 at h
            refine k_seq ?_
            refine k_seq ?_
            refine k_reg .free hmixP (by kernel_rfl) ?_
            refine G_q rfl (op_move (av := .exact (.int .i64 x10_l2)) rfl ?_)
            refine G_q rfl (op_move (av := .row 2 c_A2_int a2) rfl ?_)
            refine G_q rfl (op_len_row (by kernel_rfl) rfl ?_)
            refine G_q rfl (op_lss rfl rfl ?_)
            refine G_nil ?_
            refine kC_normal ?_
            refine k_cond_d (p := x10_l2 < (List.length a2 : Int)) rfl (fun hc => ?_) (fun hc => ?_)
            · replace h := ite_t h hc
              refine k_skip ?_
              refine kC_normal ?_
              refine k_seq ?_
              refine k_block ?_
              refine k_seq ?_
              refine k_reg .free hmixP (by kernel_rfl) ?_
              refine G_q rfl (op_move (av := .exact (.int .i64 x10_l2)) rfl ?_)
              refine G_q rfl (op_move (av := .exact (.int .i64 a3)) rfl ?_)
              refine G_q rfl (op_add rfl rfl rfl ?_)
              refine G_q rfl (op_move (av := .row 2 c_A2_int a2) rfl ?_)
              refine G_q rfl (op_len_row (by kernel_rfl) rfl ?_)
              refine G_q rfl (op_min rfl rfl ?_)
              refine G_q rfl (op_assign (av := .exact (.int .i64 (min (i64 (x10_l2 + a3)) (List.length a2 : Int)))) rfl ?_)
              refine G_nil ?_
              refine kC_normal ?_
              refine k_seq ?_
              refine k_reg .free hmixP (by kernel_rfl) ?_
              refine G_q rfl (op_move (av := pA w0 0) rfl ?_)
              refine G_q rfl (op_move (av := .exact (.string (bs a1))) rfl ?_)
              refine G_q rfl (op_move (av := .row 2 c_A2_int a2) rfl ?_)
              refine G_q rfl (op_move (av := .exact (.int .i64 x10_l2)) rfl ?_)
              refine G_q rfl (op_move (av := .exact (.int .i64 (min (i64 (x10_l2 + a3)) (List.length a2 : Int)))) rfl ?_)
              refine G_q rfl (op_move (av := .exact (.int .i64 (min (i64 (x10_l2 + a3)) (List.length a2 : Int)))) rfl ?_)
              obtain ⟨n35, h⟩ := need_some h
              refine G_q rfl (op_slice_row3 (by kernel_rfl) rfl (bnd_some rfl) rfl rfl n35.1 n35.2.1 (Int.le_refl _) n35.2.2 ?_)
              obtain ⟨y36, hy36, h⟩ := bnd1_some h
              refine G_q rfl (op_pure (m_frontier_encode_ok _ _ hy36) Try.func49 (by kernel_rfl) (LEs.cons (AV.le_eq rfl) LEs.nil) ?_)
              obtain ⟨y37, hy37, h⟩ := bnd1_some h
              refine G_l rfl (op_fun_1_1_1 (m_disk_Append_ok _ _ _ _ hy37) Try.func27 (by kernel_rfl) (LEs.cons (AV.le_eq rfl) (LEs.cons (AV.le_eq rfl) (LEs.cons (AV.le_eq rfl) LEs.nil))) (fun o38 => ?_))
              refine G_q rfl (op_assign (av := .exact (.int .i64 y37.1)) rfl ?_)
              refine G_nil ?_
              refine kC_normal ?_
              refine k_seq ?_
              refine k_reg .free hmixP (by kernel_rfl) ?_
              refine G_q rfl (op_move (av := .exact (.int .i64 y37.1)) rfl ?_)
              refine G_q rfl (op_neq rfl rfl ?_)
              refine G_nil ?_
              refine kC_normal ?_
              refine k_cond_d (p := ¬ y37.1 = 0) rfl (fun hc => ?_) (fun hc => ?_)
              · replace h := ite_t h hc
                refine k_seq ?_
                refine k_reg .free hmixP (by kernel_rfl) ?_
                refine G_q rfl (op_move (av := .exact (.int .i64 y37.1)) rfl ?_)
                refine G_q rfl (op_assign (av := .exact (.int .i64 y37.1)) rfl ?_)
                refine G_nil ?_
                refine kC_normal ?_
                refine k_ret ?_
                refine kB_ret ?_
                refine kC_ret ?_
                refine kI_ret ?_
                refine kB_ret ?_
                refine kI_ret ?_
                obtain rfl := Option.some.inj h
                refine kP_any (endN (af' := (AF.put AF0 (some 8) (.exact (.int .i64 y37.1)))) (σ' := [dskI w0 o38 y37.2]) _ rfl ?_ ⟨o38, rfl, rfl⟩)
                exact Sub.of_le (AF.le_put (AV.le_eq rfl) (AF.le_top _))
              · replace h := ite_f h hc
                refine k_skip ?_
                refine kB_normal ?_
                refine kC_normal ?_
                refine k_reg .free hmixP (by kernel_rfl) ?_
                refine G_q rfl (op_move (av := .exact (.int .i64 x10_l2)) rfl ?_)
                refine G_q rfl (op_move (av := .exact (.int .i64 a3)) rfl ?_)
                refine G_q rfl (op_add rfl rfl rfl ?_)
                refine G_q rfl (op_assign (av := .exact (.int .i64 (i64 (x10_l2 + a3)))) rfl ?_)
                refine G_nil ?_
                refine kI_normal ⟨_, _, o38, h, ?_⟩
                exact Sub.of_le (AF.le_put (AV.le_eq rfl) (AF.le_put (AV.le_eq rfl) (AF.le_put (AV.le_eq rfl) (AF.le_put (AV.le_eq rfl) (AF.le_put (AV.le_eq rfl) (AF.le_top _))))))
            · replace h := ite_f h hc
              refine k_exit ?_
              refine kC_exit ?_
              refine kI_exit ?_
              refine kB_exit ?_
              refine kI_normal ⟨_, o0_l2, h, ?_⟩
              exact Sub.of_le (AF.le_put (AV.le_eq rfl) (AF.le_put (AV.le_eq rfl) (AF.le_top _)))
        · refine k_seq ?_
          refine k_reg .free hmixP (by kernel_rfl) ?_
          refine G_q rfl (op_move (av := pA w0 0) rfl ?_)
          refine G_q rfl (op_move (av := .exact (.string (bs a1))) rfl ?_)
          obtain ⟨y39, hy39, h⟩ := bnd1_some h
          refine G_l rfl (op_fun_1_1_1 (m_disk_Sync_ok _ _ _ hy39) Try.func50 (by kernel_rfl) (LEs.cons (AV.le_eq rfl) (LEs.cons (AV.le_eq rfl) LEs.nil)) (fun o40 => ?_))
          refine G_q rfl (op_assign (av := .exact (.int .i64 y39.1)) rfl ?_)
          refine G_nil ?_
          refine kC_normal ?_
          refine k_ret ?_
          obtain rfl := Option.some.inj h
          refine kP_any (endN (af' := (AF.put AF0 (some 8) (.exact (.int .i64 y39.1)))) (σ' := [dskI w0 o40 y39.2]) _ rfl ?_ ⟨o40, rfl, rfl⟩)
          exact Sub.of_le (AF.le_put (AV.le_eq rfl) (AF.le_top _))
set_option maxHeartbeats 4000000 in
theorem m_frontier_read_ok {w0 : Nat} {w0o : List Nat} (a0 : Dk) (a1 : List UInt8) (r : (List (Int × Int)) × Int × Int × Dk) (h : m_frontier_read a0 a1 = some r) : Fun Try.prog 51 [(pA w0 0), (.exact (.string (bs a1)))] [dskI w0 w0o a0] (fun a s => ∃ zo0, a = .tup [.row 2 c_A2_int r.1, .exact (.int .i64 r.2.1), .exact (.int .i64 r.2.2.1)] ∧ s = [dskI w0 zo0 r.2.2.2]) := by
  unfold m_frontier_read at h
  refine fun_of_awp Try.func51 rfl Try.ntmps51 (by simp) rfl (res3 rfl) fun E hE => k_end ?_
  refine k_seq ?_
  refine k_reg .free hmixP (by kernel_rfl) ?_
  refine G_q rfl (op_assign (av := .exact (.slice none 0 0)) rfl ?_)
  refine G_q rfl (op_assign (av := .exact (.int .i64 0)) rfl ?_)
  refine G_q rfl (op_assign (av := .exact (.int .i64 0)) rfl ?_)
  refine G_nil ?_
  refine kC_normal ?_
  refine k_seq ?_
  refine k_reg .free hmixP (by kernel_rfl) ?_
  refine G_q rfl (op_move (av := pA w0 0) rfl ?_)
  refine G_q rfl (op_move (av := .exact (.string (bs a1))) rfl ?_)
  obtain ⟨y1, hy1, h⟩ := bnd1_some h
  refine G_l rfl (op_fun_1_1_1 (m_disk_Read_ok _ _ _ hy1) Try.func26 (by kernel_rfl) (LEs.cons (AV.le_eq rfl) (LEs.cons (AV.le_eq rfl) LEs.nil)) (fun o2 => ?_))
  refine G_q rfl (op_move (av := .tup [.row 1 c_uint8 y1.1, .exact (.int .i64 y1.2.1)]) rfl ?_)
  refine G_q rfl (op_extract (av := .row 1 c_uint8 y1.1) rfl rfl ?_)
  refine G_q rfl (op_extract (av := .exact (.int .i64 y1.2.1)) rfl rfl ?_)
  refine G_q rfl (op_assign (av := .row 1 c_uint8 y1.1) rfl ?_)
  refine G_q rfl (op_assign (av := .exact (.int .i64 y1.2.1)) rfl ?_)
  refine G_nil ?_
  refine kC_normal ?_
  refine k_seq ?_
  refine k_reg .free hmixP (by kernel_rfl) ?_
  refine G_q rfl (op_assign (av := .exact (.slice none 0 0)) rfl ?_)
  refine G_nil ?_
  refine kC_normal ?_
  refine k_seq ?_
  refine k_reg .free hmixP (by kernel_rfl) ?_
  refine G_q rfl (op_assign (av := .exact (.int .i64 0)) rfl ?_)
  refine G_nil ?_
  refine kC_normal ?_
  refine k_join3_1 h (fun (x8_j3 : Int) (x9_j3 : List (Int × Int)) (x10_j3 : Int) (v9_j3 : Value) => (AF.put (AF.put (AF.put (AF.put AF0 (some 0) (pA w0 0)) (some 8) (.exact (.int .i64 x8_j3))) (some 9) (.exact v9_j3)) (some 10) (.exact (.int .i64 x10_j3)))) (fun (x8_j3 : Int) (x9_j3 : List (Int × Int)) (x10_j3 : Int) (v9_j3 : Value) => [dskI w0 o2 y1.2.2, vecT Try.prog 23 2 c_A2_int v9_j3 x9_j3]) (fun k3 h => ?_) (fun x8_j3 x9_j3 x10_j3 v9_j3 h => ?_)
  · refine k_seq ?_
    refine k_reg .free hmixP (by kernel_rfl) ?_
    refine G_q rfl (op_assign (av := .exact (.int .i64 0)) rfl ?_)
    refine G_nil ?_
    refine kC_normal ?_
    refine k_block ?_
    refine k_loop4_1 (m_frontier_read_L2 y1 k3) (m_frontier_read_B2 y1 k3) (fun _ _ _ _ => rfl) (fun m _ _ _ _ => rfl) h (fun (x8_l2 : Int) (x9_l2 : List (Int × Int)) (x10_l2 : Int) (x11_l2 : Int) (v9_l2 : Value) => (AF.put (AF.put (AF.put (AF.put (AF.put (AF.put AF0 (some 0) (pA w0 0)) (some 7) (.row 1 c_uint8 y1.1)) (some 8) (.exact (.int .i64 x8_l2))) (some 9) (.exact v9_l2)) (some 10) (.exact (.int .i64 x10_l2))) (some 11) (.exact (.int .i64 x11_l2)))) (fun (x8_l2 : Int) (x9_l2 : List (Int × Int)) (x10_l2 : Int) (x11_l2 : Int) (v9_l2 : Value) => [dskI w0 o2 y1.2.2, vecT Try.prog 23 2 c_A2_int v9_l2 x9_l2]) (.slice none 0 0) ?_ (fun rec2 x8_l2 x9_l2 x10_l2 x11_l2 v9_l2 h => ?_)
    · refine Sub.trans (SubU.to (SubU.nilT (P := Try.prog) (t := 23) (n := 2) (enc := c_A2_int))) ?_
      refine Sub.trans (SubU.to SubU.f1) ?_
      exact Sub.of_le (AF.le_put (AV.le_eq rfl) (AF.le_put (AV.le_eq rfl) (AF.le_put (AV.le_eq rfl) (AF.le_put (AV.le_eq rfl) (AF.le_put (AV.le_eq rfl) (AF.le_put (AV.le_eq rfl) (AF.le_top _)))))))
    · unfold m_frontier_read_B2 at h
      refine k_seq ?_
      refine k_join1_0 h (fun (x26_j175 : Bool) => (AF.put (AF.put (AF.put (AF.put (AF.put (AF.put (AF.put AF0 (some 0) (pA w0 0)) (some 7) (.row 1 c_uint8 y1.1)) (some 8) (.exact (.int .i64 x8_l2))) (some 9) (.exact v9_l2)) (some 10) (.exact (.int .i64 x10_l2))) (some 11) (.exact (.int .i64 x11_l2))) (some 26) (.exact (.bool x26_j175)))) (fun (x26_j175 : Bool) => [dskI w0 o2 y1.2.2, vecT Try.prog 23 2 c_A2_int v9_l2 x9_l2]) (fun k175 h => ?_) (fun x26_j175 h => ?_)
      · refine k_reg .free hmixP (by kernel_rfl) ?_
        refine G_q rfl (op_move (av := .exact (.int .i64 x8_l2)) rfl ?_)
        refine G_q rfl (op_eql rfl rfl ?_)
        refine G_q rfl (op_move (av := .exact (.bool (decide (x8_l2 = 0)))) rfl ?_)
        refine G_split (p := x8_l2 = 0) 21 rfl (fun hc => ?_) (fun hc => ?_)
        · replace h := ite_t h hc
          refine Gy_q rfl rfl rfl (op_move (av := .exact (.int .i64 x11_l2)) rfl ?_)
          refine Gy_q rfl rfl rfl (op_move (av := .row 1 c_uint8 y1.1) rfl ?_)
          refine Gy_q rfl rfl rfl (op_len_row (by kernel_rfl) rfl ?_)
          refine Gy_q rfl rfl rfl (op_lss rfl rfl ?_)
          refine G_q rfl (op_pick_t rfl (av := .exact (.bool (decide (x11_l2 < (List.length y1.1 : Int))))) rfl ?_)
          refine G_nil ?_
          refine kI_normal ⟨_, h, ?_⟩
          exact Sub.of_le (AF.le_put (AV.le_eq rfl) (AF.le_put (AV.le_eq rfl) (AF.le_put (AV.le_eq rfl) (AF.le_put (AV.le_eq rfl) (AF.le_put (AV.le_eq rfl) (AF.le_put (AV.le_eq rfl) (AF.le_put (AV.le_eq rfl) (AF.le_top _))))))))
        · replace h := ite_f h hc
          refine G_n rfl rfl ?_
          refine G_n rfl rfl ?_
          refine G_n rfl rfl ?_
          refine G_n rfl rfl ?_
          refine G_q rfl (op_pick_f rfl (av := .exact (.bool false)) rfl ?_)
          refine G_nil ?_
          refine kI_normal ⟨_, h, ?_⟩
          exact Sub.of_le (AF.le_put (AV.le_eq rfl) (AF.le_put (AV.le_eq rfl) (AF.le_put (AV.le_eq rfl) (AF.le_put (AV.le_eq rfl) (AF.le_put (AV.le_eq rfl) (AF.le_put (AV.le_eq rfl) (AF.le_put (AV.le_eq rfl) (AF.le_top _))))))))
      · refine k_cond_b (c := x26_j175) rfl (fun hc => ?_) (fun hc => ?_)
        · replace h := ite_t h hc
          refine k_skip ?_
          refine kC_normal ?_
          refine k_seq ?_
          refine k_block ?_
          refine k_seq ?_
          refine k_reg .free hmixP (by kernel_rfl) ?_
          refine G_q rfl (op_assign (av := .exact (.slice none 0 0)) rfl ?_)
          refine G_nil ?_
          refine kC_normal ?_
          refine k_seq ?_
          refine k_reg .free hmixP (by kernel_rfl) ?_
          refine G_q rfl (op_move (av := .row 1 c_uint8 y1.1) rfl ?_)
          refine G_q rfl (op_move (av := .exact (.int .i64 x11_l2)) rfl ?_)
          obtain ⟨y195, hy195, h⟩ := bnd1_some h
          refine G_q rfl (op_pure (m_frontier_DecodeBlock_ok _ _ _ hy195) Try.func45 (by kernel_rfl) (LEs.cons (AV.le_eq rfl) (LEs.cons (AV.le_eq rfl) LEs.nil)) ?_)
          refine G_q rfl (op_move (av := .tup [.row 2 c_A2_int y195.1, .exact (.int .i64 y195.2.1), .exact (.int .i64 y195.2.2)]) rfl ?_)
          refine G_q rfl (op_extract (av := .row 2 c_A2_int y195.1) rfl rfl ?_)
          refine G_q rfl (op_extract (av := .exact (.int .i64 y195.2.1)) rfl rfl ?_)
          refine G_q rfl (op_extract (av := .exact (.int .i64 y195.2.2)) rfl rfl ?_)
          refine G_q rfl (op_assign (av := .row 2 c_A2_int y195.1) rfl ?_)
          refine G_q rfl (op_assign (av := .exact (.int .i64 y195.2.1)) rfl ?_)
          refine G_q rfl (op_assign (av := .exact (.int .i64 y195.2.2)) rfl ?_)
          refine G_nil ?_
          refine kC_normal ?_
          refine k_join1_0 h (fun (x8_j196 : Int) => (AF.put (AF.put (AF.put (AF.put (AF.put (AF.put (AF.put AF0 (some 0) (pA w0 0)) (some 7) (.row 1 c_uint8 y1.1)) (some 8) (.exact (.int .i64 x8_j196))) (some 9) (.exact v9_l2)) (some 10) (.exact (.int .i64 x10_l2))) (some 11) (.exact (.int .i64 y195.2.1))) (some 12) (.row 2 c_A2_int y195.1))) (fun (x8_j196 : Int) => [dskI w0 o2 y1.2.2, vecT Try.prog 23 2 c_A2_int v9_l2 x9_l2]) (fun k196 h => ?_) (fun x8_j196 h => ?_)
          · refine k_join1_0 h (fun (x55_j204 : Bool) => (AF.put (AF.put (AF.put (AF.put (AF.put (AF.put (AF.put (AF.put AF0 (some 0) (pA w0 0)) (some 7) (.row 1 c_uint8 y1.1)) (some 8) (.exact (.int .i64 y195.2.2))) (some 9) (.exact v9_l2)) (some 10) (.exact (.int .i64 x10_l2))) (some 11) (.exact (.int .i64 y195.2.1))) (some 12) (.row 2 c_A2_int y195.1)) (some 55) (.exact (.bool x55_j204)))) (fun (x55_j204 : Bool) => [dskI w0 o2 y1.2.2, vecT Try.prog 23 2 c_A2_int v9_l2 x9_l2]) (fun k204 h => ?_) (fun x55_j204 h => ?_)
            · refine k_plan [] [(0, 0), (0, 1), (0, 2), (0, 3), (1, 4), (0, 5), (0, 6), (0, 7), (0, 8), (0, 9), (0, 14), (0, 15), (0, 16), (1, 10), (0, 11), (1, 12), (1, 13), (0, 17), (0, 18), (0, 19)] hmixP (by kernel_rfl) ?_
              refine P_q no34_0 rfl (op_move (av := .exact (.int .i64 y195.2.2)) rfl ?_)
              refine P_q no34_0 rfl (op_eql rfl rfl ?_)
              refine P_q no34_0 rfl (op_move (av := .exact (.bool (decide (y195.2.2 = 0)))) rfl ?_)
              refine P_split (p := y195.2.2 = 0) 38 rfl (fun hc => ?_) (fun hc => ?_)
              · replace h := ite_t h hc
                refine Py_q no34_0 rfl rfl rfl (op_move (av := .exact v9_l2) rfl ?_)
                refine Py_r rfl rfl rfl (opR_f1 (op_len_vec (by kernel_rfl) rfl ?_))
                refine Py_q no34_0 rfl rfl rfl (op_gtr rfl rfl ?_)
                refine P_q no34_0 rfl (op_pick_t rfl (av := .exact (.bool (decide (0 < (List.length x9_l2 : Int))))) rfl ?_)
                refine P_q no34_0 rfl (op_move (av := .exact (.bool (decide (0 < (List.length x9_l2 : Int))))) rfl ?_)
                refine P_split (p := 0 < (List.length x9_l2 : Int)) 43 rfl (fun hc => ?_) (fun hc => ?_)
                · replace h := ite_t h hc
                  refine Py_q no34_0 rfl rfl rfl (op_move (av := .exact v9_l2) rfl ?_)
                  refine Py_q no34_0 rfl rfl rfl (op_move (av := .exact v9_l2) rfl ?_)
                  refine Py_q no34_0 rfl rfl rfl (op_move (av := .row 2 c_A2_int y195.1) rfl ?_)
                  obtain ⟨n208, h⟩ := need_some h
                  refine Py_q no34_0 rfl rfl rfl (op_index_row (by kernel_rfl) rfl rfl n208.1 n208.2 ?_)
                  refine Py_q no34_0 rfl rfl rfl (op_loadNp (m := 2) (c' := c_A2_int (gi y195.1 0)) (by kernel_rfl) rfl rfl rfl ?_)
                  refine Py_r rfl rfl rfl (opR_f1 (op_len_vec (by kernel_rfl) rfl ?_))
                  refine Py_q no34_0 rfl rfl rfl (op_sub rfl rfl rfl ?_)
                  obtain ⟨n209, h⟩ := need_some h
                  refine Py_r rfl rfl rfl (opR_f1 (op_index_vec (by kernel_rfl) rfl rfl n209.1 n209.2 ?_))
                  refine Py_r rfl rfl rfl (opR_f1 (op_load_vecN (i := i64 ((List.length x9_l2 : Int) - 1)) (o := 0) (m := 2) (c' := c_A2_int (gi x9_l2 (i64 ((List.length x9_l2 : Int) - 1)))) (by kernel_rfl) len_c_A2_int rfl n209.1 n209.2 rfl rfl ?_))
                  obtain ⟨y210, hy210, h⟩ := bnd1_some h
                  refine Py_q no34_0 rfl rfl rfl (op_pure (m_frontier_compare_ok _ _ _ hy210) Try.func61 (by kernel_rfl) (LEs.cons (AV.le_eq rfl) (LEs.cons (AV.le_eq rfl) LEs.nil)) ?_)
                  refine Py_q no34_0 rfl rfl rfl (op_geq rfl rfl ?_)
                  refine P_q no34_0 rfl (op_pick_t rfl (av := .exact (.bool (decide (0 ≤ y210)))) rfl ?_)
                  refine P_nil ?_
                  refine kI_normal ⟨_, h, ?_⟩
                  exact Sub.of_le (AF.le_put (AV.le_eq rfl) (AF.le_put (AV.le_eq rfl) (AF.le_put (AV.le_eq rfl) (AF.le_put (AV.le_eq rfl) (AF.le_put (AV.le_eq rfl) (AF.le_put (AV.le_eq rfl) (AF.le_put (AV.le_eq rfl) (AF.le_put (AV.le_eq rfl) (AF.le_top _)))))))))
                · replace h := ite_f h hc
                  refine P_n no34_0 rfl rfl rfl ?_
                  refine P_n no34_0 rfl rfl rfl ?_
                  refine P_n no34_0 rfl rfl rfl ?_
                  refine P_n no34_0 rfl rfl rfl ?_
                  refine P_n no34_0 rfl rfl rfl ?_
                  refine P_n no34_1 rfl rfl rfl ?_
                  refine P_n no34_0 rfl rfl rfl ?_
                  refine P_n no34_1 rfl rfl rfl ?_
                  refine P_n no34_1 rfl rfl rfl ?_
                  refine P_n no34_0 rfl rfl rfl ?_
                  refine P_n no34_0 rfl rfl rfl ?_
                  refine P_q no34_0 rfl (op_pick_f rfl (av := .exact (.bool false)) rfl ?_)
                  refine P_nil ?_
                  refine kI_normal ⟨_, h, ?_⟩
                  exact Sub.of_le (AF.le_put (AV.le_eq rfl) (AF.le_put (AV.le_eq rfl) (AF.le_put (AV.le_eq rfl) (AF.le_put (AV.le_eq rfl) (AF.le_put (AV.le_eq rfl) (AF.le_put (AV.le_eq rfl) (AF.le_put (AV.le_eq rfl) (AF.le_put (AV.le_eq rfl) (AF.le_top _)))))))))
              · replace h := ite_f h hc
                refine P_n no34_0 rfl rfl rfl ?_
                refine P_n no34_1 rfl rfl rfl ?_
                refine P_n no34_0 rfl rfl rfl ?_
                refine P_q no34_0 rfl (op_pick_f rfl (av := .exact (.bool false)) rfl ?_)
                refine P_q no34_0 rfl (op_move (av := .exact (.bool false)) rfl ?_)
                refine P_n no34_0 rfl rfl rfl ?_
                refine P_n no34_0 rfl rfl rfl ?_
                refine P_n no34_0 rfl rfl rfl ?_
                refine P_n no34_0 rfl rfl rfl ?_
                refine P_n no34_0 rfl rfl rfl ?_
                refine P_n no34_1 rfl rfl rfl ?_
                refine P_n no34_0 rfl rfl rfl ?_
                refine P_n no34_1 rfl rfl rfl ?_
                refine P_n no34_1 rfl rfl rfl ?_
                refine P_n no34_0 rfl rfl rfl ?_
                refine P_n no34_0 rfl rfl rfl ?_
                refine P_q no34_0 rfl (op_pick_f rfl (av := .exact (.bool false)) rfl ?_)
                refine P_nil ?_
                refine kI_normal ⟨_, h, ?_⟩
                exact Sub.of_le (AF.le_put (AV.le_eq rfl) (AF.le_put (AV.le_eq rfl) (AF.le_put (AV.le_eq rfl) (AF.le_put (AV.le_eq rfl) (AF.le_put (AV.le_eq rfl) (AF.le_put (AV.le_eq rfl) (AF.le_put (AV.le_eq rfl) (AF.le_put (AV.le_eq rfl) (AF.le_top _)))))))))
            · refine k_cond_b (c := x55_j204) rfl (fun hc => ?_) (fun hc => ?_)
              · replace h := ite_t h hc
                refine k_reg .free hmixP (by kernel_rfl) ?_
                refine G_q rfl (op_assign (av := .exact (.int .i64 22)) rfl ?_)
                refine G_nil ?_
                refine kI_normal ⟨_, h, ?_⟩
                exact Sub.of_le (AF.le_put (AV.le_eq rfl) (AF.le_put (AV.le_eq rfl) (AF.le_put (AV.le_eq rfl) (AF.le_put (AV.le_eq rfl) (AF.le_put (AV.le_eq rfl) (AF.le_put (AV.le_eq rfl) (AF.le_put (AV.le_eq rfl) (AF.le_top _))))))))
              · replace h := ite_f h hc
                refine k_skip ?_
                refine kI_normal ⟨_, h, ?_⟩
                exact Sub.of_le (AF.le_put (AV.le_eq rfl) (AF.le_put (AV.le_eq rfl) (AF.le_put (AV.le_eq rfl) (AF.le_put (AV.le_eq rfl) (AF.le_put (AV.le_eq rfl) (AF.le_put (AV.le_eq rfl) (AF.le_put (AV.le_eq rfl) (AF.le_top _))))))))
          · refine k_reg .free hmixP (by kernel_rfl) ?_
            refine G_q rfl (op_move (av := .exact v9_l2) rfl ?_)
            refine G_q rfl (op_move (av := .row 2 c_A2_int y195.1) rfl ?_)
            obtain ⟨n211, h⟩ := need_some h
            refine G_l rfl (opB_f1 (op_appT (by kernel_rfl) rfl rfl oc_c_A2_int n211 (fun v212 => ?_)))
            refine G_q rfl (op_assign (av := .exact v212) rfl ?_)
            refine G_nil ?_
            refine kB_normal ?_
            refine kC_normal ?_
            refine k_reg .free hmixP (by kernel_rfl) ?_
            refine G_q rfl (op_move (av := .exact (.int .i64 x10_l2)) rfl ?_)
            refine G_q rfl (op_add rfl rfl rfl ?_)
            refine G_q rfl (op_assign (av := .exact (.int .i64 (i64 (x10_l2 + 1)))) rfl ?_)
            refine G_nil ?_
            refine kI_normal ⟨_, _, _, _, v212, h, ?_⟩
            refine Sub.trans (SubU.to SubU.f1) ?_
            exact Sub.of_le (AF.le_put (AV.le_eq rfl) (AF.le_put (AV.le_eq rfl) (AF.le_put (AV.le_eq rfl) (AF.le_put (AV.le_eq rfl) (AF.le_put (AV.le_eq rfl) (AF.le_put (AV.le_eq rfl) (AF.le_top _)))))))
        · replace h := ite_f h hc
          refine k_exit ?_
          refine kC_exit ?_
          refine kI_exit ?_
          refine kB_exit ?_
          refine kI_normal ⟨_, _, _, v9_l2, h, ?_⟩
          exact Sub.of_le (AF.le_put (AV.le_eq rfl) (AF.le_put (AV.le_eq rfl) (AF.le_put (AV.le_eq rfl) (AF.le_put (AV.le_eq rfl) (AF.le_top _)))))
  · refine k_seq ?_
    refine k_seq ?_
    refine k_reg .free hmixP (by kernel_rfl) ?_
    refine G_q rfl (op_move (av := .exact (.int .i64 x8_j3)) rfl ?_)
    refine G_q rfl (op_neq rfl rfl ?_)
    refine G_nil ?_
    refine kC_normal ?_
    refine k_cond_d (p := ¬ x8_j3 = 0) rfl (fun hc => ?_) (fun hc => ?_)
    · replace h := ite_t h hc
      refine k_seq ?_
      refine k_reg .free hmixP (by kernel_rfl) ?_
      refine G_q rfl (op_move (av := .exact (.int .i64 x8_j3)) rfl ?_)
      refine G_q rfl (op_assign (av := .exact (.slice none 0 0)) rfl ?_)
      refine G_q rfl (op_assign (av := .exact (.int .i64 0)) rfl ?_)
      refine G_q rfl (op_assign (av := .exact (.int .i64 x8_j3)) rfl ?_)
      refine G_nil ?_
      refine kC_normal ?_
      refine k_ret ?_
      refine kC_ret ?_
      obtain rfl := Option.some.inj h
      refine kP_any (endN (af' := (AF.put (AF.put (AF.put AF0 (some 4) (.row 2 c_A2_int [])) (some 5) (.exact (.int .i64 0))) (some 6) (.exact (.int .i64 x8_j3)))) (σ' := [dskI w0 o2 y1.2.2]) _ rfl ?_ ⟨o2, rfl, rfl⟩)
      refine Sub.trans (SubU.to SubU.f1) ?_
      refine Sub.trans (SubU.to SubU.drop) ?_
      exact Sub.of_le (AF.le_put (AV.le_eq rfl) (AF.le_put (AV.le_eq rfl) (AF.le_put (row_nil (by decide)) (AF.le_top _))))
    · replace h := ite_f h hc
      refine k_skip ?_
      refine kC_normal ?_
      refine k_seq ?_
      refine k_reg .free hmixP (by kernel_rfl) ?_
      refine G_q rfl (op_move (av := .exact v9_j3) rfl ?_)
      refine G_q rfl (op_move (av := .exact (.int .i64 x10_j3)) rfl ?_)
      refine G_q rfl (op_assign (av := .exact v9_j3) rfl ?_)
      refine G_q rfl (op_assign (av := .exact (.int .i64 x10_j3)) rfl ?_)
      refine G_q rfl (op_assign (av := .exact (.int .i64 0)) rfl ?_)
      refine G_nil ?_
      refine kC_normal ?_
      refine k_ret ?_
      obtain rfl := Option.some.inj h
      refine kP_any (endN (af' := (AF.put (AF.put (AF.put AF0 (some 4) (.row 2 c_A2_int x9_j3)) (some 5) (.exact (.int .i64 x10_j3))) (some 6) (.exact (.int .i64 0)))) (σ' := [dskI w0 o2 y1.2.2]) _ rfl ?_ ⟨o2, rfl, rfl⟩)
      refine Sub.trans (SubU.to SubU.f1) ?_
      refine Sub.trans (SubU.to (SubU.freezeT (s := 4) rfl len_c_A2_int)) ?_
      exact Sub.of_le (AF.le_put (AV.le_eq rfl) (AF.le_put (AV.le_eq rfl) (AF.le_put (AV.le_eq rfl) (AF.le_top _))))
set_option maxHeartbeats 4000000 in
theorem m_frontier_Blocks_ok {w0 : Nat} {w0o : List Nat} (a0 : Dk) (a1 : List UInt8) (r : Int × Int × Dk) (h : m_frontier_Blocks a0 a1 = some r) : Fun Try.prog 24 [(pA w0 0), (.exact (.string (bs a1)))] [dskI w0 w0o a0] (fun a s => ∃ zo0, a = .tup [.exact (.int .i64 r.1), .exact (.int .i64 r.2.1)] ∧ s = [dskI w0 zo0 r.2.2]) := by
  unfold m_frontier_Blocks at h
  refine fun_of_awp Try.func24 rfl Try.ntmps24 (by simp) rfl (res2 rfl) fun E hE => k_end ?_
  refine k_seq ?_
  refine k_reg .free hmixP (by kernel_rfl) ?_
  refine G_q rfl (op_assign (av := .exact (.int .i64 0)) rfl ?_)
  refine G_q rfl (op_assign (av := .exact (.int .i64 0)) rfl ?_)
  refine G_nil ?_
  refine kC_normal ?_
  refine k_seq ?_
  refine k_reg .free hmixP (by kernel_rfl) ?_
  refine G_q rfl (op_move (av := pA w0 0) rfl ?_)
  refine G_q rfl (op_move (av := .exact (.string (bs a1))) rfl ?_)
  obtain ⟨y1, hy1, h⟩ := bnd1_some h
  refine G_l rfl (op_fun_1_1_1 (m_frontier_read_ok _ _ _ hy1) Try.func51 (by kernel_rfl) (LEs.cons (AV.le_eq rfl) (LEs.cons (AV.le_eq rfl) LEs.nil)) (fun o2 => ?_))
  refine G_q rfl (op_move (av := .tup [.row 2 c_A2_int y1.1, .exact (.int .i64 y1.2.1), .exact (.int .i64 y1.2.2.1)]) rfl ?_)
  refine G_q rfl (op_extract (av := .row 2 c_A2_int y1.1) rfl rfl ?_)
  refine G_q rfl (op_extract (av := .exact (.int .i64 y1.2.1)) rfl rfl ?_)
  refine G_q rfl (op_extract (av := .exact (.int .i64 y1.2.2.1)) rfl rfl ?_)
  refine G_q rfl (op_assign (av := .row 2 c_A2_int y1.1) rfl ?_)
  refine G_q rfl (op_assign (av := .exact (.int .i64 y1.2.1)) rfl ?_)
  refine G_q rfl (op_assign (av := .exact (.int .i64 y1.2.2.1)) rfl ?_)
  refine G_nil ?_
  refine kC_normal ?_
  refine k_seq ?_
  refine k_reg .free hmixP (by kernel_rfl) ?_
  refine G_q rfl (op_move (av := .exact (.int .i64 y1.2.1)) rfl ?_)
  refine G_q rfl (op_move (av := .exact (.int .i64 y1.2.2.1)) rfl ?_)
  refine G_q rfl (op_assign (av := .exact (.int .i64 y1.2.1)) rfl ?_)
  refine G_q rfl (op_assign (av := .exact (.int .i64 y1.2.2.1)) rfl ?_)
  refine G_nil ?_
  refine kC_normal ?_
  refine k_ret ?_
  obtain rfl := Option.some.inj h
  refine kP_any (endN (af' := (AF.put (AF.put AF0 (some 4) (.exact (.int .i64 y1.2.1))) (some 5) (.exact (.int .i64 y1.2.2.1)))) (σ' := [dskI w0 o2 y1.2.2.2]) _ rfl ?_ ⟨o2, rfl, rfl⟩)
  exact Sub.of_le (AF.le_put (AV.le_eq rfl) (AF.le_put (AV.le_eq rfl) (AF.le_top _)))
set_option maxHeartbeats 4000000 in
theorem m_law36_FrontierExamples_ok  (r : Bool) (h : m_law36_FrontierExamples = some r) : Pure Try.prog 8 [] (.exact (.bool r)) := by
  unfold m_law36_FrontierExamples at h
  refine Pure.ofFun (fun_of_awp Try.func8 rfl Try.ntmps8 (by simp) rfl (res1 rfl) fun E hE => k_end ?_)
  refine k_seq ?_
  refine k_reg .free hmixP (by kernel_rfl) ?_
  refine G_q rfl (op_assign (av := .exact (.bool false)) rfl ?_)
  refine G_nil ?_
  refine kC_normal ?_
  refine k_seq ?_
  refine k_reg .free hmixP (by kernel_rfl) ?_
  obtain ⟨y1, hy1, h⟩ := bnd1_some h
  refine G_l rfl (op_fun_0_2_1 (m_disk_New_ok _ _ hy1) Try.func21 (by kernel_rfl) (LEs.cons (AV.le_eq rfl) LEs.nil) (fun b2 b2o => ?_))
  refine G_q rfl (op_move (av := .tup [pA b2 0, .exact (.int .i64 y1.2)]) rfl ?_)
  refine G_q rfl (op_extract (av := pA b2 0) rfl rfl ?_)
  refine G_q rfl (op_extract (av := .exact (.int .i64 y1.2)) rfl rfl ?_)
  refine G_q rfl (op_assign (av := pA b2 0) rfl ?_)
  refine G_q rfl (op_assign (av := .exact (.int .i64 y1.2)) rfl ?_)
  refine G_nil ?_
  refine kC_normal ?_
  refine k_seq ?_
  refine k_reg .free hmixP (by kernel_rfl) ?_
  refine G_q rfl (op_move (av := pA b2 0) rfl ?_)
  refine G_q rfl (op_bld (c' := c_A2_int (0, 1)) (CellsAll.cons rfl CellsOf.int (CellsAll.cons rfl CellsOf.int CellsAll.nil)) rfl (LEs.cons (AV.le_eq rfl) (LEs.cons (AV.le_eq rfl) LEs.nil)) ?_)
  refine G_q rfl (op_bld (c' := c_A2_int (0, 2)) (CellsAll.cons rfl CellsOf.int (CellsAll.cons rfl CellsOf.int CellsAll.nil)) rfl (LEs.cons (AV.le_eq rfl) (LEs.cons (AV.le_eq rfl) LEs.nil)) ?_)
  refine G_q rfl (op_bld (c' := c_A2_int (1, 0)) (CellsAll.cons rfl CellsOf.int (CellsAll.cons rfl CellsOf.int CellsAll.nil)) rfl (LEs.cons (AV.le_eq rfl) (LEs.cons (AV.le_eq rfl) LEs.nil)) ?_)
  refine G_q rfl (op_bld (c' := c_A2_int (1, 1)) (CellsAll.cons rfl CellsOf.int (CellsAll.cons rfl CellsOf.int CellsAll.nil)) rfl (LEs.cons (AV.le_eq rfl) (LEs.cons (AV.le_eq rfl) LEs.nil)) ?_)
  refine G_q rfl (op_bld (c' := c_A2_int (7, 300)) (CellsAll.cons rfl CellsOf.int (CellsAll.cons rfl CellsOf.int CellsAll.nil)) rfl (LEs.cons (AV.le_eq rfl) (LEs.cons (AV.le_eq rfl) LEs.nil)) ?_)
  refine G_q rfl (op_litT (n := 2) (enc := c_A2_int) [(0, 1), (0, 2), (1, 0), (1, 1), (7, 300)] (CellsAll.cons rfl CellsOf.agg (CellsAll.cons rfl CellsOf.agg (CellsAll.cons rfl CellsOf.agg (CellsAll.cons rfl CellsOf.agg (CellsAll.cons rfl CellsOf.agg CellsAll.nil))))) rfl (by kernel_rfl) (LEss.cons (LEs.cons (AV.le_eq rfl) (LEs.cons (AV.le_eq rfl) LEs.nil)) (LEss.cons (LEs.cons (AV.le_eq rfl) (LEs.cons (AV.le_eq rfl) LEs.nil)) (LEss.cons (LEs.cons (AV.le_eq rfl) (LEs.cons (AV.le_eq rfl) LEs.nil)) (LEss.cons (LEs.cons (AV.le_eq rfl) (LEs.cons (AV.le_eq rfl) LEs.nil)) (LEss.cons (LEs.cons (AV.le_eq rfl) (LEs.cons (AV.le_eq rfl) LEs.nil)) LEss.nil))))) ?_)
  obtain ⟨y3, hy3, h⟩ := bnd1_some h
  refine G_l rfl (op_fun_1_1_1 (m_frontier_Write_ok _ _ _ _ _ hy3) Try.func22 (by kernel_rfl) (LEs.cons (AV.le_eq rfl) (LEs.cons (AV.le_eq rfl) (LEs.cons (AV.le_eq rfl) (LEs.cons (AV.le_eq rfl) LEs.nil)))) (fun o4 => ?_))
  refine G_q rfl (op_assign (av := .exact (.int .i64 y3.1)) rfl ?_)
  refine G_nil ?_
  refine kC_normal ?_
  refine k_seq ?_
  refine k_reg .free hmixP (by kernel_rfl) ?_
  refine G_q rfl (op_move (av := pA b2 0) rfl ?_)
  obtain ⟨y5, hy5, h⟩ := bnd1_some h
  refine G_l rfl (op_fun_1_1_1 (m_frontier_Blocks_ok _ _ _ hy5) Try.func24 (by kernel_rfl) (LEs.cons (AV.le_eq rfl) (LEs.cons (AV.le_eq rfl) LEs.nil)) (fun o6 => ?_))
  refine G_q rfl (op_move (av := .tup [.exact (.int .i64 y5.1), .exact (.int .i64 y5.2.1)]) rfl ?_)
  refine G_q rfl (op_extract (av := .exact (.int .i64 y5.1)) rfl rfl ?_)
  refine G_q rfl (op_extract (av := .exact (.int .i64 y5.2.1)) rfl rfl ?_)
  refine G_q rfl (op_assign (av := .exact (.int .i64 y5.1)) rfl ?_)
  refine G_q rfl (op_assign (av := .exact (.int .i64 y5.2.1)) rfl ?_)
  refine G_nil ?_
  refine kC_normal ?_
  refine k_join1_0 h (fun (x0_j7 : Bool) => (AF.put AF0 (some 0) (.exact (.bool x0_j7)))) (fun (x0_j7 : Bool) => []) (fun k7 h => ?_) (fun x0_j7 h => ?_)
  · refine k_reg .free hmixP (by kernel_rfl) ?_
    refine G_q rfl (op_move (av := .exact (.int .i64 y3.1)) rfl ?_)
    refine G_q rfl (op_eql rfl rfl ?_)
    refine G_q rfl (op_move (av := .exact (.bool (decide (y3.1 = 0)))) rfl ?_)
    refine G_split (p := y3.1 = 0) 25 rfl (fun hc => ?_) (fun hc => ?_)
    · replace h := ite_t h hc
      refine Gy_q rfl rfl rfl (op_move (av := .exact (.int .i64 y5.2.1)) rfl ?_)
      refine Gy_q rfl rfl rfl (op_eql rfl rfl ?_)
      refine G_q rfl (op_pick_t rfl (av := .exact (.bool (decide (y5.2.1 = 0)))) rfl ?_)
      refine G_q rfl (op_move (av := .exact (.bool (decide (y5.2.1 = 0)))) rfl ?_)
      refine G_split (p := y5.2.1 = 0) 29 rfl (fun hc => ?_) (fun hc => ?_)
      · replace h := ite_t h hc
        refine Gy_q rfl rfl rfl (op_move (av := .exact (.int .i64 y5.1)) rfl ?_)
        refine Gy_q rfl rfl rfl (op_eql rfl rfl ?_)
        refine G_q rfl (op_pick_t rfl (av := .exact (.bool (decide (y5.1 = 3)))) rfl ?_)
        refine G_q rfl (op_move (av := .exact (.bool (decide (y5.1 = 3)))) rfl ?_)
        refine G_split (p := y5.1 = 3) 33 rfl (fun hc => ?_) (fun hc => ?_)
        · replace h := ite_t h hc
          refine Gy_q rfl rfl rfl (op_move (av := pA b2 0) rfl ?_)
          obtain ⟨y13, hy13, h⟩ := bnd1_some h
          refine Gy_l rfl rfl rfl (op_fun_1_1_1 (m_disk_Writes_ok _ _ hy13) Try.func32 (by kernel_rfl) (LEs.cons (AV.le_eq rfl) LEs.nil) (fun o14 => ?_))
          refine Gy_q rfl rfl rfl (op_eql rfl rfl ?_)
          refine G_q rfl (op_pick_t rfl (av := .exact (.bool (decide (y13.1 = 4)))) rfl ?_)
          refine G_q rfl (op_move (av := .exact (.bool (decide (y13.1 = 4)))) rfl ?_)
          refine G_split (p := y13.1 = 4) 38 rfl (fun hc => ?_) (fun hc => ?_)
          · replace h := ite_t h hc
            refine Gy_q rfl rfl rfl (op_bld (c' := c_A2_int (2, 1)) (CellsAll.cons rfl CellsOf.int (CellsAll.cons rfl CellsOf.int CellsAll.nil)) rfl (LEs.cons (AV.le_eq rfl) (LEs.cons (AV.le_eq rfl) LEs.nil)) ?_)
            refine Gy_q rfl rfl rfl (op_bld (c' := c_A2_int (0, 5)) (CellsAll.cons rfl CellsOf.int (CellsAll.cons rfl CellsOf.int CellsAll.nil)) rfl (LEs.cons (AV.le_eq rfl) (LEs.cons (AV.le_eq rfl) LEs.nil)) ?_)
            refine Gy_q rfl rfl rfl (op_bld (c' := c_A2_int (2, 1)) (CellsAll.cons rfl CellsOf.int (CellsAll.cons rfl CellsOf.int CellsAll.nil)) rfl (LEs.cons (AV.le_eq rfl) (LEs.cons (AV.le_eq rfl) LEs.nil)) ?_)
            refine Gy_q rfl rfl rfl (op_litT (n := 2) (enc := c_A2_int) [(2, 1), (0, 5), (2, 1)] (CellsAll.cons rfl CellsOf.agg (CellsAll.cons rfl CellsOf.agg (CellsAll.cons rfl CellsOf.agg CellsAll.nil))) rfl (by kernel_rfl) (LEss.cons (LEs.cons (AV.le_eq rfl) (LEs.cons (AV.le_eq rfl) LEs.nil)) (LEss.cons (LEs.cons (AV.le_eq rfl) (LEs.cons (AV.le_eq rfl) LEs.nil)) (LEss.cons (LEs.cons (AV.le_eq rfl) (LEs.cons (AV.le_eq rfl) LEs.nil)) LEss.nil))) ?_)
            obtain ⟨y15, hy15, h⟩ := bnd1_some h
            refine Gy_q rfl rfl rfl (op_pure (m_frontier_Sorted_ok _ _ hy15) Try.func31 (by kernel_rfl) (LEs.cons (AV.le_eq rfl) LEs.nil) ?_)
            refine Gy_q rfl rfl rfl (op_bld (c' := c_A2_int (0, 5)) (CellsAll.cons rfl CellsOf.int (CellsAll.cons rfl CellsOf.int CellsAll.nil)) rfl (LEs.cons (AV.le_eq rfl) (LEs.cons (AV.le_eq rfl) LEs.nil)) ?_)
            refine Gy_q rfl rfl rfl (op_bld (c' := c_A2_int (2, 1)) (CellsAll.cons rfl CellsOf.int (CellsAll.cons rfl CellsOf.int CellsAll.nil)) rfl (LEs.cons (AV.le_eq rfl) (LEs.cons (AV.le_eq rfl) LEs.nil)) ?_)
            refine Gy_q rfl rfl rfl (op_litT (n := 2) (enc := c_A2_int) [(0, 5), (2, 1)] (CellsAll.cons rfl CellsOf.agg (CellsAll.cons rfl CellsOf.agg CellsAll.nil)) rfl (by kernel_rfl) (LEss.cons (LEs.cons (AV.le_eq rfl) (LEs.cons (AV.le_eq rfl) LEs.nil)) (LEss.cons (LEs.cons (AV.le_eq rfl) (LEs.cons (AV.le_eq rfl) LEs.nil)) LEss.nil)) ?_)
            obtain ⟨y16, hy16, h⟩ := bnd1_some h
            refine Gy_q rfl rfl rfl (op_pure (m_law36_same_ok _ _ _ hy16) Try.func25 (by kernel_rfl) (LEs.cons (AV.le_eq rfl) (LEs.cons (AV.le_eq rfl) LEs.nil)) ?_)
            refine G_q rfl (op_pick_t rfl (av := .exact (.bool y16)) rfl ?_)
            refine G_q rfl (op_move (av := .exact (.bool y16)) rfl ?_)
            refine G_splitB (c := y16) 49 rfl (fun hc => ?_) (fun hc => ?_)
            · replace h := ite_t h hc
              obtain ⟨y17, hy17, h⟩ := bnd1_some h
              refine Gy_q rfl rfl rfl (op_pure (m_law36_sane_ok _ hy17) Try.func15 (by kernel_rfl) LEs.nil ?_)
              refine G_q rfl (op_pick_t rfl (av := .exact (.bool y17)) rfl ?_)
              refine G_q rfl (op_assign (av := .exact (.bool y17)) rfl ?_)
              refine G_nil ?_
              refine kI_normal ⟨_, h, ?_⟩
              refine Sub.trans (SubU.to SubU.drop) ?_
              exact Sub.of_le (AF.le_put (AV.le_eq rfl) (AF.le_top _))
            · replace h := ite_f h hc
              refine G_n rfl rfl ?_
              refine G_q rfl (op_pick_f rfl (av := .exact (.bool false)) rfl ?_)
              refine G_q rfl (op_assign (av := .exact (.bool false)) rfl ?_)
              refine G_nil ?_
              refine kI_normal ⟨_, h, ?_⟩
              refine Sub.trans (SubU.to SubU.drop) ?_
              exact Sub.of_le (AF.le_put (AV.le_eq rfl) (AF.le_top _))
          · replace h := ite_f h hc
            refine G_n rfl rfl ?_
            refine G_n rfl rfl ?_
            refine G_n rfl rfl ?_
            refine G_n rfl rfl ?_
            refine G_n rfl rfl ?_
            refine G_n rfl rfl ?_
            refine G_n rfl rfl ?_
            refine G_n rfl rfl ?_
            refine G_n rfl rfl ?_
            refine G_q rfl (op_pick_f rfl (av := .exact (.bool false)) rfl ?_)
            refine G_q rfl (op_move (av := .exact (.bool false)) rfl ?_)
            refine G_n rfl rfl ?_
            refine G_q rfl (op_pick_f rfl (av := .exact (.bool false)) rfl ?_)
            refine G_q rfl (op_assign (av := .exact (.bool false)) rfl ?_)
            refine G_nil ?_
            refine kI_normal ⟨_, h, ?_⟩
            refine Sub.trans (SubU.to SubU.drop) ?_
            exact Sub.of_le (AF.le_put (AV.le_eq rfl) (AF.le_top _))
        · replace h := ite_f h hc
          refine G_n rfl rfl ?_
          refine G_n rfl rfl ?_
          refine G_n rfl rfl ?_
          refine G_q rfl (op_pick_f rfl (av := .exact (.bool false)) rfl ?_)
          refine G_q rfl (op_move (av := .exact (.bool false)) rfl ?_)
          refine G_n rfl rfl ?_
          refine G_n rfl rfl ?_
          refine G_n rfl rfl ?_
          refine G_n rfl rfl ?_
          refine G_n rfl rfl ?_
          refine G_n rfl rfl ?_
          refine G_n rfl rfl ?_
          refine G_n rfl rfl ?_
          refine G_n rfl rfl ?_
          refine G_q rfl (op_pick_f rfl (av := .exact (.bool false)) rfl ?_)
          refine G_q rfl (op_move (av := .exact (.bool false)) rfl ?_)
          refine G_n rfl rfl ?_
          refine G_q rfl (op_pick_f rfl (av := .exact (.bool false)) rfl ?_)
          refine G_q rfl (op_assign (av := .exact (.bool false)) rfl ?_)
          refine G_nil ?_
          refine kI_normal ⟨_, h, ?_⟩
          refine Sub.trans (SubU.to SubU.drop) ?_
          exact Sub.of_le (AF.le_put (AV.le_eq rfl) (AF.le_top _))
      · replace h := ite_f h hc
        refine G_n rfl rfl ?_
        refine G_n rfl rfl ?_
        refine G_q rfl (op_pick_f rfl (av := .exact (.bool false)) rfl ?_)
        refine G_q rfl (op_move (av := .exact (.bool false)) rfl ?_)
        refine G_n rfl rfl ?_
        refine G_n rfl rfl ?_
        refine G_n rfl rfl ?_
        refine G_q rfl (op_pick_f rfl (av := .exact (.bool false)) rfl ?_)
        refine G_q rfl (op_move (av := .exact (.bool false)) rfl ?_)
        refine G_n rfl rfl ?_
        refine G_n rfl rfl ?_
        refine G_n rfl rfl ?_
        refine G_n rfl rfl ?_
        refine G_n rfl rfl ?_
        refine G_n rfl rfl ?_
        refine G_n rfl rfl ?_
        refine G_n rfl rfl ?_
        refine G_n rfl rfl ?_
        refine G_q rfl (op_pick_f rfl (av := .exact (.bool false)) rfl ?_)
        refine G_q rfl (op_move (av := .exact (.bool false)) rfl ?_)
        refine G_n rfl rfl ?_
        refine G_q rfl (op_pick_f rfl (av := .exact (.bool false)) rfl ?_)
        refine G_q rfl (op_assign (av := .exact (.bool false)) rfl ?_)
        refine G_nil ?_
        refine kI_normal ⟨_, h, ?_⟩
        refine Sub.trans (SubU.to SubU.drop) ?_
        exact Sub.of_le (AF.le_put (AV.le_eq rfl) (AF.le_top _))
    · replace h := ite_f h hc
      refine G_n rfl rfl ?_
      refine G_n rfl rfl ?_
      refine G_q rfl (op_pick_f rfl (av := .exact (.bool false)) rfl ?_)
      refine G_q rfl (op_move (av := .exact (.bool false)) rfl ?_)
      refine G_n rfl rfl ?_
      refine G_n rfl rfl ?_
      refine G_q rfl (op_pick_f rfl (av := .exact (.bool false)) rfl ?_)
      refine G_q rfl (op_move (av := .exact (.bool false)) rfl ?_)
      refine G_n rfl rfl ?_
      refine G_n rfl rfl ?_
      refine G_n rfl rfl ?_
      refine G_q rfl (op_pick_f rfl (av := .exact (.bool false)) rfl ?_)
      refine G_q rfl (op_move (av := .exact (.bool false)) rfl ?_)
      refine G_n rfl rfl ?_
      refine G_n rfl rfl ?_
      refine G_n rfl rfl ?_
      refine G_n rfl rfl ?_
      refine G_n rfl rfl ?_
      refine G_n rfl rfl ?_
      refine G_n rfl rfl ?_
      refine G_n rfl rfl ?_
      refine G_n rfl rfl ?_
      refine G_q rfl (op_pick_f rfl (av := .exact (.bool false)) rfl ?_)
      refine G_q rfl (op_move (av := .exact (.bool false)) rfl ?_)
      refine G_n rfl rfl ?_
      refine G_q rfl (op_pick_f rfl (av := .exact (.bool false)) rfl ?_)
      refine G_q rfl (op_assign (av := .exact (.bool false)) rfl ?_)
      refine G_nil ?_
      refine kI_normal ⟨_, h, ?_⟩
      refine Sub.trans (SubU.to SubU.drop) ?_
      exact Sub.of_le (AF.le_put (AV.le_eq rfl) (AF.le_top _))
  · refine k_ret ?_
    obtain rfl := Option.some.inj h
    refine kP_any (endN (af' := (AF.put AF0 (some 0) (.exact (.bool x0_j7)))) (σ' := []) _ rfl ?_ ⟨rfl, rfl⟩)
    exact Sub.of_le (AF.le_put (AV.le_eq rfl) (AF.le_top _))
end Go.Proofs.Ytkplmgdmkfgjhaa
