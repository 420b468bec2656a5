/- Types and their cells, by program. -/
import Derived.Test.YtpfdeahcjlfijaaQA4
import Derived.Test.YtpfdeahcjlfijaaQA1
namespace Go.Proofs.Ytpfdeahcjlfijaa
open Go.RowKit
abbrev c_api_Code (x : Int × Int × Int) : List AV := [.exact (.int .i64 x.1), .exact (.int .i64 x.2.1), .exact (.int .i64 x.2.2)]
theorem len_c_api_Code (x : Int × Int × Int) : (c_api_Code x).length = 3 := rfl
theorem oc_c_api_Code (x : Int × Int × Int) : OneC (c_api_Code x) := (OneC.int (OneC.int (OneC.int OneC.nil)))
abbrev c_L_api_Code (x : List (Int × Int × Int)) : List AV := [.row 3 c_api_Code x]
theorem len_c_L_api_Code (x : List (Int × Int × Int)) : (c_L_api_Code x).length = 1 := rfl
theorem oc_c_L_api_Code (x : List (Int × Int × Int)) : OneC (c_L_api_Code x) := (OneC.row OneC.nil)
abbrev c_uint8 (x : UInt8) : List AV := [.exact (.int .u8 (UInt8.toNat x : Int))]
theorem len_c_uint8 (x : UInt8) : (c_uint8 x).length = 1 := rfl
theorem oc_c_uint8 (x : UInt8) : OneC (c_uint8 x) := (OneC.int OneC.nil)
abbrev c_api_Value (x : List UInt8) : List AV := [.exact (.string (bs x))]
theorem len_c_api_Value (x : List UInt8) : (c_api_Value x).length = 1 := rfl
theorem oc_c_api_Value (x : List UInt8) : OneC (c_api_Value x) := (OneC.str OneC.nil)
abbrev c_P_pattern_node (x : Nd) : List AV := [ndA x]
theorem len_c_P_pattern_node (x : Nd) : (c_P_pattern_node x).length = 1 := rfl
theorem oc_c_P_pattern_node (x : Nd) : OneC (c_P_pattern_node x) := (OneC.tree OneC.nil)
abbrev c_pattern_node (x : Int × Int × (List Nd)) : List AV := [.exact (.int .i64 x.1), .exact (.int .i64 x.2.1), .row 1 c_P_pattern_node x.2.2]
abbrev c_L_api_Value (x : List (List UInt8)) : List AV := [.row 1 c_api_Value x]
end Go.Proofs.Ytpfdeahcjlfijaa
/- The sorts' contracts, laid by program. -/
namespace Go.Proofs.Ytpfdeahcjlfijaa
open Go.RowKit Go.Sort
set_option maxRecDepth 100000
def lay0_ren : Go.Shelf.Ren := ⟨fun | 6 => 70 | 14 => 76 | 15 => 77 | 20 => 83 | 21 => 84 | 22 => 85 | 23 => 86 | 24 => 87 | 25 => 88 | 26 => 89 | 27 => 90 | 28 => 91 | 29 => 92 | 46 => 96 | 47 => 97 | 48 => 98 | 49 => 99 | 50 => 100 | 57 => 101 | n => n, fun | 0 => 0 | 3 => 3 | 4 => 4 | 5 => 5 | 9 => 9 | 22 => 25 | 24 => 26 | 25 => 92 | 39 => 50 | 45 => 101 | 46 => 102 | 50 => 106 | 53 => 109 | 55 => 49 | 66 => 113 | 70 => 117 | 76 => 119 | 77 => 120 | n => n, fun n => n⟩
theorem lay0 : Go.Proofs.SlLaysF.n6 Try.prog lay0_ren where
  mixed := by kernel_rfl
  f6 := ⟨Try.f70.name, by kernel_rfl, Try.func70.trans (congrArg some (by kernel_rfl))⟩
  f14 := ⟨Try.f76.name, by kernel_rfl, Try.func76.trans (congrArg some (by kernel_rfl))⟩
  f15 := Try.func77.trans (congrArg some (by kernel_rfl))
  f20 := ⟨Try.f83.name, by kernel_rfl, Try.func83.trans (congrArg some (by kernel_rfl))⟩
  f21 := ⟨Try.f84.name, by kernel_rfl, Try.func84.trans (congrArg some (by kernel_rfl))⟩
  f22 := ⟨Try.f85.name, by kernel_rfl, Try.func85.trans (congrArg some (by kernel_rfl))⟩
  f23 := ⟨Try.f86.name, by kernel_rfl, Try.func86.trans (congrArg some (by kernel_rfl))⟩
  f24 := ⟨Try.f87.name, by kernel_rfl, Try.func87.trans (congrArg some (by kernel_rfl))⟩
  f25 := ⟨Try.f88.name, by kernel_rfl, Try.func88.trans (congrArg some (by kernel_rfl))⟩
  f26 := ⟨Try.f89.name, by kernel_rfl, Try.func89.trans (congrArg some (by kernel_rfl))⟩
  f27 := ⟨Try.f90.name, by kernel_rfl, Try.func90.trans (congrArg some (by kernel_rfl))⟩
  f28 := Try.func91.trans (congrArg some (by kernel_rfl))
  f29 := Try.func92.trans (congrArg some (by kernel_rfl))
  f46 := ⟨Try.f96.name, by kernel_rfl, Try.func96.trans (congrArg some (by kernel_rfl))⟩
  f47 := Try.func97.trans (congrArg some (by kernel_rfl))
  f48 := Try.func98.trans (congrArg some (by kernel_rfl))
  f49 := ⟨Try.f99.name, by kernel_rfl, Try.func99.trans (congrArg some (by kernel_rfl))⟩
  f50 := ⟨Try.f100.name, by kernel_rfl, Try.func100.trans (congrArg some (by kernel_rfl))⟩
  f57 := ⟨Try.f101.name, by kernel_rfl, Try.func101.trans (congrArg some (by kernel_rfl))⟩
  t0 := Try.underlying0
  a0 := Try.isAgg0
  z0 := Try.sizeOf0
  v0 := Try.zeroValue0
  t3 := Try.underlying3
  a3 := Try.isAgg3
  z3 := Try.sizeOf3
  v3 := Try.zeroValue3
  t4 := Try.underlying4
  a4 := Try.isAgg4
  z4 := Try.sizeOf4
  v4 := Try.zeroValue4
  t5 := Try.underlying5
  a5 := Try.isAgg5
  z5 := Try.sizeOf5
  v5 := Try.zeroValue5
  t9 := Try.underlying9
  a9 := Try.isAgg9
  z9 := Try.sizeOf9
  v9 := Try.zeroValue9
  t22 := Try.underlying25
  a22 := Try.isAgg25
  z22 := Try.sizeOf25
  v22 := Try.zeroValue25
  a24 := Try.isAgg26
  z24 := Try.sizeOf26
  t25 := Try.underlying92
  a25 := Try.isAgg92
  z25 := Try.sizeOf92
  v25 := Try.zeroValue92
  t39 := Try.underlying50
  a39 := Try.isAgg50
  z39 := Try.sizeOf50
  v39 := Try.zeroValue50
  t45 := Try.underlying101
  a45 := Try.isAgg101
  z45 := Try.sizeOf101
  v45 := Try.zeroValue101
  t46 := Try.underlying102
  a46 := Try.isAgg102
  z46 := Try.sizeOf102
  v46 := Try.zeroValue102
  t50 := Try.underlying106
  a50 := Try.isAgg106
  z50 := Try.sizeOf106
  v50 := Try.zeroValue106
  t53 := Try.underlying109
  a53 := Try.isAgg109
  z53 := Try.sizeOf109
  v53 := Try.zeroValue109
  t55 := Try.underlying49
  a55 := Try.isAgg49
  z55 := Try.sizeOf49
  v55 := Try.zeroValue49
  t66 := Try.underlying113
  a66 := Try.isAgg113
  z66 := Try.sizeOf113
  v66 := Try.zeroValue113
  t70 := Try.underlying117
  a70 := Try.isAgg117
  z70 := Try.sizeOf117
  v70 := Try.zeroValue117
  t76 := Try.underlying119
  a76 := Try.isAgg119
  z76 := Try.sizeOf119
  v76 := Try.zeroValue119
  t77 := Try.underlying120
  a77 := Try.isAgg120
  z77 := Try.sizeOf120
  v77 := Try.zeroValue120
theorem m_sort_api_Value_ok (hc : ∀ (x y : List UInt8) (r : Int), m_value_Compare x y = some r → Pure Try.prog 71 [(.exact (.string (bs x))), (.exact (.string (bs y)))] (.exact (.int .i64 r))) {w0 : Value} (a0 r : List (List UInt8)) (h : m_sortby m_value_Compare a0 = some r) : Fun Try.prog 70 [.exact w0, .exact (.func (.func 71) #[] #[])] [vecT Try.prog 25 1 c_api_Value w0 a0] (fun a s => a = .tup [] ∧ s = [vecT Try.prog 25 1 c_api_Value w0 r]) :=
  m_sortby1_ok (e := fun x : List UInt8 => (.string (bs x))) lay0 { lay0 with } (fun _ => rfl) (fun _ => rfl) 71 (fun args w => by exact enters_of Try.func71 (by kernel_rfl) rfl args w) 25 hc a0 r h
end Go.Proofs.Ytpfdeahcjlfijaa
/- The functions compute their models, by program. -/
namespace Go.Proofs.Ytpfdeahcjlfijaa
open Go.RowKit
attribute [local irreducible] AV.exact AV.top AV.row AV.ptr AV.agg AV.tup AV.eptr AV.fn AV.nilq AV.nilqn opA opB opM opR Quiet Loud Reads wpG awp den Sub SubU Pure Fun vecI vecT boxI CellsAll CellsOf OneC LEs LEss
set_option maxRecDepth 100000

set_option maxHeartbeats 4000000 in
theorem m_law12_node_ok (a0 : Int) (a1 : Int) (a2 : List (List (Int × Int × Int))) (r : (List (Int × Int × Int))) (h : m_law12_node a0 a1 a2 = some r) : Pure Try.prog 4 [(.exact (.int .i64 a0)), (.exact (.int .i64 a1)), (.row 1 c_L_api_Code a2)] (.row 3 c_api_Code r) := by
  unfold m_law12_node at h
  refine Pure.ofFun (fun_of_awp Try.func4 rfl Try.ntmps4 (by simp) rfl (res1 rfl) fun E hE => k_end ?_)
  refine k_seq ?_
  refine k_reg .free hmixP (by kernel_rfl) ?_
  refine G_q rfl (op_assign (av := .exact (.slice none 0 0)) rfl ?_)
  refine G_nil ?_
  refine kC_normal ?_
  refine k_seq ?_
  refine k_reg .free hmixP (by kernel_rfl) ?_
  refine G_q rfl (op_move (av := .exact (.int .i64 a0)) rfl ?_)
  refine G_q rfl (op_move (av := .exact (.int .i64 a1)) rfl ?_)
  refine G_q rfl (op_move (av := .row 1 c_L_api_Code a2) rfl ?_)
  refine G_q rfl (op_len_row (by kernel_rfl) rfl ?_)
  refine G_q rfl (op_bld (c' := c_api_Code (a0, a1, (List.length a2 : Int))) (CellsAll.cons rfl CellsOf.int (CellsAll.cons rfl CellsOf.int (CellsAll.cons rfl CellsOf.int CellsAll.nil))) rfl (LEs.cons (AV.le_eq rfl) (LEs.cons (AV.le_eq rfl) (LEs.cons (AV.le_eq rfl) LEs.nil))) ?_)
  refine G_l rfl (op_litI (n := 3) (enc := c_api_Code) [(a0, a1, (List.length a2 : Int))] (by kernel_rfl) (CellsAll.cons rfl CellsOf.agg CellsAll.nil) rfl (by kernel_rfl) (LEss.cons (LEs.cons (AV.le_eq rfl) (LEs.cons (AV.le_eq rfl) (LEs.cons (AV.le_eq rfl) LEs.nil))) LEss.nil) (fun v1 => ?_))
  refine G_q rfl (op_assign (av := .exact v1) rfl ?_)
  refine G_nil ?_
  refine kC_normal ?_
  refine k_join1_1 h (fun (x7_j2 : List (Int × Int × Int)) (v7_j2 : Value) => (AF.put AF0 (some 7) (.exact v7_j2))) (fun (x7_j2 : List (Int × Int × Int)) (v7_j2 : Value) => [vecT Try.prog 23 3 c_api_Code v7_j2 x7_j2]) (fun k2 h => ?_) (fun x7_j2 v7_j2 h => ?_)
  · refine k_seq ?_
    refine k_reg .free hmixP (by kernel_rfl) ?_
    refine G_q rfl (op_assign (av := .exact (.int .i64 0)) rfl ?_)
    refine G_nil ?_
    refine kC_normal ?_
    refine k_block ?_
    refine k_loop2_1 (m_law12_node_L2 a2 k2) (m_law12_node_B2 a2 k2) (fun _ _ => rfl) (fun m _ _ => rfl) h (fun (x7_l2 : List (Int × Int × Int)) (x8_l2 : Int) (v7_l2 : Value) => (AF.put (AF.put (AF.put AF0 (some 2) (.row 1 c_L_api_Code a2)) (some 7) (.exact v7_l2)) (some 8) (.exact (.int .i64 x8_l2)))) (fun (x7_l2 : List (Int × Int × Int)) (x8_l2 : Int) (v7_l2 : Value) => [vecT Try.prog 23 3 c_api_Code v7_l2 x7_l2]) v1 ?_ (fun rec2 x7_l2 x8_l2 v7_l2 h => ?_)
    · exact Sub.of_le (AF.le_put (AV.le_eq rfl) (AF.le_put (AV.le_eq rfl) (AF.le_put (AV.le_eq rfl) (AF.le_top _))))
    · unfold m_law12_node_B2 at h
      refine k_seq ?_
      refine k_seq ?_
      refine k_reg .free hmixP (by kernel_rfl) ?_
      refine G_q rfl (op_move (av := .exact (.int .i64 x8_l2)) rfl ?_)
      refine G_q rfl (op_move (av := .row 1 c_L_api_Code a2) rfl ?_)
      refine G_q rfl (op_len_row (by kernel_rfl) rfl ?_)
      refine G_q rfl (op_lss rfl rfl ?_)
      refine G_nil ?_
      refine kC_normal ?_
      refine k_cond_d (p := x8_l2 < (List.length a2 : Int)) rfl (fun hc => ?_) (fun hc => ?_)
      · replace h := ite_t h hc
        refine k_skip ?_
        refine kC_normal ?_
        refine k_seq ?_
        refine k_block ?_
        refine k_reg .free hmixP (by kernel_rfl) ?_
        refine G_q rfl (op_move (av := .exact v7_l2) rfl ?_)
        refine G_q rfl (op_move (av := .row 1 c_L_api_Code a2) rfl ?_)
        refine G_q rfl (op_move (av := .exact (.int .i64 x8_l2)) rfl ?_)
        obtain ⟨n19, h⟩ := need_some h
        refine G_q rfl (op_index_row (by kernel_rfl) rfl rfl n19.1 n19.2 ?_)
        refine G_q rfl (op_load1p (a := .row 3 c_api_Code (gi a2 x8_l2)) (by kernel_rfl) rfl rfl ?_)
        obtain ⟨n20, h⟩ := need_some h
        refine G_l rfl (op_appT (by kernel_rfl) rfl rfl oc_c_api_Code n20 (fun v21 => ?_))
        refine G_q rfl (op_assign (av := .exact v21) rfl ?_)
        refine G_nil ?_
        refine kB_normal ?_
        refine kC_normal ?_
        refine k_reg .free hmixP (by kernel_rfl) ?_
        refine G_q rfl (op_move (av := .exact (.int .i64 x8_l2)) rfl ?_)
        refine G_q rfl (op_add rfl rfl rfl ?_)
        refine G_q rfl (op_assign (av := .exact (.int .i64 (i64 (x8_l2 + 1)))) rfl ?_)
        refine G_nil ?_
        refine kI_normal ⟨_, _, v21, h, ?_⟩
        exact Sub.of_le (AF.le_put (AV.le_eq rfl) (AF.le_put (AV.le_eq rfl) (AF.le_put (AV.le_eq rfl) (AF.le_top _))))
      · replace h := ite_f h hc
        refine k_exit ?_
        refine kC_exit ?_
        refine kI_exit ?_
        refine kB_exit ?_
        refine kI_normal ⟨_, v7_l2, h, ?_⟩
        exact Sub.of_le (AF.le_put (AV.le_eq rfl) (AF.le_top _))
  · refine k_seq ?_
    refine k_reg .free hmixP (by kernel_rfl) ?_
    refine G_q rfl (op_move (av := .exact v7_j2) rfl ?_)
    refine G_q rfl (op_assign (av := .exact v7_j2) rfl ?_)
    refine G_nil ?_
    refine kC_normal ?_
    refine k_ret ?_
    obtain rfl := Option.some.inj h
    refine kP_any (endN (af' := (AF.put AF0 (some 6) (.row 3 c_api_Code x7_j2))) (σ' := []) _ rfl ?_ ⟨rfl, rfl⟩)
    refine Sub.trans (SubU.to (SubU.freezeT (s := 6) rfl len_c_api_Code)) ?_
    exact Sub.of_le (AF.le_put (AV.le_eq rfl) (AF.le_top _))
set_option maxHeartbeats 4000000 in
theorem m_ref9_eight_ok (a0 : Int) (r : (List UInt8)) (h : m_ref9_eight a0 = some r) : Pure Try.prog 10 [(.exact (.int .i64 a0))] (.exact (.string (bs r))) := by
  unfold m_ref9_eight at h
  refine Pure.ofFun (fun_of_awp Try.func10 rfl Try.ntmps10 (by simp) rfl (res1 rfl) fun E hE => k_end ?_)
  refine k_seq ?_
  refine k_reg .free hmixP (by kernel_rfl) ?_
  refine G_q rfl (op_assign (av := .exact (.string (bs ([] : List UInt8)))) rfl ?_)
  refine G_nil ?_
  refine kC_normal ?_
  refine k_seq ?_
  refine k_reg .free hmixP (by kernel_rfl) ?_
  obtain ⟨n1, h⟩ := need_some h
  refine G_l rfl (op_make (enc := c_uint8) (zr := (0 : UInt8)) (by kernel_rfl) rfl rfl n1.1 n1.2 len_c_uint8 Try.zeroValue5 (fun _ _ => (Fit.ex Fit.nil0)) (fun v2 => ?_))
  refine G_q rfl (op_assign (av := .exact v2) rfl ?_)
  refine G_nil ?_
  refine kC_normal ?_
  refine k_join1_0 h (fun (x3_j3 : List UInt8) => (AF.put AF0 (some 3) (.exact v2))) (fun (x3_j3 : List UInt8) => [vecT Try.prog 36 1 c_uint8 v2 x3_j3]) (fun k3 h => ?_) (fun x3_j3 h => ?_)
  · refine k_seq ?_
    refine k_reg .free hmixP (by kernel_rfl) ?_
    refine G_q rfl (op_assign (av := .exact (.int .i64 0)) rfl ?_)
    refine G_nil ?_
    refine kC_normal ?_
    refine k_block ?_
    refine k_loop2_0 (m_ref9_eight_L2 a0 k3) (m_ref9_eight_B2 a0 k3) (fun _ _ => rfl) (fun m _ _ => rfl) h (fun (x3_l2 : List UInt8) (x4_l2 : Int) => (AF.put (AF.put (AF.put AF0 (some 0) (.exact (.int .i64 a0))) (some 3) (.exact v2)) (some 4) (.exact (.int .i64 x4_l2)))) (fun (x3_l2 : List UInt8) (x4_l2 : Int) => [vecT Try.prog 36 1 c_uint8 v2 x3_l2]) ?_ (fun rec2 x3_l2 x4_l2 h => ?_)
    · exact Sub.of_le (AF.le_put (AV.le_eq rfl) (AF.le_put (AV.le_eq rfl) (AF.le_put (AV.le_eq rfl) (AF.le_top _))))
    · unfold m_ref9_eight_B2 at h
      refine k_seq ?_
      refine k_seq ?_
      refine k_reg .free hmixP (by kernel_rfl) ?_
      refine G_q rfl (op_move (av := .exact (.int .i64 x4_l2)) rfl ?_)
      refine G_q rfl (op_lss rfl rfl ?_)
      refine G_nil ?_
      refine kC_normal ?_
      refine k_cond_d (p := x4_l2 < 8) rfl (fun hc => ?_) (fun hc => ?_)
      · replace h := ite_t h hc
        refine k_skip ?_
        refine kC_normal ?_
        refine k_seq ?_
        refine k_block ?_
        refine k_reg .free hmixP (by kernel_rfl) ?_
        refine G_q rfl (op_move (av := .exact v2) rfl ?_)
        refine G_q rfl (op_move (av := .exact (.int .i64 x4_l2)) rfl ?_)
        refine G_q rfl (op_sub rfl rfl rfl ?_)
        refine G_q rfl (op_move (av := .exact (.int .i64 a0)) rfl ?_)
        refine G_q rfl (op_convInt (k := .u64) (by kernel_rfl) rfl rfl ?_)
        refine G_q rfl (op_move (av := .exact (.int .i64 x4_l2)) rfl ?_)
        refine G_q rfl (op_mul rfl rfl rfl ?_)
        refine G_q rfl (op_convInt (k := .u64) (by kernel_rfl) rfl rfl ?_)
        obtain ⟨n15, h⟩ := need_some h
        refine G_q rfl (op_shr rfl rfl n15 rfl ?_)
        refine G_q rfl (op_convInt (k := .u8) (r := (UInt8.toNat (u8i (Int.fdiv (IntKind.u64.wrap (a0)) (2 ^ min (Int.toNat (IntKind.u64.wrap (i64 (8 * x4_l2)))) IntKind.u64.bits))) : Int)) (by kernel_rfl) rfl (u8i_eq _) ?_)
        obtain ⟨n16, h⟩ := need_some h
        refine G_r rfl (op_index_vec (by kernel_rfl) rfl rfl n16.1 n16.2 ?_)
        refine G_l rfl (op_store_vec (i := i64 (7 - x4_l2)) (o := 0) (z := u8i (Int.fdiv (IntKind.u64.wrap (a0)) (2 ^ min (Int.toNat (IntKind.u64.wrap (i64 (8 * x4_l2)))) IntKind.u64.bits))) (c' := [.exact (.int .u8 (UInt8.toNat (u8i (Int.fdiv (IntKind.u64.wrap (a0)) (2 ^ min (Int.toNat (IntKind.u64.wrap (i64 (8 * x4_l2)))) IntKind.u64.bits))) : Int))]) (by kernel_rfl) len_c_uint8 rfl n16.1 n16.2 rfl CellsOf.int (LEs.cons (AV.le_eq rfl) LEs.nil) (OneC.int OneC.nil) (by kernel_rfl) (Nat.le_of_ble_eq_true rfl) rfl ?_)
        refine G_nil ?_
        refine kB_normal ?_
        refine kC_normal ?_
        refine k_reg .free hmixP (by kernel_rfl) ?_
        refine G_q rfl (op_move (av := .exact (.int .i64 x4_l2)) rfl ?_)
        refine G_q rfl (op_add rfl rfl rfl ?_)
        refine G_q rfl (op_assign (av := .exact (.int .i64 (i64 (x4_l2 + 1)))) rfl ?_)
        refine G_nil ?_
        refine kI_normal ⟨_, _, h, ?_⟩
        exact Sub.of_le (AF.le_put (AV.le_eq rfl) (AF.le_put (AV.le_eq rfl) (AF.le_put (AV.le_eq rfl) (AF.le_top _))))
      · replace h := ite_f h hc
        refine k_exit ?_
        refine kC_exit ?_
        refine kI_exit ?_
        refine kB_exit ?_
        refine kI_normal ⟨_, h, ?_⟩
        exact Sub.of_le (AF.le_put (AV.le_eq rfl) (AF.le_top _))
  · refine k_seq ?_
    refine k_reg .free hmixP (by kernel_rfl) ?_
    refine G_q rfl (op_move (av := .exact v2) rfl ?_)
    refine G_r rfl (op_bytesS_bor rfl (by kernel_rfl) (Bor.vec (List.Mem.head _) len_c_uint8) ?_)
    refine G_q rfl (op_assign (av := .exact (.string (bs x3_j3))) rfl ?_)
    refine G_nil ?_
    refine kC_normal ?_
    refine k_ret ?_
    obtain rfl := Option.some.inj h
    refine kP_any (endN (af' := (AF.put AF0 (some 2) (.exact (.string (bs x3_j3))))) (σ' := []) _ rfl ?_ ⟨rfl, rfl⟩)
    refine Sub.trans (SubU.to SubU.drop) ?_
    exact Sub.of_le (AF.le_put (AV.le_eq rfl) (AF.le_top _))
set_option maxHeartbeats 4000000 in
theorem m_ref9_Int_ok (a0 : Int) (r : (List UInt8)) (h : m_ref9_Int a0 = some r) : Pure Try.prog 5 [(.exact (.int .i64 a0))] (.exact (.string (bs r))) := by
  unfold m_ref9_Int at h
  refine Pure.ofFun (fun_of_awp Try.func5 rfl Try.ntmps5 (by simp) rfl (res1 rfl) fun E hE => k_end ?_)
  refine k_seq ?_
  refine k_reg .free hmixP (by kernel_rfl) ?_
  refine G_q rfl (op_assign (av := .exact (.string (bs ([] : List UInt8)))) rfl ?_)
  refine G_nil ?_
  refine kC_normal ?_
  refine k_seq ?_
  refine k_plan [] [(0, 0), (0, 1), (0, 2), (0, 3), (0, 4), (0, 5)] hmixP (by kernel_rfl) ?_
  refine P_q no34_0 rfl (op_litT (n := 1) (enc := c_uint8) [1] (CellsAll.cons rfl CellsOf.int CellsAll.nil) rfl (by kernel_rfl) (LEss.cons (LEs.cons (AV.le_eq rfl) LEs.nil) LEss.nil) ?_)
  refine P_q no34_0 rfl (op_bytesS rfl (by kernel_rfl) rfl ?_)
  refine P_q no34_0 rfl (op_move (av := .exact (.int .i64 a0)) rfl ?_)
  obtain ⟨y1, hy1, h⟩ := bnd1_some h
  refine P_q no34_0 rfl (op_pure (m_ref9_eight_ok _ _ hy1) Try.func10 (by kernel_rfl) (LEs.cons (AV.le_eq rfl) LEs.nil) ?_)
  obtain ⟨n2, h⟩ := need_some h
  refine P_q no34_0 rfl (op_addS n2 rfl rfl ?_)
  refine P_q no34_0 rfl (op_assign (av := .exact (.string (bs ([1] ++ y1)))) rfl ?_)
  refine P_nil ?_
  refine kC_normal ?_
  refine k_ret ?_
  obtain rfl := Option.some.inj h
  refine kP_any (endN (af' := (AF.put AF0 (some 2) (.exact (.string (bs ([1] ++ y1)))))) (σ' := []) _ rfl ?_ ⟨rfl, rfl⟩)
  exact Sub.of_le (AF.le_put (AV.le_eq rfl) (AF.le_top _))
set_option maxHeartbeats 4000000 in
theorem m_ref9_ascending_ok (self_ref9_walk : (List UInt8) → Int → Bool → Option (Int × (List (List UInt8)) × Int)) (hself_ref9_walk : ∀ (a0 : List UInt8) (a1 : Int) (a2 : Bool) (r : Int × (List (List UInt8)) × Int), self_ref9_walk a0 a1 a2 = some r → Pure Try.prog 44 [(.exact (.string (bs a0))), (.exact (.int .i64 a1)), (.exact (.bool a2))] (.tup [.exact (.int .i64 r.1), .row 1 c_api_Value r.2.1, .exact (.int .i64 r.2.2)])) (self_ref9_order : (List UInt8) → (List UInt8) → Option Int) (hself_ref9_order : ∀ (a0 : List UInt8) (a1 : List UInt8) (r : Int), self_ref9_order a0 a1 = some r → Pure Try.prog 74 [(.exact (.string (bs a0))), (.exact (.string (bs a1)))] (.exact (.int .i64 r))) (a0 : List (List UInt8)) (a1 : Int) (r : Bool) (h : m_ref9_ascending self_ref9_walk self_ref9_order a0 a1 = some r) : Pure Try.prog 67 [(.row 1 c_api_Value a0), (.exact (.int .i64 a1))] (.exact (.bool r)) := by
  unfold m_ref9_ascending at h
  refine Pure.ofFun (fun_of_awp Try.func67 rfl Try.ntmps67 (by simp) rfl (res1 rfl) fun E hE => k_end ?_)
  refine k_seq ?_
  refine k_reg .free hmixP (by kernel_rfl) ?_
  refine G_q rfl (op_assign (av := .exact (.bool false)) rfl ?_)
  refine G_nil ?_
  refine kC_normal ?_
  refine k_join0_0 h (AF0) ([]) (fun k1 h => ?_) (fun  h => ?_)
  · refine k_seq ?_
    refine k_reg .free hmixP (by kernel_rfl) ?_
    refine G_q rfl (op_move (av := .exact (.int .i64 a1)) rfl ?_)
    refine G_q rfl (op_assign (av := .exact (.int .i64 a1)) rfl ?_)
    refine G_nil ?_
    refine kC_normal ?_
    refine k_block ?_
    refine k_loop1_0 (m_ref9_ascending_L2 self_ref9_order a0 a1 k1) (m_ref9_ascending_B2 self_ref9_order a0 a1 k1) (fun _ => rfl) (fun m _ => rfl) h (fun (x5_l2 : Int) => (AF.put (AF.put (AF.put AF0 (some 0) (.row 1 c_api_Value a0)) (some 1) (.exact (.int .i64 a1))) (some 5) (.exact (.int .i64 x5_l2)))) (fun (x5_l2 : Int) => []) ?_ (fun rec2 x5_l2 h => ?_)
    · exact Sub.of_le (AF.le_put (AV.le_eq rfl) (AF.le_put (AV.le_eq rfl) (AF.le_put (AV.le_eq rfl) (AF.le_top _))))
    · unfold m_ref9_ascending_B2 at h
      refine k_seq ?_
      refine k_seq ?_
      refine k_reg .free hmixP (by kernel_rfl) ?_
      refine G_q rfl (op_move (av := .exact (.int .i64 x5_l2)) rfl ?_)
      refine G_q rfl (op_move (av := .row 1 c_api_Value a0) rfl ?_)
      refine G_q rfl (op_len_row (by kernel_rfl) rfl ?_)
      refine G_q rfl (op_lss rfl rfl ?_)
      refine G_nil ?_
      refine kC_normal ?_
      refine k_cond_d (p := x5_l2 < (List.length a0 : Int)) rfl (fun hc => ?_) (fun hc => ?_)
      · replace h := ite_t h hc
        refine k_skip ?_
        refine kC_normal ?_
        refine k_seq ?_
        refine k_block ?_
        refine k_seq ?_
        refine k_plan [] [(0, 0), (0, 1), (0, 2), (0, 3), (0, 4), (0, 5), (0, 6), (0, 7), (0, 8), (0, 9), (0, 10), (0, 11)] hmixP (by kernel_rfl) ?_
        refine P_q no34_0 rfl (op_move (av := .row 1 c_api_Value a0) rfl ?_)
        refine P_q no34_0 rfl (op_move (av := .exact (.int .i64 x5_l2)) rfl ?_)
        refine P_q no34_0 rfl (op_move (av := .exact (.int .i64 a1)) rfl ?_)
        refine P_q no34_0 rfl (op_sub rfl rfl rfl ?_)
        obtain ⟨n18, h⟩ := need_some h
        refine P_q no34_0 rfl (op_index_row (by kernel_rfl) rfl rfl n18.1 n18.2 ?_)
        refine P_q no34_0 rfl (op_load1p (a := .exact (.string (bs (gi a0 (i64 (x5_l2 - a1)))))) (by kernel_rfl) rfl rfl ?_)
        refine P_q no34_0 rfl (op_move (av := .row 1 c_api_Value a0) rfl ?_)
        refine P_q no34_0 rfl (op_move (av := .exact (.int .i64 x5_l2)) rfl ?_)
        obtain ⟨n19, h⟩ := need_some h
        refine P_q no34_0 rfl (op_index_row (by kernel_rfl) rfl rfl n19.1 n19.2 ?_)
        refine P_q no34_0 rfl (op_load1p (a := .exact (.string (bs (gi a0 x5_l2)))) (by kernel_rfl) rfl rfl ?_)
        obtain ⟨y20, hy20, h⟩ := bnd1_some h
        refine P_q no34_0 rfl (op_pure (hself_ref9_order _ _ _ hy20) Try.func74 (by kernel_rfl) (LEs.cons (AV.le_eq rfl) (LEs.cons (AV.le_eq rfl) LEs.nil)) ?_)
        refine P_q no34_0 rfl (op_geq rfl rfl ?_)
        refine P_nil ?_
        refine kC_normal ?_
        refine k_cond_d (p := 0 ≤ y20) rfl (fun hc => ?_) (fun hc => ?_)
        · replace h := ite_t h hc
          refine k_seq ?_
          refine k_reg .free hmixP (by kernel_rfl) ?_
          refine G_q rfl (op_assign (av := .exact (.bool false)) rfl ?_)
          refine G_nil ?_
          refine kC_normal ?_
          refine k_ret ?_
          refine kB_ret ?_
          refine kC_ret ?_
          refine kI_ret ?_
          refine kB_ret ?_
          refine kI_ret ?_
          obtain rfl := Option.some.inj h
          refine kP_any (endN (af' := (AF.put AF0 (some 4) (.exact (.bool false)))) (σ' := []) _ rfl ?_ ⟨rfl, rfl⟩)
          exact Sub.of_le (AF.le_put (AV.le_eq rfl) (AF.le_top _))
        · replace h := ite_f h hc
          refine k_skip ?_
          refine kB_normal ?_
          refine kC_normal ?_
          refine k_reg .free hmixP (by kernel_rfl) ?_
          refine G_q rfl (op_move (av := .exact (.int .i64 x5_l2)) rfl ?_)
          refine G_q rfl (op_move (av := .exact (.int .i64 a1)) rfl ?_)
          refine G_q rfl (op_add rfl rfl rfl ?_)
          refine G_q rfl (op_assign (av := .exact (.int .i64 (i64 (x5_l2 + a1)))) rfl ?_)
          refine G_nil ?_
          refine kI_normal ⟨_, h, ?_⟩
          exact Sub.of_le (AF.le_put (AV.le_eq rfl) (AF.le_put (AV.le_eq rfl) (AF.le_put (AV.le_eq rfl) (AF.le_top _))))
      · replace h := ite_f h hc
        refine k_exit ?_
        refine kC_exit ?_
        refine kI_exit ?_
        refine kB_exit ?_
        refine kI_normal ⟨h, ?_⟩
        exact Sub.of_le (AF.le_top _)
  · refine k_seq ?_
    refine k_reg .free hmixP (by kernel_rfl) ?_
    refine G_q rfl (op_assign (av := .exact (.bool true)) rfl ?_)
    refine G_nil ?_
    refine kC_normal ?_
    refine k_ret ?_
    obtain rfl := Option.some.inj h
    refine kP_any (endN (af' := (AF.put AF0 (some 4) (.exact (.bool true)))) (σ' := []) _ rfl ?_ ⟨rfl, rfl⟩)
    exact Sub.of_le (AF.le_put (AV.le_eq rfl) (AF.le_top _))
set_option maxHeartbeats 4000000 in
theorem m_ref9_number_ok (a0 : List UInt8) (r : Int) (h : m_ref9_number a0 = some r) : Pure Try.prog 75 [(.exact (.string (bs a0)))] (.exact (.int .i64 r)) := by
  unfold m_ref9_number at h
  refine Pure.ofFun (fun_of_awp Try.func75 rfl Try.ntmps75 (by simp) rfl (res1 rfl) fun E hE => k_end ?_)
  refine k_seq ?_
  refine k_reg .free hmixP (by kernel_rfl) ?_
  refine G_q rfl (op_assign (av := .exact (.int .i64 0)) rfl ?_)
  refine G_nil ?_
  refine kC_normal ?_
  refine k_seq ?_
  refine k_reg .free hmixP (by kernel_rfl) ?_
  refine G_q rfl (op_assign (av := .exact (.int .u64 0)) rfl ?_)
  refine G_nil ?_
  refine kC_normal ?_
  refine k_join1_0 h (fun (x3_j1 : Int) => (AF.put AF0 (some 3) (.exact (.int .u64 x3_j1)))) (fun (x3_j1 : Int) => []) (fun k1 h => ?_) (fun x3_j1 h => ?_)
  · refine k_seq ?_
    refine k_reg .free hmixP (by kernel_rfl) ?_
    refine G_q rfl (op_assign (av := .exact (.int .i64 0)) rfl ?_)
    refine G_nil ?_
    refine kC_normal ?_
    refine k_block ?_
    refine k_loop2_0 (m_ref9_number_L2 a0 k1) (m_ref9_number_B2 a0 k1) (fun _ _ => rfl) (fun m _ _ => rfl) h (fun (x3_l2 : Int) (x4_l2 : Int) => (AF.put (AF.put (AF.put AF0 (some 0) (.exact (.string (bs a0)))) (some 3) (.exact (.int .u64 x3_l2))) (some 4) (.exact (.int .i64 x4_l2)))) (fun (x3_l2 : Int) (x4_l2 : Int) => []) ?_ (fun rec2 x3_l2 x4_l2 h => ?_)
    · exact Sub.of_le (AF.le_put (AV.le_eq rfl) (AF.le_put (AV.le_eq rfl) (AF.le_put (AV.le_eq rfl) (AF.le_top _))))
    · unfold m_ref9_number_B2 at h
      refine k_seq ?_
      refine k_seq ?_
      refine k_reg .free hmixP (by kernel_rfl) ?_
      refine G_q rfl (op_move (av := .exact (.int .i64 x4_l2)) rfl ?_)
      refine G_q rfl (op_lss rfl rfl ?_)
      refine G_nil ?_
      refine kC_normal ?_
      refine k_cond_d (p := x4_l2 < 8) rfl (fun hc => ?_) (fun hc => ?_)
      · replace h := ite_t h hc
        refine k_skip ?_
        refine kC_normal ?_
        refine k_seq ?_
        refine k_block ?_
        refine k_reg .free hmixP (by kernel_rfl) ?_
        refine G_q rfl (op_move (av := .exact (.int .u64 x3_l2)) rfl ?_)
        refine G_q rfl (op_shl rfl rfl (by decide) rfl ?_)
        refine G_q rfl (op_move (av := .exact (.string (bs a0))) rfl ?_)
        refine G_q rfl (op_move (av := .exact (.int .i64 x4_l2)) rfl ?_)
        obtain ⟨n8, h⟩ := need_some h
        refine G_q rfl (op_index_str (by kernel_rfl) rfl rfl n8.1 n8.2 ?_)
        refine G_q rfl (op_convInt (k := .u64) (r := (UInt8.toNat (gi a0 x4_l2) : Int)) (by kernel_rfl) rfl (wrap_u8 rfl _) ?_)
        refine G_q rfl (op_or rfl rfl rfl ?_)
        refine G_q rfl (op_assign (av := .exact (.int .u64 (bOr .u64 (IntKind.u64.wrap (x3_l2 * 2 ^ min (Int.toNat 8) IntKind.u64.bits)) (UInt8.toNat (gi a0 x4_l2) : Int)))) rfl ?_)
        refine G_nil ?_
        refine kB_normal ?_
        refine kC_normal ?_
        refine k_reg .free hmixP (by kernel_rfl) ?_
        refine G_q rfl (op_move (av := .exact (.int .i64 x4_l2)) rfl ?_)
        refine G_q rfl (op_add rfl rfl rfl ?_)
        refine G_q rfl (op_assign (av := .exact (.int .i64 (i64 (x4_l2 + 1)))) rfl ?_)
        refine G_nil ?_
        refine kI_normal ⟨_, _, h, ?_⟩
        exact Sub.of_le (AF.le_put (AV.le_eq rfl) (AF.le_put (AV.le_eq rfl) (AF.le_put (AV.le_eq rfl) (AF.le_top _))))
      · replace h := ite_f h hc
        refine k_exit ?_
        refine kC_exit ?_
        refine kI_exit ?_
        refine kB_exit ?_
        refine kI_normal ⟨_, h, ?_⟩
        exact Sub.of_le (AF.le_put (AV.le_eq rfl) (AF.le_top _))
  · refine k_seq ?_
    refine k_reg .free hmixP (by kernel_rfl) ?_
    refine G_q rfl (op_move (av := .exact (.int .u64 x3_j1)) rfl ?_)
    refine G_q rfl (op_convInt (k := .i64) (by kernel_rfl) rfl rfl ?_)
    refine G_q rfl (op_assign (av := .exact (.int .i64 (i64 (x3_j1)))) rfl ?_)
    refine G_nil ?_
    refine kC_normal ?_
    refine k_ret ?_
    obtain rfl := Option.some.inj h
    refine kP_any (endN (af' := (AF.put AF0 (some 2) (.exact (.int .i64 (i64 (x3_j1)))))) (σ' := []) _ rfl ?_ ⟨rfl, rfl⟩)
    exact Sub.of_le (AF.le_put (AV.le_eq rfl) (AF.le_top _))
set_option maxHeartbeats 4000000 in
theorem m_ref9_small_ok (a0 : List UInt8) (a1 : Int) (a2 : Int) (r : Bool) (h : m_ref9_small a0 a1 a2 = some r) : Pure Try.prog 68 [(.exact (.string (bs a0))), (.exact (.int .i64 a1)), (.exact (.int .i64 a2))] (.exact (.bool r)) := by
  unfold m_ref9_small at h
  refine Pure.ofFun (fun_of_awp Try.func68 rfl Try.ntmps68 (by simp) rfl (res1 rfl) fun E hE => k_end ?_)
  refine k_seq ?_
  refine k_reg .free hmixP (by kernel_rfl) ?_
  refine G_q rfl (op_assign (av := .exact (.bool false)) rfl ?_)
  refine G_nil ?_
  refine kC_normal ?_
  refine k_join1_0 h (fun (x6_j1 : Bool) => (AF.put AF0 (some 6) (.exact (.bool x6_j1)))) (fun (x6_j1 : Bool) => []) (fun k1 h => ?_) (fun x6_j1 h => ?_)
  · refine k_reg .free hmixP (by kernel_rfl) ?_
    refine G_q rfl (op_move (av := .exact (.string (bs a0))) rfl ?_)
    obtain ⟨n7, h⟩ := need_some h
    refine G_q rfl (op_index_str (by kernel_rfl) rfl rfl n7.1 n7.2 ?_)
    refine G_q rfl (op_convInt (k := .i64) (r := (UInt8.toNat (gi a0 0) : Int)) (by kernel_rfl) rfl (wrap_u8 rfl _) ?_)
    refine G_q rfl (op_eql rfl rfl ?_)
    refine G_q rfl (op_move (av := .exact (.bool (decide ((UInt8.toNat (gi a0 0) : Int) = 1)))) rfl ?_)
    refine G_split (p := (UInt8.toNat (gi a0 0) : Int) = 1) 11 rfl (fun hc => ?_) (fun hc => ?_)
    · replace h := ite_t h hc
      refine Gy_q rfl rfl rfl (op_move (av := .exact (.string (bs a0))) rfl ?_)
      obtain ⟨n8, h⟩ := need_some h
      refine Gy_q rfl rfl rfl (op_slice_strd (by kernel_rfl) rfl (bnd_some rfl) bnd_none (by decide) n8 (Int.le_refl _) ?_)
      obtain ⟨y9, hy9, h⟩ := bnd1_some h
      refine Gy_q rfl rfl rfl (op_pure (m_ref9_number_ok _ _ hy9) Try.func75 (by kernel_rfl) (LEs.cons (AV.le_eq rfl) LEs.nil) ?_)
      refine Gy_q rfl rfl rfl (op_move (av := .exact (.int .i64 a1)) rfl ?_)
      refine Gy_q rfl rfl rfl (op_geq rfl rfl ?_)
      refine G_q rfl (op_pick_t rfl (av := .exact (.bool (decide (a1 ≤ y9)))) rfl ?_)
      refine G_q rfl (op_move (av := .exact (.bool (decide (a1 ≤ y9)))) rfl ?_)
      refine G_split (p := a1 ≤ y9) 18 rfl (fun hc => ?_) (fun hc => ?_)
      · replace h := ite_t h hc
        refine Gy_q rfl rfl rfl (op_move (av := .exact (.string (bs a0))) rfl ?_)
        obtain ⟨n10, h⟩ := need_some h
        refine Gy_q rfl rfl rfl (op_slice_strd (by kernel_rfl) rfl (bnd_some rfl) bnd_none (by decide) n10 (Int.le_refl _) ?_)
        obtain ⟨y11, hy11, h⟩ := bnd1_some h
        refine Gy_q rfl rfl rfl (op_pure (m_ref9_number_ok _ _ hy11) Try.func75 (by kernel_rfl) (LEs.cons (AV.le_eq rfl) LEs.nil) ?_)
        refine Gy_q rfl rfl rfl (op_move (av := .exact (.int .i64 a2)) rfl ?_)
        refine Gy_q rfl rfl rfl (op_leq rfl rfl ?_)
        refine G_q rfl (op_pick_t rfl (av := .exact (.bool (decide (y11 ≤ a2)))) rfl ?_)
        refine G_q rfl (op_assign (av := .exact (.bool (decide (y11 ≤ a2)))) rfl ?_)
        refine G_nil ?_
        refine kI_normal ⟨_, h, ?_⟩
        exact Sub.of_le (AF.le_put (AV.le_eq rfl) (AF.le_top _))
      · replace h := ite_f h hc
        refine G_n rfl rfl ?_
        refine G_n rfl rfl ?_
        refine G_n rfl rfl ?_
        refine G_n rfl rfl ?_
        refine G_n rfl rfl ?_
        refine G_q rfl (op_pick_f rfl (av := .exact (.bool false)) rfl ?_)
        refine G_q rfl (op_assign (av := .exact (.bool false)) rfl ?_)
        refine G_nil ?_
        refine kI_normal ⟨_, h, ?_⟩
        exact Sub.of_le (AF.le_put (AV.le_eq rfl) (AF.le_top _))
    · replace h := ite_f h hc
      refine G_n rfl rfl ?_
      refine G_n rfl rfl ?_
      refine G_n rfl rfl ?_
      refine G_n rfl rfl ?_
      refine G_n rfl rfl ?_
      refine G_q rfl (op_pick_f rfl (av := .exact (.bool false)) rfl ?_)
      refine G_q rfl (op_move (av := .exact (.bool false)) rfl ?_)
      refine G_n rfl rfl ?_
      refine G_n rfl rfl ?_
      refine G_n rfl rfl ?_
      refine G_n rfl rfl ?_
      refine G_n rfl rfl ?_
      refine G_q rfl (op_pick_f rfl (av := .exact (.bool false)) rfl ?_)
      refine G_q rfl (op_assign (av := .exact (.bool false)) rfl ?_)
      refine G_nil ?_
      refine kI_normal ⟨_, h, ?_⟩
      exact Sub.of_le (AF.le_put (AV.le_eq rfl) (AF.le_top _))
  · refine k_ret ?_
    obtain rfl := Option.some.inj h
    refine kP_any (endN (af' := (AF.put AF0 (some 6) (.exact (.bool x6_j1)))) (σ' := []) _ rfl ?_ ⟨rfl, rfl⟩)
    exact Sub.of_le (AF.le_put (AV.le_eq rfl) (AF.le_top _))
set_option maxHeartbeats 4000000 in
theorem m_ref9_parted_ok (self_ref9_walk : (List UInt8) → Int → Bool → Option (Int × (List (List UInt8)) × Int)) (hself_ref9_walk : ∀ (a0 : List UInt8) (a1 : Int) (a2 : Bool) (r : Int × (List (List UInt8)) × Int), self_ref9_walk a0 a1 a2 = some r → Pure Try.prog 44 [(.exact (.string (bs a0))), (.exact (.int .i64 a1)), (.exact (.bool a2))] (.tup [.exact (.int .i64 r.1), .row 1 c_api_Value r.2.1, .exact (.int .i64 r.2.2)])) (self_ref9_order : (List UInt8) → (List UInt8) → Option Int) (hself_ref9_order : ∀ (a0 : List UInt8) (a1 : List UInt8) (r : Int), self_ref9_order a0 a1 = some r → Pure Try.prog 74 [(.exact (.string (bs a0))), (.exact (.string (bs a1)))] (.exact (.int .i64 r))) (a0 : Int) (a1 : List (List UInt8)) (r : Bool) (h : m_ref9_parted self_ref9_walk self_ref9_order a0 a1 = some r) : Pure Try.prog 59 [(.exact (.int .i64 a0)), (.row 1 c_api_Value a1)] (.exact (.bool r)) := by
  unfold m_ref9_parted at h
  refine Pure.ofFun (fun_of_awp Try.func59 rfl Try.ntmps59 (by simp) rfl (res1 rfl) fun E hE => k_end ?_)
  refine k_seq ?_
  refine k_reg .free hmixP (by kernel_rfl) ?_
  refine G_q rfl (op_assign (av := .exact (.bool false)) rfl ?_)
  refine G_nil ?_
  refine kC_normal ?_
  refine k_seq ?_
  refine k_seq ?_
  refine k_reg .free hmixP (by kernel_rfl) ?_
  refine G_q rfl (op_move (av := .exact (.int .i64 a0)) rfl ?_)
  refine G_nil ?_
  refine kC_normal ?_
  refine k_block ?_
  refine k_seq ?_
  refine k_reg .free hmixP (by kernel_rfl) ?_
  refine G_q rfl (op_eql rfl rfl ?_)
  refine G_q rfl (op_assign (av := .exact (.bool (decide (a0 = 3)))) rfl ?_)
  refine G_nil ?_
  refine kC_normal ?_
  refine k_cond_d (p := a0 = 3) rfl (fun hc => ?_) (fun hc => ?_)
  · replace h := ite_t h hc
    refine k_join1_0 h (fun (x4_j1 : Bool) => (AF.put AF0 (some 4) (.exact (.bool x4_j1)))) (fun (x4_j1 : Bool) => []) (fun k1 h => ?_) (fun x4_j1 h => ?_)
    · refine k_reg .free hmixP (by kernel_rfl) ?_
      refine G_q rfl (op_move (av := .row 1 c_api_Value a1) rfl ?_)
      refine G_q rfl (op_len_row (by kernel_rfl) rfl ?_)
      refine G_q rfl (op_geq rfl rfl ?_)
      refine G_q rfl (op_move (av := .exact (.bool (decide (2 ≤ (List.length a1 : Int))))) rfl ?_)
      refine G_split (p := 2 ≤ (List.length a1 : Int)) 11 rfl (fun hc => ?_) (fun hc => ?_)
      · replace h := ite_t h hc
        refine Gy_q rfl rfl rfl (op_move (av := .row 1 c_api_Value a1) rfl ?_)
        refine Gy_q rfl rfl rfl (op_len_row (by kernel_rfl) rfl ?_)
        refine Gy_q rfl rfl rfl (op_leq rfl rfl ?_)
        refine G_q rfl (op_pick_t rfl (av := .exact (.bool (decide ((List.length a1 : Int) ≤ 8)))) rfl ?_)
        refine G_q rfl (op_assign (av := .exact (.bool (decide ((List.length a1 : Int) ≤ 8)))) rfl ?_)
        refine G_nil ?_
        refine kI_normal ⟨_, h, ?_⟩
        exact Sub.of_le (AF.le_put (AV.le_eq rfl) (AF.le_top _))
      · replace h := ite_f h hc
        refine G_n rfl rfl ?_
        refine G_n rfl rfl ?_
        refine G_n rfl rfl ?_
        refine G_q rfl (op_pick_f rfl (av := .exact (.bool false)) rfl ?_)
        refine G_q rfl (op_assign (av := .exact (.bool false)) rfl ?_)
        refine G_nil ?_
        refine kI_normal ⟨_, h, ?_⟩
        exact Sub.of_le (AF.le_put (AV.le_eq rfl) (AF.le_top _))
    · refine k_ret ?_
      refine kB_ret ?_
      refine kC_ret ?_
      obtain rfl := Option.some.inj h
      refine kP_any (endN (af' := (AF.put AF0 (some 4) (.exact (.bool x4_j1)))) (σ' := []) _ rfl ?_ ⟨rfl, rfl⟩)
      exact Sub.of_le (AF.le_put (AV.le_eq rfl) (AF.le_top _))
  · replace h := ite_f h hc
    refine k_seq ?_
    refine k_reg .free hmixP (by kernel_rfl) ?_
    refine G_q rfl (op_eql rfl rfl ?_)
    refine G_q rfl (op_assign (av := .exact (.bool (decide (a0 = 5)))) rfl ?_)
    refine G_nil ?_
    refine kC_normal ?_
    refine k_cond_d (p := a0 = 5) rfl (fun hc => ?_) (fun hc => ?_)
    · replace h := ite_t h hc
      refine k_seq ?_
      refine k_reg .free hmixP (by kernel_rfl) ?_
      refine G_q rfl (op_move (av := .row 1 c_api_Value a1) rfl ?_)
      obtain ⟨y2, hy2, h⟩ := bnd1_some h
      refine G_q rfl (op_pure (m_ref9_ascending_ok self_ref9_walk hself_ref9_walk self_ref9_order hself_ref9_order _ _ _ hy2) Try.func67 (by kernel_rfl) (LEs.cons (AV.le_eq rfl) (LEs.cons (AV.le_eq rfl) LEs.nil)) ?_)
      refine G_q rfl (op_assign (av := .exact (.bool y2)) rfl ?_)
      refine G_nil ?_
      refine kC_normal ?_
      refine k_ret ?_
      refine kB_ret ?_
      refine kC_ret ?_
      obtain rfl := Option.some.inj h
      refine kP_any (endN (af' := (AF.put AF0 (some 4) (.exact (.bool y2)))) (σ' := []) _ rfl ?_ ⟨rfl, rfl⟩)
      exact Sub.of_le (AF.le_put (AV.le_eq rfl) (AF.le_top _))
    · replace h := ite_f h hc
      refine k_seq ?_
      refine k_reg .free hmixP (by kernel_rfl) ?_
      refine G_q rfl (op_eql rfl rfl ?_)
      refine G_q rfl (op_assign (av := .exact (.bool (decide (a0 = 6)))) rfl ?_)
      refine G_nil ?_
      refine kC_normal ?_
      refine k_cond_d (p := a0 = 6) rfl (fun hc => ?_) (fun hc => ?_)
      · replace h := ite_t h hc
        refine k_join1_0 h (fun (x4_j3 : Bool) => (AF.put AF0 (some 4) (.exact (.bool x4_j3)))) (fun (x4_j3 : Bool) => []) (fun k3 h => ?_) (fun x4_j3 h => ?_)
        · refine k_reg .free hmixP (by kernel_rfl) ?_
          refine G_q rfl (op_move (av := .row 1 c_api_Value a1) rfl ?_)
          refine G_q rfl (op_len_row (by kernel_rfl) rfl ?_)
          refine G_q rfl (op_rem rfl rfl (by decide) rfl ?_)
          refine G_q rfl (op_eql rfl rfl ?_)
          refine G_q rfl (op_move (av := .exact (.bool (decide ((Int.tmod (List.length a1 : Int) 2) = 0)))) rfl ?_)
          refine G_split (p := (Int.tmod (List.length a1 : Int) 2) = 0) 26 rfl (fun hc => ?_) (fun hc => ?_)
          · replace h := ite_t h hc
            refine Gy_q rfl rfl rfl (op_move (av := .row 1 c_api_Value a1) rfl ?_)
            obtain ⟨y5, hy5, h⟩ := bnd1_some h
            refine Gy_q rfl rfl rfl (op_pure (m_ref9_ascending_ok self_ref9_walk hself_ref9_walk self_ref9_order hself_ref9_order _ _ _ hy5) Try.func67 (by kernel_rfl) (LEs.cons (AV.le_eq rfl) (LEs.cons (AV.le_eq rfl) LEs.nil)) ?_)
            refine G_q rfl (op_pick_t rfl (av := .exact (.bool y5)) rfl ?_)
            refine G_q rfl (op_assign (av := .exact (.bool y5)) rfl ?_)
            refine G_nil ?_
            refine kI_normal ⟨_, h, ?_⟩
            exact Sub.of_le (AF.le_put (AV.le_eq rfl) (AF.le_top _))
          · replace h := ite_f h hc
            refine G_n rfl rfl ?_
            refine G_n rfl rfl ?_
            refine G_q rfl (op_pick_f rfl (av := .exact (.bool false)) rfl ?_)
            refine G_q rfl (op_assign (av := .exact (.bool false)) rfl ?_)
            refine G_nil ?_
            refine kI_normal ⟨_, h, ?_⟩
            exact Sub.of_le (AF.le_put (AV.le_eq rfl) (AF.le_top _))
        · refine k_ret ?_
          refine kB_ret ?_
          refine kC_ret ?_
          obtain rfl := Option.some.inj h
          refine kP_any (endN (af' := (AF.put AF0 (some 4) (.exact (.bool x4_j3)))) (σ' := []) _ rfl ?_ ⟨rfl, rfl⟩)
          exact Sub.of_le (AF.le_put (AV.le_eq rfl) (AF.le_top _))
      · replace h := ite_f h hc
        refine k_seq ?_
        refine k_reg .free hmixP (by kernel_rfl) ?_
        refine G_q rfl (op_eql rfl rfl ?_)
        refine G_q rfl (op_assign (av := .exact (.bool (decide (a0 = 7)))) rfl ?_)
        refine G_nil ?_
        refine kC_normal ?_
        refine k_cond_d (p := a0 = 7) rfl (fun hc => ?_) (fun hc => ?_)
        · replace h := ite_t h hc
          refine k_join1_0 h (fun (x4_j6 : Bool) => (AF.put AF0 (some 4) (.exact (.bool x4_j6)))) (fun (x4_j6 : Bool) => []) (fun k6 h => ?_) (fun x4_j6 h => ?_)
          · refine k_reg .free hmixP (by kernel_rfl) ?_
            refine G_q rfl (op_move (av := .row 1 c_api_Value a1) rfl ?_)
            refine G_q rfl (op_len_row (by kernel_rfl) rfl ?_)
            refine G_q rfl (op_geq rfl rfl ?_)
            refine G_q rfl (op_move (av := .exact (.bool (decide (1 ≤ (List.length a1 : Int))))) rfl ?_)
            refine G_split (p := 1 ≤ (List.length a1 : Int)) 35 rfl (fun hc => ?_) (fun hc => ?_)
            · replace h := ite_t h hc
              refine Gy_q rfl rfl rfl (op_move (av := .row 1 c_api_Value a1) rfl ?_)
              refine Gy_q rfl rfl rfl (op_len_row (by kernel_rfl) rfl ?_)
              refine Gy_q rfl rfl rfl (op_leq rfl rfl ?_)
              refine G_q rfl (op_pick_t rfl (av := .exact (.bool (decide ((List.length a1 : Int) ≤ 9)))) rfl ?_)
              refine G_q rfl (op_move (av := .exact (.bool (decide ((List.length a1 : Int) ≤ 9)))) rfl ?_)
              refine G_split (p := (List.length a1 : Int) ≤ 9) 40 rfl (fun hc => ?_) (fun hc => ?_)
              · replace h := ite_t h hc
                refine Gy_q rfl rfl rfl (op_move (av := .row 1 c_api_Value a1) rfl ?_)
                obtain ⟨n9, h⟩ := need_some h
                refine Gy_q rfl rfl rfl (op_index_row (by kernel_rfl) rfl rfl n9.1 n9.2 ?_)
                refine Gy_q rfl rfl rfl (op_load1p (a := .exact (.string (bs (gi a1 0)))) (by kernel_rfl) rfl rfl ?_)
                obtain ⟨n10, h⟩ := need_some h
                refine Gy_q rfl rfl rfl (op_index_str (by kernel_rfl) rfl rfl n10.1 n10.2 ?_)
                refine Gy_q rfl rfl rfl (op_convInt (k := .i64) (r := (UInt8.toNat (gi (gi a1 0) 0) : Int)) (by kernel_rfl) rfl (wrap_u8 rfl _) ?_)
                refine Gy_q rfl rfl rfl (op_eql rfl rfl ?_)
                refine G_q rfl (op_pick_t rfl (av := .exact (.bool (decide ((UInt8.toNat (gi (gi a1 0) 0) : Int) = 10)))) rfl ?_)
                refine G_q rfl (op_assign (av := .exact (.bool (decide ((UInt8.toNat (gi (gi a1 0) 0) : Int) = 10)))) rfl ?_)
                refine G_nil ?_
                refine kI_normal ⟨_, h, ?_⟩
                exact Sub.of_le (AF.le_put (AV.le_eq rfl) (AF.le_top _))
              · replace h := ite_f h hc
                refine G_n rfl rfl ?_
                refine G_n rfl rfl ?_
                refine G_n rfl rfl ?_
                refine G_n rfl rfl ?_
                refine G_n rfl rfl ?_
                refine G_n rfl rfl ?_
                refine G_q rfl (op_pick_f rfl (av := .exact (.bool false)) rfl ?_)
                refine G_q rfl (op_assign (av := .exact (.bool false)) rfl ?_)
                refine G_nil ?_
                refine kI_normal ⟨_, h, ?_⟩
                exact Sub.of_le (AF.le_put (AV.le_eq rfl) (AF.le_top _))
            · replace h := ite_f h hc
              refine G_n rfl rfl ?_
              refine G_n rfl rfl ?_
              refine G_n rfl rfl ?_
              refine G_q rfl (op_pick_f rfl (av := .exact (.bool false)) rfl ?_)
              refine G_q rfl (op_move (av := .exact (.bool false)) rfl ?_)
              refine G_n rfl rfl ?_
              refine G_n rfl rfl ?_
              refine G_n rfl rfl ?_
              refine G_n rfl rfl ?_
              refine G_n rfl rfl ?_
              refine G_n rfl rfl ?_
              refine G_q rfl (op_pick_f rfl (av := .exact (.bool false)) rfl ?_)
              refine G_q rfl (op_assign (av := .exact (.bool false)) rfl ?_)
              refine G_nil ?_
              refine kI_normal ⟨_, h, ?_⟩
              exact Sub.of_le (AF.le_put (AV.le_eq rfl) (AF.le_top _))
          · refine k_ret ?_
            refine kB_ret ?_
            refine kC_ret ?_
            obtain rfl := Option.some.inj h
            refine kP_any (endN (af' := (AF.put AF0 (some 4) (.exact (.bool x4_j6)))) (σ' := []) _ rfl ?_ ⟨rfl, rfl⟩)
            exact Sub.of_le (AF.le_put (AV.le_eq rfl) (AF.le_top _))
        · replace h := ite_f h hc
          refine k_seq ?_
          refine k_reg .free hmixP (by kernel_rfl) ?_
          refine G_q rfl (op_eql rfl rfl ?_)
          refine G_q rfl (op_assign (av := .exact (.bool (decide (a0 = 8)))) rfl ?_)
          refine G_nil ?_
          refine kC_normal ?_
          refine k_cond_d (p := a0 = 8) rfl (fun hc => ?_) (fun hc => ?_)
          · replace h := ite_t h hc
            refine k_join1_0 h (fun (x4_j11 : Bool) => (AF.put AF0 (some 4) (.exact (.bool x4_j11)))) (fun (x4_j11 : Bool) => []) (fun k11 h => ?_) (fun x4_j11 h => ?_)
            · refine k_reg .free hmixP (by kernel_rfl) ?_
              refine G_q rfl (op_move (av := .row 1 c_api_Value a1) rfl ?_)
              refine G_q rfl (op_len_row (by kernel_rfl) rfl ?_)
              refine G_q rfl (op_geq rfl rfl ?_)
              refine G_q rfl (op_move (av := .exact (.bool (decide (1 ≤ (List.length a1 : Int))))) rfl ?_)
              refine G_split (p := 1 ≤ (List.length a1 : Int)) 53 rfl (fun hc => ?_) (fun hc => ?_)
              · replace h := ite_t h hc
                refine Gy_q rfl rfl rfl (op_move (av := .row 1 c_api_Value a1) rfl ?_)
                refine Gy_q rfl rfl rfl (op_len_row (by kernel_rfl) rfl ?_)
                refine Gy_q rfl rfl rfl (op_leq rfl rfl ?_)
                refine G_q rfl (op_pick_t rfl (av := .exact (.bool (decide ((List.length a1 : Int) ≤ 33)))) rfl ?_)
                refine G_q rfl (op_move (av := .exact (.bool (decide ((List.length a1 : Int) ≤ 33)))) rfl ?_)
                refine G_split (p := (List.length a1 : Int) ≤ 33) 58 rfl (fun hc => ?_) (fun hc => ?_)
                · replace h := ite_t h hc
                  refine Gy_q rfl rfl rfl (op_move (av := .row 1 c_api_Value a1) rfl ?_)
                  obtain ⟨n14, h⟩ := need_some h
                  refine Gy_q rfl rfl rfl (op_index_row (by kernel_rfl) rfl rfl n14.1 n14.2 ?_)
                  refine Gy_q rfl rfl rfl (op_load1p (a := .exact (.string (bs (gi a1 0)))) (by kernel_rfl) rfl rfl ?_)
                  obtain ⟨y15, hy15, h⟩ := bnd1_some h
                  refine Gy_q rfl rfl rfl (op_pure (m_ref9_small_ok _ _ _ _ hy15) Try.func68 (by kernel_rfl) (LEs.cons (AV.le_eq rfl) (LEs.cons (AV.le_eq rfl) (LEs.cons (AV.le_eq rfl) LEs.nil))) ?_)
                  refine G_q rfl (op_pick_t rfl (av := .exact (.bool y15)) rfl ?_)
                  refine G_q rfl (op_assign (av := .exact (.bool y15)) rfl ?_)
                  refine G_nil ?_
                  refine kI_normal ⟨_, h, ?_⟩
                  exact Sub.of_le (AF.le_put (AV.le_eq rfl) (AF.le_top _))
                · replace h := ite_f h hc
                  refine G_n rfl rfl ?_
                  refine G_n rfl rfl ?_
                  refine G_n rfl rfl ?_
                  refine G_n rfl rfl ?_
                  refine G_q rfl (op_pick_f rfl (av := .exact (.bool false)) rfl ?_)
                  refine G_q rfl (op_assign (av := .exact (.bool false)) rfl ?_)
                  refine G_nil ?_
                  refine kI_normal ⟨_, h, ?_⟩
                  exact Sub.of_le (AF.le_put (AV.le_eq rfl) (AF.le_top _))
              · replace h := ite_f h hc
                refine G_n rfl rfl ?_
                refine G_n rfl rfl ?_
                refine G_n rfl rfl ?_
                refine G_q rfl (op_pick_f rfl (av := .exact (.bool false)) rfl ?_)
                refine G_q rfl (op_move (av := .exact (.bool false)) rfl ?_)
                refine G_n rfl rfl ?_
                refine G_n rfl rfl ?_
                refine G_n rfl rfl ?_
                refine G_n rfl rfl ?_
                refine G_q rfl (op_pick_f rfl (av := .exact (.bool false)) rfl ?_)
                refine G_q rfl (op_assign (av := .exact (.bool false)) rfl ?_)
                refine G_nil ?_
                refine kI_normal ⟨_, h, ?_⟩
                exact Sub.of_le (AF.le_put (AV.le_eq rfl) (AF.le_top _))
            · refine k_ret ?_
              refine kB_ret ?_
              refine kC_ret ?_
              obtain rfl := Option.some.inj h
              refine kP_any (endN (af' := (AF.put AF0 (some 4) (.exact (.bool x4_j11)))) (σ' := []) _ rfl ?_ ⟨rfl, rfl⟩)
              exact Sub.of_le (AF.le_put (AV.le_eq rfl) (AF.le_top _))
          · replace h := ite_f h hc
            refine k_seq ?_
            refine k_reg .free hmixP (by kernel_rfl) ?_
            refine G_q rfl (op_eql rfl rfl ?_)
            refine G_q rfl (op_assign (av := .exact (.bool (decide (a0 = 9)))) rfl ?_)
            refine G_nil ?_
            refine kC_normal ?_
            refine k_cond_d (p := a0 = 9) rfl (fun hc => ?_) (fun hc => ?_)
            · replace h := ite_t h hc
              refine k_join1_0 h (fun (x4_j16 : Bool) => (AF.put AF0 (some 4) (.exact (.bool x4_j16)))) (fun (x4_j16 : Bool) => []) (fun k16 h => ?_) (fun x4_j16 h => ?_)
              · refine k_reg .free hmixP (by kernel_rfl) ?_
                refine G_q rfl (op_move (av := .row 1 c_api_Value a1) rfl ?_)
                refine G_q rfl (op_len_row (by kernel_rfl) rfl ?_)
                refine G_q rfl (op_geq rfl rfl ?_)
                refine G_q rfl (op_move (av := .exact (.bool (decide (1 ≤ (List.length a1 : Int))))) rfl ?_)
                refine G_split (p := 1 ≤ (List.length a1 : Int)) 69 rfl (fun hc => ?_) (fun hc => ?_)
                · replace h := ite_t h hc
                  refine Gy_q rfl rfl rfl (op_move (av := .row 1 c_api_Value a1) rfl ?_)
                  obtain ⟨n19, h⟩ := need_some h
                  refine Gy_q rfl rfl rfl (op_index_row (by kernel_rfl) rfl rfl n19.1 n19.2 ?_)
                  refine Gy_q rfl rfl rfl (op_load1p (a := .exact (.string (bs (gi a1 0)))) (by kernel_rfl) rfl rfl ?_)
                  obtain ⟨y20, hy20, h⟩ := bnd1_some h
                  refine Gy_q rfl rfl rfl (op_pure (m_ref9_small_ok _ _ _ _ hy20) Try.func68 (by kernel_rfl) (LEs.cons (AV.le_eq rfl) (LEs.cons (AV.le_eq rfl) (LEs.cons (AV.le_eq rfl) LEs.nil))) ?_)
                  refine G_q rfl (op_pick_t rfl (av := .exact (.bool y20)) rfl ?_)
                  refine G_q rfl (op_assign (av := .exact (.bool y20)) rfl ?_)
                  refine G_nil ?_
                  refine kI_normal ⟨_, h, ?_⟩
                  exact Sub.of_le (AF.le_put (AV.le_eq rfl) (AF.le_top _))
                · replace h := ite_f h hc
                  refine G_n rfl rfl ?_
                  refine G_n rfl rfl ?_
                  refine G_n rfl rfl ?_
                  refine G_n rfl rfl ?_
                  refine G_q rfl (op_pick_f rfl (av := .exact (.bool false)) rfl ?_)
                  refine G_q rfl (op_assign (av := .exact (.bool false)) rfl ?_)
                  refine G_nil ?_
                  refine kI_normal ⟨_, h, ?_⟩
                  exact Sub.of_le (AF.le_put (AV.le_eq rfl) (AF.le_top _))
              · refine k_ret ?_
                refine kB_ret ?_
                refine kC_ret ?_
                obtain rfl := Option.some.inj h
                refine kP_any (endN (af' := (AF.put AF0 (some 4) (.exact (.bool x4_j16)))) (σ' := []) _ rfl ?_ ⟨rfl, rfl⟩)
                exact Sub.of_le (AF.le_put (AV.le_eq rfl) (AF.le_top _))
            · replace h := ite_f h hc
              refine k_skip ?_
              refine kB_normal ?_
              refine kC_normal ?_
              refine k_seq ?_
              refine k_reg .free hmixP (by kernel_rfl) ?_
              refine G_q rfl (op_assign (av := .exact (.bool true)) rfl ?_)
              refine G_nil ?_
              refine kC_normal ?_
              refine k_ret ?_
              obtain rfl := Option.some.inj h
              refine kP_any (endN (af' := (AF.put AF0 (some 4) (.exact (.bool true)))) (σ' := []) _ rfl ?_ ⟨rfl, rfl⟩)
              exact Sub.of_le (AF.le_put (AV.le_eq rfl) (AF.le_top _))
set_option maxHeartbeats 4000000 in
theorem m_ref9_walk_F_ok (self_ref9_walk : (List UInt8) → Int → Bool → Option (Int × (List (List UInt8)) × Int)) (hself_ref9_walk : ∀ (a0 : List UInt8) (a1 : Int) (a2 : Bool) (r : Int × (List (List UInt8)) × Int), self_ref9_walk a0 a1 a2 = some r → Pure Try.prog 44 [(.exact (.string (bs a0))), (.exact (.int .i64 a1)), (.exact (.bool a2))] (.tup [.exact (.int .i64 r.1), .row 1 c_api_Value r.2.1, .exact (.int .i64 r.2.2)])) (self_ref9_order : (List UInt8) → (List UInt8) → Option Int) (hself_ref9_order : ∀ (a0 : List UInt8) (a1 : List UInt8) (r : Int), self_ref9_order a0 a1 = some r → Pure Try.prog 74 [(.exact (.string (bs a0))), (.exact (.string (bs a1)))] (.exact (.int .i64 r))) (a0 : List UInt8) (a1 : Int) (a2 : Bool) (r : Int × (List (List UInt8)) × Int) (h : m_ref9_walk_F self_ref9_walk self_ref9_order a0 a1 a2 = some r) : Pure Try.prog 44 [(.exact (.string (bs a0))), (.exact (.int .i64 a1)), (.exact (.bool a2))] (.tup [.exact (.int .i64 r.1), .row 1 c_api_Value r.2.1, .exact (.int .i64 r.2.2)]) := by
  unfold m_ref9_walk_F at h
  refine Pure.ofFun (fun_of_awp Try.func44 rfl Try.ntmps44 (by simp) rfl (res3 rfl) fun E hE => k_end ?_)
  refine k_seq ?_
  refine k_reg .free hmixP (by kernel_rfl) ?_
  refine G_q rfl (op_assign (av := .exact (.int .i64 0)) rfl ?_)
  refine G_q rfl (op_assign (av := .exact (.slice none 0 0)) rfl ?_)
  refine G_q rfl (op_assign (av := .exact (.int .i64 0)) rfl ?_)
  refine G_nil ?_
  refine kC_normal ?_
  refine k_seq ?_
  refine k_join1_0 h (fun (x24_j3 : Bool) => (AF.put (AF.put (AF.put (AF.put AF0 (some 0) (.exact (.string (bs a0)))) (some 1) (.exact (.int .i64 a1))) (some 2) (.exact (.bool a2))) (some 24) (.exact (.bool x24_j3)))) (fun (x24_j3 : Bool) => []) (fun k3 h => ?_) (fun x24_j3 h => ?_)
  · refine k_reg .free hmixP (by kernel_rfl) ?_
    refine G_q rfl (op_move (av := .exact (.string (bs a0))) rfl ?_)
    refine G_q rfl (op_lenS (by kernel_rfl) rfl ?_)
    refine G_q rfl (op_lss rfl rfl ?_)
    refine G_q rfl (op_move (av := .exact (.bool (decide ((List.length a0 : Int) < 2)))) rfl ?_)
    refine G_split (p := (List.length a0 : Int) < 2) 21 rfl (fun hc => ?_) (fun hc => ?_)
    · replace h := ite_t h hc
      refine G_n rfl rfl ?_
      refine G_n rfl rfl ?_
      refine G_q rfl (op_pick_t rfl (av := .exact (.bool true)) rfl ?_)
      refine G_nil ?_
      refine kI_normal ⟨_, h, ?_⟩
      exact Sub.of_le (AF.le_put (AV.le_eq rfl) (AF.le_put (AV.le_eq rfl) (AF.le_put (AV.le_eq rfl) (AF.le_put (AV.le_eq rfl) (AF.le_top _)))))
    · replace h := ite_f h hc
      refine Gy_q rfl rfl rfl (op_move (av := .exact (.int .i64 a1)) rfl ?_)
      refine Gy_q rfl rfl rfl (op_eql rfl rfl ?_)
      refine G_q rfl (op_pick_f rfl (av := .exact (.bool (decide (a1 = 0)))) rfl ?_)
      refine G_nil ?_
      refine kI_normal ⟨_, h, ?_⟩
      exact Sub.of_le (AF.le_put (AV.le_eq rfl) (AF.le_put (AV.le_eq rfl) (AF.le_put (AV.le_eq rfl) (AF.le_put (AV.le_eq rfl) (AF.le_top _)))))
  · refine k_cond_b (c := x24_j3) rfl (fun hc => ?_) (fun hc => ?_)
    · replace h := ite_t h hc
      refine k_seq ?_
      refine k_reg .free hmixP (by kernel_rfl) ?_
      refine G_q rfl (op_assign (av := .exact (.int .i64 0)) rfl ?_)
      refine G_q rfl (op_assign (av := .exact (.slice none 0 0)) rfl ?_)
      refine G_q rfl (op_assign (av := .exact (.int .i64 0)) rfl ?_)
      refine G_nil ?_
      refine kC_normal ?_
      refine k_ret ?_
      refine kC_ret ?_
      obtain rfl := Option.some.inj h
      refine kP_any (endN (af' := (AF.put (AF.put (AF.put AF0 (some 6) (.exact (.int .i64 0))) (some 7) (.row 1 c_api_Value [])) (some 8) (.exact (.int .i64 0)))) (σ' := []) _ rfl ?_ ⟨rfl, rfl⟩)
      exact Sub.of_le (AF.le_put (AV.le_eq rfl) (AF.le_put (row_nil (by decide)) (AF.le_put (AV.le_eq rfl) (AF.le_top _))))
    · replace h := ite_f h hc
      refine k_skip ?_
      refine kC_normal ?_
      refine k_seq ?_
      refine k_seq ?_
      refine k_reg .free hmixP (by kernel_rfl) ?_
      refine G_q rfl (op_move (av := .exact (.string (bs a0))) rfl ?_)
      obtain ⟨n8, h⟩ := need_some h
      refine G_q rfl (op_index_str (by kernel_rfl) rfl rfl n8.1 n8.2 ?_)
      refine G_q rfl (op_convInt (k := .i64) (r := (UInt8.toNat (gi a0 0) : Int)) (by kernel_rfl) rfl (wrap_u8 rfl _) ?_)
      refine G_q rfl (op_assign (av := .exact (.int .i64 (UInt8.toNat (gi a0 0) : Int))) rfl ?_)
      refine G_nil ?_
      refine kC_normal ?_
      refine k_block ?_
      refine k_seq ?_
      refine k_reg .free hmixP (by kernel_rfl) ?_
      refine G_q rfl (op_move (av := .exact (.int .i64 (UInt8.toNat (gi a0 0) : Int))) rfl ?_)
      refine G_q rfl (op_eql rfl rfl ?_)
      refine G_q rfl (op_assign (av := .exact (.bool (decide ((UInt8.toNat (gi a0 0) : Int) = 1)))) rfl ?_)
      refine G_nil ?_
      refine kC_normal ?_
      refine k_cond_d (p := (UInt8.toNat (gi a0 0) : Int) = 1) rfl (fun hc => ?_) (fun hc => ?_)
      · replace h := ite_t h hc
        refine k_seq ?_
        refine k_seq ?_
        refine k_reg .free hmixP (by kernel_rfl) ?_
        refine G_q rfl (op_move (av := .exact (.string (bs a0))) rfl ?_)
        refine G_q rfl (op_lenS (by kernel_rfl) rfl ?_)
        refine G_q rfl (op_lss rfl rfl ?_)
        refine G_nil ?_
        refine kC_normal ?_
        refine k_cond_d (p := (List.length a0 : Int) < 9) rfl (fun hc => ?_) (fun hc => ?_)
        · replace h := ite_t h hc
          refine k_seq ?_
          refine k_reg .free hmixP (by kernel_rfl) ?_
          refine G_q rfl (op_assign (av := .exact (.int .i64 0)) rfl ?_)
          refine G_q rfl (op_assign (av := .exact (.slice none 0 0)) rfl ?_)
          refine G_q rfl (op_assign (av := .exact (.int .i64 0)) rfl ?_)
          refine G_nil ?_
          refine kC_normal ?_
          refine k_ret ?_
          refine kC_ret ?_
          refine kB_ret ?_
          refine kC_ret ?_
          obtain rfl := Option.some.inj h
          refine kP_any (endN (af' := (AF.put (AF.put (AF.put AF0 (some 6) (.exact (.int .i64 0))) (some 7) (.row 1 c_api_Value [])) (some 8) (.exact (.int .i64 0)))) (σ' := []) _ rfl ?_ ⟨rfl, rfl⟩)
          exact Sub.of_le (AF.le_put (AV.le_eq rfl) (AF.le_put (row_nil (by decide)) (AF.le_put (AV.le_eq rfl) (AF.le_top _))))
        · replace h := ite_f h hc
          refine k_skip ?_
          refine kC_normal ?_
          refine k_seq ?_
          refine k_reg .free hmixP (by kernel_rfl) ?_
          refine G_q rfl (op_assign (av := .exact (.int .i64 9)) rfl ?_)
          refine G_q rfl (op_assign (av := .exact (.slice none 0 0)) rfl ?_)
          refine G_q rfl (op_assign (av := .exact (.int .i64 1)) rfl ?_)
          refine G_nil ?_
          refine kC_normal ?_
          refine k_ret ?_
          refine kB_ret ?_
          refine kC_ret ?_
          obtain rfl := Option.some.inj h
          refine kP_any (endN (af' := (AF.put (AF.put (AF.put AF0 (some 6) (.exact (.int .i64 9))) (some 7) (.row 1 c_api_Value [])) (some 8) (.exact (.int .i64 1)))) (σ' := []) _ rfl ?_ ⟨rfl, rfl⟩)
          exact Sub.of_le (AF.le_put (AV.le_eq rfl) (AF.le_put (row_nil (by decide)) (AF.le_put (AV.le_eq rfl) (AF.le_top _))))
      · replace h := ite_f h hc
        refine k_seq ?_
        refine k_reg .free hmixP (by kernel_rfl) ?_
        refine G_q rfl (op_move (av := .exact (.int .i64 (UInt8.toNat (gi a0 0) : Int))) rfl ?_)
        refine G_q rfl (op_eql rfl rfl ?_)
        refine G_q rfl (op_assign (av := .exact (.bool (decide ((UInt8.toNat (gi a0 0) : Int) = 2)))) rfl ?_)
        refine G_nil ?_
        refine kC_normal ?_
        refine k_cond_d (p := (UInt8.toNat (gi a0 0) : Int) = 2) rfl (fun hc => ?_) (fun hc => ?_)
        · replace h := ite_t h hc
          refine k_seq ?_
          refine k_seq ?_
          refine k_reg .free hmixP (by kernel_rfl) ?_
          refine G_q rfl (op_move (av := .exact (.string (bs a0))) rfl ?_)
          obtain ⟨n9, h⟩ := need_some h
          refine G_q rfl (op_index_str (by kernel_rfl) rfl rfl n9.1 n9.2 ?_)
          refine G_q rfl (op_gtrU (a := (gi a0 1)) (b := 1) rfl rfl ?_)
          refine G_nil ?_
          refine kC_normal ?_
          refine k_cond_d (p := 1 < (gi a0 1)) rfl (fun hc => ?_) (fun hc => ?_)
          · replace h := ite_t h hc
            refine k_seq ?_
            refine k_reg .free hmixP (by kernel_rfl) ?_
            refine G_q rfl (op_assign (av := .exact (.int .i64 0)) rfl ?_)
            refine G_q rfl (op_assign (av := .exact (.slice none 0 0)) rfl ?_)
            refine G_q rfl (op_assign (av := .exact (.int .i64 0)) rfl ?_)
            refine G_nil ?_
            refine kC_normal ?_
            refine k_ret ?_
            refine kC_ret ?_
            refine kB_ret ?_
            refine kC_ret ?_
            obtain rfl := Option.some.inj h
            refine kP_any (endN (af' := (AF.put (AF.put (AF.put AF0 (some 6) (.exact (.int .i64 0))) (some 7) (.row 1 c_api_Value [])) (some 8) (.exact (.int .i64 0)))) (σ' := []) _ rfl ?_ ⟨rfl, rfl⟩)
            exact Sub.of_le (AF.le_put (AV.le_eq rfl) (AF.le_put (row_nil (by decide)) (AF.le_put (AV.le_eq rfl) (AF.le_top _))))
          · replace h := ite_f h hc
            refine k_skip ?_
            refine kC_normal ?_
            refine k_seq ?_
            refine k_reg .free hmixP (by kernel_rfl) ?_
            refine G_q rfl (op_assign (av := .exact (.int .i64 2)) rfl ?_)
            refine G_q rfl (op_assign (av := .exact (.slice none 0 0)) rfl ?_)
            refine G_q rfl (op_assign (av := .exact (.int .i64 1)) rfl ?_)
            refine G_nil ?_
            refine kC_normal ?_
            refine k_ret ?_
            refine kB_ret ?_
            refine kC_ret ?_
            obtain rfl := Option.some.inj h
            refine kP_any (endN (af' := (AF.put (AF.put (AF.put AF0 (some 6) (.exact (.int .i64 2))) (some 7) (.row 1 c_api_Value [])) (some 8) (.exact (.int .i64 1)))) (σ' := []) _ rfl ?_ ⟨rfl, rfl⟩)
            exact Sub.of_le (AF.le_put (AV.le_eq rfl) (AF.le_put (row_nil (by decide)) (AF.le_put (AV.le_eq rfl) (AF.le_top _))))
        · replace h := ite_f h hc
          refine k_join1_0 h (fun (x40_j10 : Bool) => (AF.put (AF.put (AF.put (AF.put (AF.put AF0 (some 0) (.exact (.string (bs a0)))) (some 1) (.exact (.int .i64 a1))) (some 2) (.exact (.bool a2))) (some 9) (.exact (.int .i64 (UInt8.toNat (gi a0 0) : Int)))) (some 40) (.exact (.bool x40_j10)))) (fun (x40_j10 : Bool) => []) (fun k10 h => ?_) (fun x40_j10 h => ?_)
          · refine k_reg .free hmixP (by kernel_rfl) ?_
            refine G_q rfl (op_move (av := .exact (.string (bs a0))) rfl ?_)
            refine G_q rfl (op_lenS (by kernel_rfl) rfl ?_)
            refine G_q rfl (op_lss rfl rfl ?_)
            refine G_q rfl (op_move (av := .exact (.bool (decide ((List.length a0 : Int) < 3)))) rfl ?_)
            refine G_split (p := (List.length a0 : Int) < 3) 44 rfl (fun hc => ?_) (fun hc => ?_)
            · replace h := ite_t h hc
              refine G_n rfl rfl ?_
              refine G_n rfl rfl ?_
              refine G_q rfl (op_pick_t rfl (av := .exact (.bool true)) rfl ?_)
              refine G_q rfl (op_move (av := .exact (.bool true)) rfl ?_)
              refine G_n rfl rfl ?_
              refine G_n rfl rfl ?_
              refine G_q rfl (op_pick_t rfl (av := .exact (.bool true)) rfl ?_)
              refine G_q rfl (op_assign (av := .exact (.bool true)) rfl ?_)
              refine G_nil ?_
              refine kI_normal ⟨_, h, ?_⟩
              exact Sub.of_le (AF.le_put (AV.le_eq rfl) (AF.le_put (AV.le_eq rfl) (AF.le_put (AV.le_eq rfl) (AF.le_put (AV.le_eq rfl) (AF.le_put (AV.le_eq rfl) (AF.le_top _))))))
            · replace h := ite_f h hc
              refine Gy_q rfl rfl rfl (op_move (av := .exact (.int .i64 (UInt8.toNat (gi a0 0) : Int))) rfl ?_)
              refine Gy_q rfl rfl rfl (op_lss rfl rfl ?_)
              refine G_q rfl (op_pick_f rfl (av := .exact (.bool (decide ((UInt8.toNat (gi a0 0) : Int) < 3)))) rfl ?_)
              refine G_q rfl (op_move (av := .exact (.bool (decide ((UInt8.toNat (gi a0 0) : Int) < 3)))) rfl ?_)
              refine G_split (p := (UInt8.toNat (gi a0 0) : Int) < 3) 48 rfl (fun hc => ?_) (fun hc => ?_)
              · replace h := ite_t h hc
                refine G_n rfl rfl ?_
                refine G_n rfl rfl ?_
                refine G_q rfl (op_pick_t rfl (av := .exact (.bool true)) rfl ?_)
                refine G_q rfl (op_assign (av := .exact (.bool true)) rfl ?_)
                refine G_nil ?_
                refine kI_normal ⟨_, h, ?_⟩
                exact Sub.of_le (AF.le_put (AV.le_eq rfl) (AF.le_put (AV.le_eq rfl) (AF.le_put (AV.le_eq rfl) (AF.le_put (AV.le_eq rfl) (AF.le_put (AV.le_eq rfl) (AF.le_top _))))))
              · replace h := ite_f h hc
                refine Gy_q rfl rfl rfl (op_move (av := .exact (.int .i64 (UInt8.toNat (gi a0 0) : Int))) rfl ?_)
                refine Gy_q rfl rfl rfl (op_gtr rfl rfl ?_)
                refine G_q rfl (op_pick_f rfl (av := .exact (.bool (decide (10 < (UInt8.toNat (gi a0 0) : Int))))) rfl ?_)
                refine G_q rfl (op_assign (av := .exact (.bool (decide (10 < (UInt8.toNat (gi a0 0) : Int))))) rfl ?_)
                refine G_nil ?_
                refine kI_normal ⟨_, h, ?_⟩
                exact Sub.of_le (AF.le_put (AV.le_eq rfl) (AF.le_put (AV.le_eq rfl) (AF.le_put (AV.le_eq rfl) (AF.le_put (AV.le_eq rfl) (AF.le_put (AV.le_eq rfl) (AF.le_top _))))))
          · refine k_cond_b (c := x40_j10) rfl (fun hc => ?_) (fun hc => ?_)
            · replace h := ite_t h hc
              refine k_seq ?_
              refine k_reg .free hmixP (by kernel_rfl) ?_
              refine G_q rfl (op_assign (av := .exact (.int .i64 0)) rfl ?_)
              refine G_q rfl (op_assign (av := .exact (.slice none 0 0)) rfl ?_)
              refine G_q rfl (op_assign (av := .exact (.int .i64 0)) rfl ?_)
              refine G_nil ?_
              refine kC_normal ?_
              refine k_ret ?_
              refine kB_ret ?_
              refine kC_ret ?_
              obtain rfl := Option.some.inj h
              refine kP_any (endN (af' := (AF.put (AF.put (AF.put AF0 (some 6) (.exact (.int .i64 0))) (some 7) (.row 1 c_api_Value [])) (some 8) (.exact (.int .i64 0)))) (σ' := []) _ rfl ?_ ⟨rfl, rfl⟩)
              exact Sub.of_le (AF.le_put (AV.le_eq rfl) (AF.le_put (row_nil (by decide)) (AF.le_put (AV.le_eq rfl) (AF.le_top _))))
            · replace h := ite_f h hc
              refine k_seq ?_
              refine k_reg .free hmixP (by kernel_rfl) ?_
              refine G_q rfl (op_move (av := .exact (.int .i64 (UInt8.toNat (gi a0 0) : Int))) rfl ?_)
              refine G_q rfl (op_eql rfl rfl ?_)
              refine G_q rfl (op_assign (av := .exact (.bool (decide ((UInt8.toNat (gi a0 0) : Int) = 10)))) rfl ?_)
              refine G_nil ?_
              refine kC_normal ?_
              refine k_cond_d (p := (UInt8.toNat (gi a0 0) : Int) = 10) rfl (fun hc => ?_) (fun hc => ?_)
              · replace h := ite_t h hc
                refine k_seq ?_
                refine k_reg .free hmixP (by kernel_rfl) ?_
                refine G_q rfl (op_assign (av := .exact (.int .i64 3)) rfl ?_)
                refine G_q rfl (op_assign (av := .exact (.slice none 0 0)) rfl ?_)
                refine G_q rfl (op_assign (av := .exact (.int .i64 1)) rfl ?_)
                refine G_nil ?_
                refine kC_normal ?_
                refine k_ret ?_
                refine kB_ret ?_
                refine kC_ret ?_
                obtain rfl := Option.some.inj h
                refine kP_any (endN (af' := (AF.put (AF.put (AF.put AF0 (some 6) (.exact (.int .i64 3))) (some 7) (.row 1 c_api_Value [])) (some 8) (.exact (.int .i64 1)))) (σ' := []) _ rfl ?_ ⟨rfl, rfl⟩)
                exact Sub.of_le (AF.le_put (AV.le_eq rfl) (AF.le_put (row_nil (by decide)) (AF.le_put (AV.le_eq rfl) (AF.le_top _))))
              · replace h := ite_f h hc
                refine k_skip ?_
                refine kB_normal ?_
                refine kC_normal ?_
                refine k_seq ?_
                refine k_plan [] [(0, 0), (0, 1), (0, 2), (0, 3), (0, 4), (0, 5), (0, 6), (0, 7), (0, 8)] hmixP (by kernel_rfl) ?_
                refine P_q no34_0 rfl (op_move (av := .exact (.string (bs a0))) rfl ?_)
                obtain ⟨n11, h⟩ := need_some h
                refine P_q no34_0 rfl (op_index_str (by kernel_rfl) rfl rfl n11.1 n11.2 ?_)
                refine P_q no34_0 rfl (op_convInt (k := .i64) (r := (UInt8.toNat (gi a0 1) : Int)) (by kernel_rfl) rfl (wrap_u8 rfl _) ?_)
                refine P_q no34_0 rfl (op_shl rfl rfl (by decide) rfl ?_)
                refine P_q no34_0 rfl (op_move (av := .exact (.string (bs a0))) rfl ?_)
                obtain ⟨n12, h⟩ := need_some h
                refine P_q no34_0 rfl (op_index_str (by kernel_rfl) rfl rfl n12.1 n12.2 ?_)
                refine P_q no34_0 rfl (op_convInt (k := .i64) (r := (UInt8.toNat (gi a0 2) : Int)) (by kernel_rfl) rfl (wrap_u8 rfl _) ?_)
                refine P_q no34_0 rfl (op_or rfl rfl rfl ?_)
                refine P_q no34_0 rfl (op_assign (av := .exact (.int .i64 (bOr .i64 (i64 ((UInt8.toNat (gi a0 1) : Int) * 2 ^ min (Int.toNat 8) IntKind.i64.bits)) (UInt8.toNat (gi a0 2) : Int)))) rfl ?_)
                refine P_nil ?_
                refine kC_normal ?_
                refine k_seq ?_
                refine k_reg .free hmixP (by kernel_rfl) ?_
                refine G_q rfl (op_assign (av := .exact (.int .i64 3)) rfl ?_)
                refine G_q rfl (op_assign (av := .exact (.int .i64 0)) rfl ?_)
                refine G_nil ?_
                refine kC_normal ?_
                refine k_seq ?_
                refine k_reg .free hmixP (by kernel_rfl) ?_
                refine G_q rfl (op_assign (av := .exact (.slice none 0 0)) rfl ?_)
                refine G_nil ?_
                refine kC_normal ?_
                refine k_join3_1 h (fun (x11_j13 : Int) (x12_j13 : Int) (x13_j13 : List (List UInt8)) (v13_j13 : Value) => (AF.put (AF.put (AF.put (AF.put (AF.put AF0 (some 0) (.exact (.string (bs a0)))) (some 2) (.exact (.bool a2))) (some 11) (.exact (.int .i64 x11_j13))) (some 12) (.exact (.int .i64 x12_j13))) (some 13) (.exact v13_j13))) (fun (x11_j13 : Int) (x12_j13 : Int) (x13_j13 : List (List UInt8)) (v13_j13 : Value) => [vecT Try.prog 25 1 c_api_Value v13_j13 x13_j13]) (fun k13 h => ?_) (fun x11_j13 x12_j13 x13_j13 v13_j13 h => ?_)
                · refine k_seq ?_
                  refine k_reg .free hmixP (by kernel_rfl) ?_
                  refine G_q rfl (op_assign (av := .exact (.int .i64 0)) rfl ?_)
                  refine G_nil ?_
                  refine kC_normal ?_
                  refine k_block ?_
                  refine k_loop4_1 (m_ref9_walk_L2 self_ref9_walk a0 a1 a2 k13) (m_ref9_walk_B2 self_ref9_walk a0 a1 a2 k13) (fun _ _ _ _ => rfl) (fun m _ _ _ _ => rfl) h (fun (x11_l2 : Int) (x12_l2 : Int) (x13_l2 : List (List UInt8)) (x14_l2 : Int) (v13_l2 : Value) => (AF.put (AF.put (AF.put (AF.put (AF.put (AF.put (AF.put (AF.put AF0 (some 0) (.exact (.string (bs a0)))) (some 1) (.exact (.int .i64 a1))) (some 2) (.exact (.bool a2))) (some 10) (.exact (.int .i64 (bOr .i64 (i64 ((UInt8.toNat (gi a0 1) : Int) * 2 ^ min (Int.toNat 8) IntKind.i64.bits)) (UInt8.toNat (gi a0 2) : Int))))) (some 11) (.exact (.int .i64 x11_l2))) (some 12) (.exact (.int .i64 x12_l2))) (some 13) (.exact v13_l2)) (some 14) (.exact (.int .i64 x14_l2)))) (fun (x11_l2 : Int) (x12_l2 : Int) (x13_l2 : List (List UInt8)) (x14_l2 : Int) (v13_l2 : Value) => [vecT Try.prog 25 1 c_api_Value v13_l2 x13_l2]) (.slice none 0 0) ?_ (fun rec2 x11_l2 x12_l2 x13_l2 x14_l2 v13_l2 h => ?_)
                  · refine Sub.trans (SubU.to (SubU.nilT (P := Try.prog) (t := 25) (n := 1) (enc := c_api_Value))) ?_
                    exact Sub.of_le (AF.le_put (AV.le_eq rfl) (AF.le_put (AV.le_eq rfl) (AF.le_put (AV.le_eq rfl) (AF.le_put (AV.le_eq rfl) (AF.le_put (AV.le_eq rfl) (AF.le_put (AV.le_eq rfl) (AF.le_put (AV.le_eq rfl) (AF.le_put (AV.le_eq rfl) (AF.le_top _)))))))))
                  · unfold m_ref9_walk_B2 at h
                    refine k_seq ?_
                    refine k_seq ?_
                    refine k_reg .free hmixP (by kernel_rfl) ?_
                    refine G_q rfl (op_move (av := .exact (.int .i64 x14_l2)) rfl ?_)
                    refine G_q rfl (op_move (av := .exact (.int .i64 (bOr .i64 (i64 ((UInt8.toNat (gi a0 1) : Int) * 2 ^ min (Int.toNat 8) IntKind.i64.bits)) (UInt8.toNat (gi a0 2) : Int)))) rfl ?_)
                    refine G_q rfl (op_lss rfl rfl ?_)
                    refine G_nil ?_
                    refine kC_normal ?_
                    refine k_cond_d (p := x14_l2 < (bOr .i64 (i64 ((UInt8.toNat (gi a0 1) : Int) * 2 ^ min (Int.toNat 8) IntKind.i64.bits)) (UInt8.toNat (gi a0 2) : Int))) rfl (fun hc => ?_) (fun hc => ?_)
                    · replace h := ite_t h hc
                      refine k_skip ?_
                      refine kC_normal ?_
                      refine k_seq ?_
                      refine k_block ?_
                      refine k_seq ?_
                      refine k_reg .free hmixP (by kernel_rfl) ?_
                      refine G_q rfl (op_move (av := .exact (.string (bs a0))) rfl ?_)
                      refine G_q rfl (op_move (av := .exact (.int .i64 x11_l2)) rfl ?_)
                      obtain ⟨n40, h⟩ := need_some h
                      refine G_q rfl (op_slice_strd (by kernel_rfl) rfl (bnd_some rfl) bnd_none n40.1 n40.2 (Int.le_refl _) ?_)
                      refine G_q rfl (op_move (av := .exact (.int .i64 a1)) rfl ?_)
                      refine G_q rfl (op_sub rfl rfl rfl ?_)
                      refine G_q rfl (op_move (av := .exact (.bool a2)) rfl ?_)
                      obtain ⟨y41, hy41, h⟩ := bnd1_some h
                      refine G_q rfl (op_pure (hself_ref9_walk _ _ _ _ hy41) Try.func44 (by kernel_rfl) (LEs.cons (AV.le_eq rfl) (LEs.cons (AV.le_eq rfl) (LEs.cons (AV.le_eq rfl) LEs.nil))) ?_)
                      refine G_q rfl (op_move (av := .tup [.exact (.int .i64 y41.1), .row 1 c_api_Value y41.2.1, .exact (.int .i64 y41.2.2)]) rfl ?_)
                      refine G_q rfl (op_extract (av := .exact (.int .i64 y41.1)) rfl rfl ?_)
                      refine G_q rfl (op_extract (av := .row 1 c_api_Value y41.2.1) rfl rfl ?_)
                      refine G_q rfl (op_extract (av := .exact (.int .i64 y41.2.2)) rfl rfl ?_)
                      refine G_q rfl (op_assign (av := .exact (.int .i64 y41.1)) rfl ?_)
                      refine G_q rfl (op_assign (av := .row 1 c_api_Value y41.2.1) rfl ?_)
                      refine G_q rfl (op_assign (av := .exact (.int .i64 y41.2.2)) rfl ?_)
                      refine G_nil ?_
                      refine kC_normal ?_
                      refine k_seq ?_
                      refine k_seq ?_
                      refine k_reg .free hmixP (by kernel_rfl) ?_
                      refine G_q rfl (op_move (av := .exact (.int .i64 y41.1)) rfl ?_)
                      refine G_q rfl (op_eql rfl rfl ?_)
                      refine G_nil ?_
                      refine kC_normal ?_
                      refine k_cond_d (p := y41.1 = 0) rfl (fun hc => ?_) (fun hc => ?_)
                      · replace h := ite_t h hc
                        refine k_seq ?_
                        refine k_reg .free hmixP (by kernel_rfl) ?_
                        refine G_q rfl (op_assign (av := .exact (.int .i64 0)) rfl ?_)
                        refine G_q rfl (op_assign (av := .exact (.slice none 0 0)) rfl ?_)
                        refine G_q rfl (op_assign (av := .exact (.int .i64 0)) rfl ?_)
                        refine G_nil ?_
                        refine kC_normal ?_
                        refine k_ret ?_
                        refine kC_ret ?_
                        refine kB_ret ?_
                        refine kC_ret ?_
                        refine kI_ret ?_
                        refine kB_ret ?_
                        refine kI_ret ?_
                        obtain rfl := Option.some.inj h
                        refine kP_any (endN (af' := (AF.put (AF.put (AF.put AF0 (some 6) (.exact (.int .i64 0))) (some 7) (.row 1 c_api_Value [])) (some 8) (.exact (.int .i64 0)))) (σ' := []) _ rfl ?_ ⟨rfl, rfl⟩)
                        refine Sub.trans (SubU.to SubU.drop) ?_
                        exact Sub.of_le (AF.le_put (AV.le_eq rfl) (AF.le_put (row_nil (by decide)) (AF.le_put (AV.le_eq rfl) (AF.le_top _))))
                      · replace h := ite_f h hc
                        refine k_skip ?_
                        refine kC_normal ?_
                        refine k_seq ?_
                        refine k_reg .free hmixP (by kernel_rfl) ?_
                        refine G_q rfl (op_move (av := .exact v13_l2) rfl ?_)
                        refine G_q rfl (op_move (av := .exact (.string (bs a0))) rfl ?_)
                        refine G_q rfl (op_move (av := .exact (.int .i64 x11_l2)) rfl ?_)
                        refine G_q rfl (op_move (av := .exact (.int .i64 x11_l2)) rfl ?_)
                        refine G_q rfl (op_move (av := .exact (.int .i64 y41.1)) rfl ?_)
                        refine G_q rfl (op_add rfl rfl rfl ?_)
                        obtain ⟨n42, h⟩ := need_some h
                        refine G_q rfl (op_slice_str (by kernel_rfl) rfl (bnd_some rfl) (bnd_some rfl) n42.1 n42.2.1 n42.2.2 ?_)
                        refine G_q rfl (op_litT (n := 1) (enc := c_api_Value) [List.take (Int.toNat (i64 (x11_l2 + y41.1)) - Int.toNat x11_l2) (List.drop (Int.toNat x11_l2) a0)] (CellsAll.cons rfl CellsOf.str CellsAll.nil) rfl (by kernel_rfl) (LEss.cons (LEs.cons (AV.le_eq rfl) LEs.nil) LEss.nil) ?_)
                        obtain ⟨n43, h⟩ := need_some h
                        refine G_l rfl (op_appT (by kernel_rfl) rfl rfl oc_c_api_Value n43 (fun v44 => ?_))
                        refine G_q rfl (op_assign (av := .exact v44) rfl ?_)
                        refine G_nil ?_
                        refine kC_normal ?_
                        refine k_seq ?_
                        refine k_reg .free hmixP (by kernel_rfl) ?_
                        refine G_q rfl (op_move (av := .exact (.int .i64 x11_l2)) rfl ?_)
                        refine G_q rfl (op_move (av := .exact (.int .i64 y41.1)) rfl ?_)
                        refine G_q rfl (op_add rfl rfl rfl ?_)
                        refine G_q rfl (op_assign (av := .exact (.int .i64 (i64 (x11_l2 + y41.1)))) rfl ?_)
                        refine G_nil ?_
                        refine kC_normal ?_
                        refine k_reg .free hmixP (by kernel_rfl) ?_
                        refine G_q rfl (op_move (av := .exact (.int .i64 x12_l2)) rfl ?_)
                        refine G_q rfl (op_move (av := .exact (.int .i64 y41.2.2)) rfl ?_)
                        refine G_q rfl (op_max rfl rfl ?_)
                        refine G_q rfl (op_assign (av := .exact (.int .i64 (max x12_l2 y41.2.2))) rfl ?_)
                        refine G_nil ?_
                        refine kB_normal ?_
                        refine kC_normal ?_
                        refine k_reg .free hmixP (by kernel_rfl) ?_
                        refine G_q rfl (op_move (av := .exact (.int .i64 x14_l2)) rfl ?_)
                        refine G_q rfl (op_add rfl rfl rfl ?_)
                        refine G_q rfl (op_assign (av := .exact (.int .i64 (i64 (x14_l2 + 1)))) rfl ?_)
                        refine G_nil ?_
                        refine kI_normal ⟨_, _, _, _, v44, h, ?_⟩
                        exact Sub.of_le (AF.le_put (AV.le_eq rfl) (AF.le_put (AV.le_eq rfl) (AF.le_put (AV.le_eq rfl) (AF.le_put (AV.le_eq rfl) (AF.le_put (AV.le_eq rfl) (AF.le_put (AV.le_eq rfl) (AF.le_put (AV.le_eq rfl) (AF.le_put (AV.le_eq rfl) (AF.le_top _)))))))))
                    · replace h := ite_f h hc
                      refine k_exit ?_
                      refine kC_exit ?_
                      refine kI_exit ?_
                      refine kB_exit ?_
                      refine kI_normal ⟨_, _, _, v13_l2, h, ?_⟩
                      exact Sub.of_le (AF.le_put (AV.le_eq rfl) (AF.le_put (AV.le_eq rfl) (AF.le_put (AV.le_eq rfl) (AF.le_put (AV.le_eq rfl) (AF.le_put (AV.le_eq rfl) (AF.le_top _))))))
                · refine k_seq ?_
                  refine k_join2_0 h (fun (x13_j51 : List (List UInt8)) (x104_j51 : Bool) => (AF.put (AF.put (AF.put (AF.put AF0 (some 11) (.exact (.int .i64 x11_j13))) (some 12) (.exact (.int .i64 x12_j13))) (some 13) (.row 1 c_api_Value x13_j51)) (some 104) (.exact (.bool x104_j51)))) (fun (x13_j51 : List (List UInt8)) (x104_j51 : Bool) => []) (fun k51 h => ?_) (fun x13_j51 x104_j51 h => ?_)
                  · refine k_reg .free hmixP (by kernel_rfl) ?_
                    refine G_q rfl (op_move (av := .exact (.bool a2)) rfl ?_)
                    refine G_q rfl (op_move (av := .exact (.bool a2)) rfl ?_)
                    refine G_splitB (c := a2) 97 rfl (fun hc => ?_) (fun hc => ?_)
                    · replace h := ite_t h hc
                      refine Gy_q rfl rfl rfl (op_move (av := .exact (.string (bs a0))) rfl ?_)
                      obtain ⟨n54, h⟩ := need_some h
                      refine Gy_q rfl rfl rfl (op_index_str (by kernel_rfl) rfl rfl n54.1 n54.2 ?_)
                      refine Gy_q rfl rfl rfl (op_convInt (k := .i64) (r := (UInt8.toNat (gi a0 0) : Int)) (by kernel_rfl) rfl (wrap_u8 rfl _) ?_)
                      refine Gy_q rfl rfl rfl (op_move (av := .exact v13_j13) rfl ?_)
                      refine G_sub rfl (SubU.freezeT2 (s1 := 13) (s2 := 101) rfl rfl len_c_api_Value) ?_
                      obtain ⟨y55, hy55, h⟩ := bnd1_some h
                      refine Gy_q rfl rfl rfl (op_pure (m_ref9_parted_ok self_ref9_walk hself_ref9_walk self_ref9_order hself_ref9_order _ _ _ hy55) Try.func59 (by kernel_rfl) (LEs.cons (AV.le_eq rfl) (LEs.cons (AV.le_eq rfl) LEs.nil)) ?_)
                      refine Gy_q rfl rfl rfl (op_not rfl ?_)
                      refine G_q rfl (op_pick_t rfl (av := .exact (.bool (!y55))) rfl ?_)
                      refine G_nil ?_
                      refine kI_normal ⟨_, _, h, ?_⟩
                      exact Sub.of_le (AF.le_put (AV.le_eq rfl) (AF.le_put (AV.le_eq rfl) (AF.le_put (AV.le_eq rfl) (AF.le_put (AV.le_eq rfl) (AF.le_top _)))))
                    · replace h := ite_f h hc
                      refine G_n rfl rfl ?_
                      refine G_n rfl rfl ?_
                      refine G_n rfl rfl ?_
                      refine G_n rfl rfl ?_
                      refine G_n rfl rfl ?_
                      refine G_n rfl rfl ?_
                      refine G_q rfl (op_pick_f rfl (av := .exact (.bool false)) rfl ?_)
                      refine G_nil ?_
                      refine kI_normal ⟨_, _, h, ?_⟩
                      refine Sub.trans (SubU.to (SubU.freezeT (s := 13) rfl len_c_api_Value)) ?_
                      exact Sub.of_le (AF.le_put (AV.le_eq rfl) (AF.le_put (AV.le_eq rfl) (AF.le_put (AV.le_eq rfl) (AF.le_put (AV.le_eq rfl) (AF.le_top _)))))
                  · refine k_cond_b (c := x104_j51) rfl (fun hc => ?_) (fun hc => ?_)
                    · replace h := ite_t h hc
                      refine k_seq ?_
                      refine k_reg .free hmixP (by kernel_rfl) ?_
                      refine G_q rfl (op_assign (av := .exact (.int .i64 0)) rfl ?_)
                      refine G_q rfl (op_assign (av := .exact (.slice none 0 0)) rfl ?_)
                      refine G_q rfl (op_assign (av := .exact (.int .i64 0)) rfl ?_)
                      refine G_nil ?_
                      refine kC_normal ?_
                      refine k_ret ?_
                      refine kC_ret ?_
                      obtain rfl := Option.some.inj h
                      refine kP_any (endN (af' := (AF.put (AF.put (AF.put AF0 (some 6) (.exact (.int .i64 0))) (some 7) (.row 1 c_api_Value [])) (some 8) (.exact (.int .i64 0)))) (σ' := []) _ rfl ?_ ⟨rfl, rfl⟩)
                      exact Sub.of_le (AF.le_put (AV.le_eq rfl) (AF.le_put (row_nil (by decide)) (AF.le_put (AV.le_eq rfl) (AF.le_top _))))
                    · replace h := ite_f h hc
                      refine k_skip ?_
                      refine kC_normal ?_
                      refine k_seq ?_
                      refine k_reg .free hmixP (by kernel_rfl) ?_
                      refine G_q rfl (op_move (av := .exact (.int .i64 x11_j13)) rfl ?_)
                      refine G_q rfl (op_move (av := .row 1 c_api_Value x13_j51) rfl ?_)
                      refine G_q rfl (op_move (av := .exact (.int .i64 x12_j13)) rfl ?_)
                      refine G_q rfl (op_add rfl rfl rfl ?_)
                      refine G_q rfl (op_assign (av := .exact (.int .i64 x11_j13)) rfl ?_)
                      refine G_q rfl (op_assign (av := .row 1 c_api_Value x13_j51) rfl ?_)
                      refine G_q rfl (op_assign (av := .exact (.int .i64 (i64 (x12_j13 + 1)))) rfl ?_)
                      refine G_nil ?_
                      refine kC_normal ?_
                      refine k_ret ?_
                      obtain rfl := Option.some.inj h
                      refine kP_any (endN (af' := (AF.put (AF.put (AF.put AF0 (some 6) (.exact (.int .i64 x11_j13))) (some 7) (.row 1 c_api_Value x13_j51)) (some 8) (.exact (.int .i64 (i64 (x12_j13 + 1)))))) (σ' := []) _ rfl ?_ ⟨rfl, rfl⟩)
                      exact Sub.of_le (AF.le_put (AV.le_eq rfl) (AF.le_put (AV.le_eq rfl) (AF.le_put (AV.le_eq rfl) (AF.le_top _))))
set_option maxHeartbeats 4000000 in
theorem m_ref9_sign_ok (a0 : Bool) (a1 : Bool) (r : Int) (h : m_ref9_sign a0 a1 = some r) : Pure Try.prog 82 [(.exact (.bool a0)), (.exact (.bool a1))] (.exact (.int .i64 r)) := by
  unfold m_ref9_sign at h
  refine Pure.ofFun (fun_of_awp Try.func82 rfl Try.ntmps82 (by simp) rfl (res1 rfl) fun E hE => k_end ?_)
  refine k_seq ?_
  refine k_reg .free hmixP (by kernel_rfl) ?_
  refine G_q rfl (op_assign (av := .exact (.int .i64 0)) rfl ?_)
  refine G_nil ?_
  refine kC_normal ?_
  refine k_seq ?_
  refine k_block ?_
  refine k_seq ?_
  refine k_reg .free hmixP (by kernel_rfl) ?_
  refine G_q rfl (op_move (av := .exact (.bool a0)) rfl ?_)
  refine G_q rfl (op_assign (av := .exact (.bool a0)) rfl ?_)
  refine G_nil ?_
  refine kC_normal ?_
  refine k_cond_b (c := a0) rfl (fun hc => ?_) (fun hc => ?_)
  · replace h := ite_t h hc
    refine k_seq ?_
    refine k_reg .free hmixP (by kernel_rfl) ?_
    refine G_q rfl (op_assign (av := .exact (.int .i64 (-1))) rfl ?_)
    refine G_nil ?_
    refine kC_normal ?_
    refine k_ret ?_
    refine kB_ret ?_
    refine kC_ret ?_
    obtain rfl := Option.some.inj h
    refine kP_any (endN (af' := (AF.put AF0 (some 4) (.exact (.int .i64 (-1))))) (σ' := []) _ rfl ?_ ⟨rfl, rfl⟩)
    exact Sub.of_le (AF.le_put (AV.le_eq rfl) (AF.le_top _))
  · replace h := ite_f h hc
    refine k_seq ?_
    refine k_reg .free hmixP (by kernel_rfl) ?_
    refine G_q rfl (op_move (av := .exact (.bool a1)) rfl ?_)
    refine G_q rfl (op_assign (av := .exact (.bool a1)) rfl ?_)
    refine G_nil ?_
    refine kC_normal ?_
    refine k_cond_b (c := a1) rfl (fun hc => ?_) (fun hc => ?_)
    · replace h := ite_t h hc
      refine k_seq ?_
      refine k_reg .free hmixP (by kernel_rfl) ?_
      refine G_q rfl (op_assign (av := .exact (.int .i64 1)) rfl ?_)
      refine G_nil ?_
      refine kC_normal ?_
      refine k_ret ?_
      refine kB_ret ?_
      refine kC_ret ?_
      obtain rfl := Option.some.inj h
      refine kP_any (endN (af' := (AF.put AF0 (some 4) (.exact (.int .i64 1)))) (σ' := []) _ rfl ?_ ⟨rfl, rfl⟩)
      exact Sub.of_le (AF.le_put (AV.le_eq rfl) (AF.le_top _))
    · replace h := ite_f h hc
      refine k_skip ?_
      refine kB_normal ?_
      refine kC_normal ?_
      refine k_seq ?_
      refine k_reg .free hmixP (by kernel_rfl) ?_
      refine G_q rfl (op_assign (av := .exact (.int .i64 0)) rfl ?_)
      refine G_nil ?_
      refine kC_normal ?_
      refine k_ret ?_
      obtain rfl := Option.some.inj h
      refine kP_any (endN (af' := (AF.put AF0 (some 4) (.exact (.int .i64 0)))) (σ' := []) _ rfl ?_ ⟨rfl, rfl⟩)
      exact Sub.of_le (AF.le_put (AV.le_eq rfl) (AF.le_top _))
set_option maxHeartbeats 4000000 in
theorem m_ref9_order_F_ok (self_ref9_walk : (List UInt8) → Int → Bool → Option (Int × (List (List UInt8)) × Int)) (hself_ref9_walk : ∀ (a0 : List UInt8) (a1 : Int) (a2 : Bool) (r : Int × (List (List UInt8)) × Int), self_ref9_walk a0 a1 a2 = some r → Pure Try.prog 44 [(.exact (.string (bs a0))), (.exact (.int .i64 a1)), (.exact (.bool a2))] (.tup [.exact (.int .i64 r.1), .row 1 c_api_Value r.2.1, .exact (.int .i64 r.2.2)])) (self_ref9_order : (List UInt8) → (List UInt8) → Option Int) (hself_ref9_order : ∀ (a0 : List UInt8) (a1 : List UInt8) (r : Int), self_ref9_order a0 a1 = some r → Pure Try.prog 74 [(.exact (.string (bs a0))), (.exact (.string (bs a1)))] (.exact (.int .i64 r))) (a0 : List UInt8) (a1 : List UInt8) (r : Int) (h : m_ref9_order_F self_ref9_walk self_ref9_order a0 a1 = some r) : Pure Try.prog 74 [(.exact (.string (bs a0))), (.exact (.string (bs a1)))] (.exact (.int .i64 r)) := by
  unfold m_ref9_order_F at h
  refine Pure.ofFun (fun_of_awp Try.func74 rfl Try.ntmps74 (by simp) rfl (res1 rfl) fun E hE => k_end ?_)
  refine k_seq ?_
  refine k_reg .free hmixP (by kernel_rfl) ?_
  refine G_q rfl (op_assign (av := .exact (.int .i64 0)) rfl ?_)
  refine G_nil ?_
  refine kC_normal ?_
  refine k_seq ?_
  refine k_block ?_
  refine k_seq ?_
  refine k_reg .free hmixP (by kernel_rfl) ?_
  refine G_q rfl (op_move (av := .exact (.string (bs a0))) rfl ?_)
  refine G_q rfl (op_move (av := .exact (.string (bs a1))) rfl ?_)
  refine G_q rfl (op_eqlS rfl rfl ?_)
  refine G_q rfl (op_assign (av := .exact (.bool (decide (a0 = a1)))) rfl ?_)
  refine G_nil ?_
  refine kC_normal ?_
  refine k_cond_d (p := a0 = a1) rfl (fun hc => ?_) (fun hc => ?_)
  · replace h := ite_t h hc
    refine k_seq ?_
    refine k_reg .free hmixP (by kernel_rfl) ?_
    refine G_q rfl (op_assign (av := .exact (.int .i64 0)) rfl ?_)
    refine G_nil ?_
    refine kC_normal ?_
    refine k_ret ?_
    refine kB_ret ?_
    refine kC_ret ?_
    obtain rfl := Option.some.inj h
    refine kP_any (endN (af' := (AF.put AF0 (some 4) (.exact (.int .i64 0)))) (σ' := []) _ rfl ?_ ⟨rfl, rfl⟩)
    exact Sub.of_le (AF.le_put (AV.le_eq rfl) (AF.le_top _))
  · replace h := ite_f h hc
    refine k_seq ?_
    refine k_plan [] [(0, 0), (0, 1), (0, 2), (0, 3), (0, 4), (0, 5)] hmixP (by kernel_rfl) ?_
    refine P_q no34_0 rfl (op_move (av := .exact (.string (bs a0))) rfl ?_)
    obtain ⟨n19, h⟩ := need_some h
    refine P_q no34_0 rfl (op_index_str (by kernel_rfl) rfl rfl n19.1 n19.2 ?_)
    refine P_q no34_0 rfl (op_move (av := .exact (.string (bs a1))) rfl ?_)
    obtain ⟨n20, h⟩ := need_some h
    refine P_q no34_0 rfl (op_index_str (by kernel_rfl) rfl rfl n20.1 n20.2 ?_)
    refine P_q no34_0 rfl (op_neqU (a := (gi a0 0)) (b := (gi a1 0)) rfl rfl ?_)
    refine P_q no34_0 rfl (op_assign (av := .exact (.bool (decide (¬ (gi a0 0) = (gi a1 0))))) rfl ?_)
    refine P_nil ?_
    refine kC_normal ?_
    refine k_cond_d (p := ¬ (gi a0 0) = (gi a1 0)) rfl (fun hc => ?_) (fun hc => ?_)
    · replace h := ite_t h hc
      refine k_seq ?_
      refine k_plan [] [(0, 0), (0, 1), (0, 2), (0, 3), (0, 4), (0, 5), (0, 6)] hmixP (by kernel_rfl) ?_
      refine P_q no34_0 rfl (op_move (av := .exact (.string (bs a0))) rfl ?_)
      obtain ⟨n21, h⟩ := need_some h
      refine P_q no34_0 rfl (op_index_str (by kernel_rfl) rfl rfl n21.1 n21.2 ?_)
      refine P_q no34_0 rfl (op_move (av := .exact (.string (bs a1))) rfl ?_)
      obtain ⟨n22, h⟩ := need_some h
      refine P_q no34_0 rfl (op_index_str (by kernel_rfl) rfl rfl n22.1 n22.2 ?_)
      refine P_q no34_0 rfl (op_lssU (a := (gi a0 0)) (b := (gi a1 0)) rfl rfl ?_)
      obtain ⟨y23, hy23, h⟩ := bnd1_some h
      refine P_q no34_0 rfl (op_pure (m_ref9_sign_ok _ _ _ hy23) Try.func82 (by kernel_rfl) (LEs.cons (AV.le_eq rfl) (LEs.cons (AV.le_eq rfl) LEs.nil)) ?_)
      refine P_q no34_0 rfl (op_assign (av := .exact (.int .i64 y23)) rfl ?_)
      refine P_nil ?_
      refine kC_normal ?_
      refine k_ret ?_
      refine kB_ret ?_
      refine kC_ret ?_
      obtain rfl := Option.some.inj h
      refine kP_any (endN (af' := (AF.put AF0 (some 4) (.exact (.int .i64 y23)))) (σ' := []) _ rfl ?_ ⟨rfl, rfl⟩)
      exact Sub.of_le (AF.le_put (AV.le_eq rfl) (AF.le_top _))
    · replace h := ite_f h hc
      refine k_seq ?_
      refine k_reg .free hmixP (by kernel_rfl) ?_
      refine G_q rfl (op_move (av := .exact (.string (bs a0))) rfl ?_)
      obtain ⟨n24, h⟩ := need_some h
      refine G_q rfl (op_index_str (by kernel_rfl) rfl rfl n24.1 n24.2 ?_)
      refine G_q rfl (op_convInt (k := .i64) (r := (UInt8.toNat (gi a0 0) : Int)) (by kernel_rfl) rfl (wrap_u8 rfl _) ?_)
      refine G_q rfl (op_eql rfl rfl ?_)
      refine G_q rfl (op_assign (av := .exact (.bool (decide ((UInt8.toNat (gi a0 0) : Int) = 1)))) rfl ?_)
      refine G_nil ?_
      refine kC_normal ?_
      refine k_cond_d (p := (UInt8.toNat (gi a0 0) : Int) = 1) rfl (fun hc => ?_) (fun hc => ?_)
      · replace h := ite_t h hc
        refine k_seq ?_
        refine k_plan [] [(0, 0), (0, 1), (0, 2), (0, 3), (0, 4), (0, 5), (0, 6), (0, 7)] hmixP (by kernel_rfl) ?_
        refine P_q no34_0 rfl (op_move (av := .exact (.string (bs a0))) rfl ?_)
        obtain ⟨n25, h⟩ := need_some h
        refine P_q no34_0 rfl (op_slice_strd (by kernel_rfl) rfl (bnd_some rfl) bnd_none (by decide) n25 (Int.le_refl _) ?_)
        obtain ⟨y26, hy26, h⟩ := bnd1_some h
        refine P_q no34_0 rfl (op_pure (m_ref9_number_ok _ _ hy26) Try.func75 (by kernel_rfl) (LEs.cons (AV.le_eq rfl) LEs.nil) ?_)
        refine P_q no34_0 rfl (op_move (av := .exact (.string (bs a1))) rfl ?_)
        obtain ⟨n27, h⟩ := need_some h
        refine P_q no34_0 rfl (op_slice_strd (by kernel_rfl) rfl (bnd_some rfl) bnd_none (by decide) n27 (Int.le_refl _) ?_)
        obtain ⟨y28, hy28, h⟩ := bnd1_some h
        refine P_q no34_0 rfl (op_pure (m_ref9_number_ok _ _ hy28) Try.func75 (by kernel_rfl) (LEs.cons (AV.le_eq rfl) LEs.nil) ?_)
        refine P_q no34_0 rfl (op_assign (av := .exact (.int .i64 y26)) rfl ?_)
        refine P_q no34_0 rfl (op_assign (av := .exact (.int .i64 y28)) rfl ?_)
        refine P_nil ?_
        refine kC_normal ?_
        refine k_seq ?_
        refine k_reg .free hmixP (by kernel_rfl) ?_
        refine G_q rfl (op_move (av := .exact (.int .i64 y26)) rfl ?_)
        refine G_q rfl (op_move (av := .exact (.int .i64 y28)) rfl ?_)
        refine G_q rfl (op_lss rfl rfl ?_)
        refine G_q rfl (op_move (av := .exact (.int .i64 y26)) rfl ?_)
        refine G_q rfl (op_move (av := .exact (.int .i64 y28)) rfl ?_)
        refine G_q rfl (op_gtr rfl rfl ?_)
        obtain ⟨y29, hy29, h⟩ := bnd1_some h
        refine G_q rfl (op_pure (m_ref9_sign_ok _ _ _ hy29) Try.func82 (by kernel_rfl) (LEs.cons (AV.le_eq rfl) (LEs.cons (AV.le_eq rfl) LEs.nil)) ?_)
        refine G_q rfl (op_assign (av := .exact (.int .i64 y29)) rfl ?_)
        refine G_nil ?_
        refine kC_normal ?_
        refine k_ret ?_
        refine kB_ret ?_
        refine kC_ret ?_
        obtain rfl := Option.some.inj h
        refine kP_any (endN (af' := (AF.put AF0 (some 4) (.exact (.int .i64 y29)))) (σ' := []) _ rfl ?_ ⟨rfl, rfl⟩)
        exact Sub.of_le (AF.le_put (AV.le_eq rfl) (AF.le_top _))
      · replace h := ite_f h hc
        refine k_join1_0 h (fun (x49_j30 : Bool) => (AF.put (AF.put (AF.put AF0 (some 0) (.exact (.string (bs a0)))) (some 1) (.exact (.string (bs a1)))) (some 49) (.exact (.bool x49_j30)))) (fun (x49_j30 : Bool) => []) (fun k30 h => ?_) (fun x49_j30 h => ?_)
        · refine k_reg .free hmixP (by kernel_rfl) ?_
          refine G_q rfl (op_move (av := .exact (.string (bs a0))) rfl ?_)
          obtain ⟨n33, h⟩ := need_some h
          refine G_q rfl (op_index_str (by kernel_rfl) rfl rfl n33.1 n33.2 ?_)
          refine G_q rfl (op_convInt (k := .i64) (r := (UInt8.toNat (gi a0 0) : Int)) (by kernel_rfl) rfl (wrap_u8 rfl _) ?_)
          refine G_q rfl (op_eql rfl rfl ?_)
          refine G_q rfl (op_move (av := .exact (.bool (decide ((UInt8.toNat (gi a0 0) : Int) = 2)))) rfl ?_)
          refine G_split (p := (UInt8.toNat (gi a0 0) : Int) = 2) 54 rfl (fun hc => ?_) (fun hc => ?_)
          · replace h := ite_t h hc
            refine G_n rfl rfl ?_
            refine G_n rfl rfl ?_
            refine G_n rfl rfl ?_
            refine G_n rfl rfl ?_
            refine G_q rfl (op_pick_t rfl (av := .exact (.bool true)) rfl ?_)
            refine G_q rfl (op_assign (av := .exact (.bool true)) rfl ?_)
            refine G_nil ?_
            refine kI_normal ⟨_, h, ?_⟩
            exact Sub.of_le (AF.le_put (AV.le_eq rfl) (AF.le_put (AV.le_eq rfl) (AF.le_put (AV.le_eq rfl) (AF.le_top _))))
          · replace h := ite_f h hc
            refine Gy_q rfl rfl rfl (op_move (av := .exact (.string (bs a0))) rfl ?_)
            obtain ⟨n34, h⟩ := need_some h
            refine Gy_q rfl rfl rfl (op_index_str (by kernel_rfl) rfl rfl n34.1 n34.2 ?_)
            refine Gy_q rfl rfl rfl (op_convInt (k := .i64) (r := (UInt8.toNat (gi a0 0) : Int)) (by kernel_rfl) rfl (wrap_u8 rfl _) ?_)
            refine Gy_q rfl rfl rfl (op_eql rfl rfl ?_)
            refine G_q rfl (op_pick_f rfl (av := .exact (.bool (decide ((UInt8.toNat (gi a0 0) : Int) = 10)))) rfl ?_)
            refine G_q rfl (op_assign (av := .exact (.bool (decide ((UInt8.toNat (gi a0 0) : Int) = 10)))) rfl ?_)
            refine G_nil ?_
            refine kI_normal ⟨_, h, ?_⟩
            exact Sub.of_le (AF.le_put (AV.le_eq rfl) (AF.le_put (AV.le_eq rfl) (AF.le_put (AV.le_eq rfl) (AF.le_top _))))
        · refine k_cond_b (c := x49_j30) rfl (fun hc => ?_) (fun hc => ?_)
          · replace h := ite_t h hc
            refine k_seq ?_
            refine k_reg .free hmixP (by kernel_rfl) ?_
            refine G_q rfl (op_move (av := .exact (.string (bs a0))) rfl ?_)
            refine G_q rfl (op_move (av := .exact (.string (bs a1))) rfl ?_)
            refine G_q rfl (op_lssS rfl rfl ?_)
            refine G_q rfl (op_move (av := .exact (.string (bs a0))) rfl ?_)
            refine G_q rfl (op_move (av := .exact (.string (bs a1))) rfl ?_)
            refine G_q rfl (op_gtrS rfl rfl ?_)
            obtain ⟨y35, hy35, h⟩ := bnd1_some h
            refine G_q rfl (op_pure (m_ref9_sign_ok _ _ _ hy35) Try.func82 (by kernel_rfl) (LEs.cons (AV.le_eq rfl) (LEs.cons (AV.le_eq rfl) LEs.nil)) ?_)
            refine G_q rfl (op_assign (av := .exact (.int .i64 y35)) rfl ?_)
            refine G_nil ?_
            refine kC_normal ?_
            refine k_ret ?_
            refine kB_ret ?_
            refine kC_ret ?_
            obtain rfl := Option.some.inj h
            refine kP_any (endN (af' := (AF.put AF0 (some 4) (.exact (.int .i64 y35)))) (σ' := []) _ rfl ?_ ⟨rfl, rfl⟩)
            exact Sub.of_le (AF.le_put (AV.le_eq rfl) (AF.le_top _))
          · replace h := ite_f h hc
            refine k_skip ?_
            refine kB_normal ?_
            refine kC_normal ?_
            refine k_seq ?_
            refine k_reg .free hmixP (by kernel_rfl) ?_
            refine G_q rfl (op_move (av := .exact (.string (bs a0))) rfl ?_)
            obtain ⟨y36, hy36, h⟩ := bnd1_some h
            refine G_q rfl (op_pure (hself_ref9_walk _ _ _ _ hy36) Try.func44 (by kernel_rfl) (LEs.cons (AV.le_eq rfl) (LEs.cons (AV.le_eq rfl) (LEs.cons (AV.le_eq rfl) LEs.nil))) ?_)
            refine G_q rfl (op_move (av := .tup [.exact (.int .i64 y36.1), .row 1 c_api_Value y36.2.1, .exact (.int .i64 y36.2.2)]) rfl ?_)
            refine G_q rfl (op_extract (av := .exact (.int .i64 y36.1)) rfl rfl ?_)
            refine G_q rfl (op_extract (av := .row 1 c_api_Value y36.2.1) rfl rfl ?_)
            refine G_q rfl (op_extract (av := .exact (.int .i64 y36.2.2)) rfl rfl ?_)
            refine G_q rfl (op_assign (av := .exact (.int .i64 y36.1)) rfl ?_)
            refine G_q rfl (op_assign (av := .row 1 c_api_Value y36.2.1) rfl ?_)
            refine G_q rfl (op_assign (av := .exact (.int .i64 y36.2.2)) rfl ?_)
            refine G_nil ?_
            refine kC_normal ?_
            refine k_seq ?_
            refine k_reg .free hmixP (by kernel_rfl) ?_
            refine G_q rfl (op_move (av := .exact (.string (bs a1))) rfl ?_)
            obtain ⟨y37, hy37, h⟩ := bnd1_some h
            refine G_q rfl (op_pure (hself_ref9_walk _ _ _ _ hy37) Try.func44 (by kernel_rfl) (LEs.cons (AV.le_eq rfl) (LEs.cons (AV.le_eq rfl) (LEs.cons (AV.le_eq rfl) LEs.nil))) ?_)
            refine G_q rfl (op_move (av := .tup [.exact (.int .i64 y37.1), .row 1 c_api_Value y37.2.1, .exact (.int .i64 y37.2.2)]) rfl ?_)
            refine G_q rfl (op_extract (av := .exact (.int .i64 y37.1)) rfl rfl ?_)
            refine G_q rfl (op_extract (av := .row 1 c_api_Value y37.2.1) rfl rfl ?_)
            refine G_q rfl (op_extract (av := .exact (.int .i64 y37.2.2)) rfl rfl ?_)
            refine G_q rfl (op_assign (av := .exact (.int .i64 y37.1)) rfl ?_)
            refine G_q rfl (op_assign (av := .row 1 c_api_Value y37.2.1) rfl ?_)
            refine G_q rfl (op_assign (av := .exact (.int .i64 y37.2.2)) rfl ?_)
            refine G_nil ?_
            refine kC_normal ?_
            refine k_join0_0 h ((AF.put (AF.put AF0 (some 8) (.row 1 c_api_Value y36.2.1)) (some 11) (.row 1 c_api_Value y37.2.1))) ([]) (fun k38 h => ?_) (fun  h => ?_)
            · refine k_seq ?_
              refine k_reg .free hmixP (by kernel_rfl) ?_
              refine G_q rfl (op_assign (av := .exact (.int .i64 0)) rfl ?_)
              refine G_nil ?_
              refine kC_normal ?_
              refine k_block ?_
              refine k_loop1_0 (m_ref9_order_L2 self_ref9_order y36 y37 k38) (m_ref9_order_B2 self_ref9_order y36 y37 k38) (fun _ => rfl) (fun m _ => rfl) h (fun (x13_l2 : Int) => (AF.put (AF.put (AF.put AF0 (some 8) (.row 1 c_api_Value y36.2.1)) (some 11) (.row 1 c_api_Value y37.2.1)) (some 13) (.exact (.int .i64 x13_l2)))) (fun (x13_l2 : Int) => []) ?_ (fun rec2 x13_l2 h => ?_)
              · exact Sub.of_le (AF.le_put (AV.le_eq rfl) (AF.le_put (AV.le_eq rfl) (AF.le_put (AV.le_eq rfl) (AF.le_top _))))
              · unfold m_ref9_order_B2 at h
                refine k_seq ?_
                refine k_join1_0 h (fun (x88_j72 : Bool) => (AF.put (AF.put (AF.put (AF.put AF0 (some 8) (.row 1 c_api_Value y36.2.1)) (some 11) (.row 1 c_api_Value y37.2.1)) (some 13) (.exact (.int .i64 x13_l2))) (some 88) (.exact (.bool x88_j72)))) (fun (x88_j72 : Bool) => []) (fun k72 h => ?_) (fun x88_j72 h => ?_)
                · refine k_reg .free hmixP (by kernel_rfl) ?_
                  refine G_q rfl (op_move (av := .exact (.int .i64 x13_l2)) rfl ?_)
                  refine G_q rfl (op_move (av := .row 1 c_api_Value y36.2.1) rfl ?_)
                  refine G_q rfl (op_len_row (by kernel_rfl) rfl ?_)
                  refine G_q rfl (op_lss rfl rfl ?_)
                  refine G_q rfl (op_move (av := .exact (.bool (decide (x13_l2 < (List.length y36.2.1 : Int))))) rfl ?_)
                  refine G_split (p := x13_l2 < (List.length y36.2.1 : Int)) 83 rfl (fun hc => ?_) (fun hc => ?_)
                  · replace h := ite_t h hc
                    refine Gy_q rfl rfl rfl (op_move (av := .exact (.int .i64 x13_l2)) rfl ?_)
                    refine Gy_q rfl rfl rfl (op_move (av := .row 1 c_api_Value y37.2.1) rfl ?_)
                    refine Gy_q rfl rfl rfl (op_len_row (by kernel_rfl) rfl ?_)
                    refine Gy_q rfl rfl rfl (op_lss rfl rfl ?_)
                    refine G_q rfl (op_pick_t rfl (av := .exact (.bool (decide (x13_l2 < (List.length y37.2.1 : Int))))) rfl ?_)
                    refine G_nil ?_
                    refine kI_normal ⟨_, h, ?_⟩
                    exact Sub.of_le (AF.le_put (AV.le_eq rfl) (AF.le_put (AV.le_eq rfl) (AF.le_put (AV.le_eq rfl) (AF.le_put (AV.le_eq rfl) (AF.le_top _)))))
                  · replace h := ite_f h hc
                    refine G_n rfl rfl ?_
                    refine G_n rfl rfl ?_
                    refine G_n rfl rfl ?_
                    refine G_n rfl rfl ?_
                    refine G_q rfl (op_pick_f rfl (av := .exact (.bool false)) rfl ?_)
                    refine G_nil ?_
                    refine kI_normal ⟨_, h, ?_⟩
                    exact Sub.of_le (AF.le_put (AV.le_eq rfl) (AF.le_put (AV.le_eq rfl) (AF.le_put (AV.le_eq rfl) (AF.le_put (AV.le_eq rfl) (AF.le_top _)))))
                · refine k_cond_b (c := x88_j72) rfl (fun hc => ?_) (fun hc => ?_)
                  · replace h := ite_t h hc
                    refine k_skip ?_
                    refine kC_normal ?_
                    refine k_seq ?_
                    refine k_block ?_
                    refine k_seq ?_
                    refine k_plan [] [(0, 0), (0, 1), (0, 2), (0, 3), (0, 4), (0, 5), (0, 6), (0, 7), (0, 8), (0, 9)] hmixP (by kernel_rfl) ?_
                    refine P_q no34_0 rfl (op_move (av := .row 1 c_api_Value y36.2.1) rfl ?_)
                    refine P_q no34_0 rfl (op_move (av := .exact (.int .i64 x13_l2)) rfl ?_)
                    obtain ⟨n73, h⟩ := need_some h
                    refine P_q no34_0 rfl (op_index_row (by kernel_rfl) rfl rfl n73.1 n73.2 ?_)
                    refine P_q no34_0 rfl (op_load1p (a := .exact (.string (bs (gi y36.2.1 x13_l2)))) (by kernel_rfl) rfl rfl ?_)
                    refine P_q no34_0 rfl (op_move (av := .row 1 c_api_Value y37.2.1) rfl ?_)
                    refine P_q no34_0 rfl (op_move (av := .exact (.int .i64 x13_l2)) rfl ?_)
                    obtain ⟨n74, h⟩ := need_some h
                    refine P_q no34_0 rfl (op_index_row (by kernel_rfl) rfl rfl n74.1 n74.2 ?_)
                    refine P_q no34_0 rfl (op_load1p (a := .exact (.string (bs (gi y37.2.1 x13_l2)))) (by kernel_rfl) rfl rfl ?_)
                    obtain ⟨y75, hy75, h⟩ := bnd1_some h
                    refine P_q no34_0 rfl (op_pure (hself_ref9_order _ _ _ hy75) Try.func74 (by kernel_rfl) (LEs.cons (AV.le_eq rfl) (LEs.cons (AV.le_eq rfl) LEs.nil)) ?_)
                    refine P_q no34_0 rfl (op_assign (av := .exact (.int .i64 y75)) rfl ?_)
                    refine P_nil ?_
                    refine kC_normal ?_
                    refine k_seq ?_
                    refine k_reg .free hmixP (by kernel_rfl) ?_
                    refine G_q rfl (op_move (av := .exact (.int .i64 y75)) rfl ?_)
                    refine G_q rfl (op_neq rfl rfl ?_)
                    refine G_nil ?_
                    refine kC_normal ?_
                    refine k_cond_d (p := ¬ y75 = 0) rfl (fun hc => ?_) (fun hc => ?_)
                    · replace h := ite_t h hc
                      refine k_seq ?_
                      refine k_reg .free hmixP (by kernel_rfl) ?_
                      refine G_q rfl (op_move (av := .exact (.int .i64 y75)) rfl ?_)
                      refine G_q rfl (op_assign (av := .exact (.int .i64 y75)) rfl ?_)
                      refine G_nil ?_
                      refine kC_normal ?_
                      refine k_ret ?_
                      refine kB_ret ?_
                      refine kC_ret ?_
                      refine kI_ret ?_
                      refine kB_ret ?_
                      refine kI_ret ?_
                      obtain rfl := Option.some.inj h
                      refine kP_any (endN (af' := (AF.put AF0 (some 4) (.exact (.int .i64 y75)))) (σ' := []) _ rfl ?_ ⟨rfl, rfl⟩)
                      exact Sub.of_le (AF.le_put (AV.le_eq rfl) (AF.le_top _))
                    · replace h := ite_f h hc
                      refine k_skip ?_
                      refine kB_normal ?_
                      refine kC_normal ?_
                      refine k_reg .free hmixP (by kernel_rfl) ?_
                      refine G_q rfl (op_move (av := .exact (.int .i64 x13_l2)) rfl ?_)
                      refine G_q rfl (op_add rfl rfl rfl ?_)
                      refine G_q rfl (op_assign (av := .exact (.int .i64 (i64 (x13_l2 + 1)))) rfl ?_)
                      refine G_nil ?_
                      refine kI_normal ⟨_, h, ?_⟩
                      exact Sub.of_le (AF.le_put (AV.le_eq rfl) (AF.le_put (AV.le_eq rfl) (AF.le_put (AV.le_eq rfl) (AF.le_top _))))
                  · replace h := ite_f h hc
                    refine k_exit ?_
                    refine kC_exit ?_
                    refine kI_exit ?_
                    refine kB_exit ?_
                    refine kI_normal ⟨h, ?_⟩
                    exact Sub.of_le (AF.le_put (AV.le_eq rfl) (AF.le_put (AV.le_eq rfl) (AF.le_top _)))
            · refine k_seq ?_
              refine k_reg .free hmixP (by kernel_rfl) ?_
              refine G_q rfl (op_move (av := .row 1 c_api_Value y36.2.1) rfl ?_)
              refine G_q rfl (op_len_row (by kernel_rfl) rfl ?_)
              refine G_q rfl (op_move (av := .row 1 c_api_Value y37.2.1) rfl ?_)
              refine G_q rfl (op_len_row (by kernel_rfl) rfl ?_)
              refine G_q rfl (op_lss rfl rfl ?_)
              refine G_q rfl (op_move (av := .row 1 c_api_Value y36.2.1) rfl ?_)
              refine G_q rfl (op_len_row (by kernel_rfl) rfl ?_)
              refine G_q rfl (op_move (av := .row 1 c_api_Value y37.2.1) rfl ?_)
              refine G_q rfl (op_len_row (by kernel_rfl) rfl ?_)
              refine G_q rfl (op_gtr rfl rfl ?_)
              obtain ⟨y76, hy76, h⟩ := bnd1_some h
              refine G_q rfl (op_pure (m_ref9_sign_ok _ _ _ hy76) Try.func82 (by kernel_rfl) (LEs.cons (AV.le_eq rfl) (LEs.cons (AV.le_eq rfl) LEs.nil)) ?_)
              refine G_q rfl (op_assign (av := .exact (.int .i64 y76)) rfl ?_)
              refine G_nil ?_
              refine kC_normal ?_
              refine k_ret ?_
              obtain rfl := Option.some.inj h
              refine kP_any (endN (af' := (AF.put AF0 (some 4) (.exact (.int .i64 y76)))) (σ' := []) _ rfl ?_ ⟨rfl, rfl⟩)
              exact Sub.of_le (AF.le_put (AV.le_eq rfl) (AF.le_top _))
set_option maxHeartbeats 4000000 in
theorem m_ref9_walk_S_ok : ∀ n : Nat, (∀ (a0 : List UInt8) (a1 : Int) (a2 : Bool) (r : Int × (List (List UInt8)) × Int), (m_ref9_walk_S n).1 a0 a1 a2 = some r → Pure Try.prog 44 [(.exact (.string (bs a0))), (.exact (.int .i64 a1)), (.exact (.bool a2))] (.tup [.exact (.int .i64 r.1), .row 1 c_api_Value r.2.1, .exact (.int .i64 r.2.2)])) ∧ (∀ (a0 : List UInt8) (a1 : List UInt8) (r : Int), (m_ref9_walk_S n).2 a0 a1 = some r → Pure Try.prog 74 [(.exact (.string (bs a0))), (.exact (.string (bs a1)))] (.exact (.int .i64 r)))
  | 0 => ⟨(fun _ _ _ _ h => by have h' : (none : Option _) = some _ := h; cases h'), (fun _ _ _ h => by have h' : (none : Option _) = some _ := h; cases h')⟩
  | n + 1 => by
    have ih := m_ref9_walk_S_ok n
    exact ⟨fun a0 a1 a2 r h => m_ref9_walk_F_ok (m_ref9_walk_S n).1 ih.1 (m_ref9_walk_S n).2 ih.2 a0 a1 a2 r h, fun a0 a1 r h => m_ref9_order_F_ok (m_ref9_walk_S n).1 ih.1 (m_ref9_walk_S n).2 ih.2 a0 a1 r h⟩
theorem m_ref9_walk_ok (a0 : List UInt8) (a1 : Int) (a2 : Bool) (r : Int × (List (List UInt8)) × Int) (h : m_ref9_walk a0 a1 a2 = some r) : Pure Try.prog 44 [(.exact (.string (bs a0))), (.exact (.int .i64 a1)), (.exact (.bool a2))] (.tup [.exact (.int .i64 r.1), .row 1 c_api_Value r.2.1, .exact (.int .i64 r.2.2)]) := (m_ref9_walk_S_ok FU).1 a0 a1 a2 r h
set_option maxHeartbeats 4000000 in
theorem m_ref9_read_ok (a0 : List UInt8) (a1 : Int) (r : Int × (List (List UInt8)) × Int) (h : m_ref9_read a0 a1 = some r) : Pure Try.prog 31 [(.exact (.string (bs a0))), (.exact (.int .i64 a1))] (.tup [.exact (.int .i64 r.1), .row 1 c_api_Value r.2.1, .exact (.int .i64 r.2.2)]) := by
  unfold m_ref9_read at h
  refine Pure.ofFun (fun_of_awp Try.func31 rfl Try.ntmps31 (by simp) rfl (res3 rfl) fun E hE => k_end ?_)
  refine k_seq ?_
  refine k_reg .free hmixP (by kernel_rfl) ?_
  refine G_q rfl (op_assign (av := .exact (.int .i64 0)) rfl ?_)
  refine G_q rfl (op_assign (av := .exact (.slice none 0 0)) rfl ?_)
  refine G_q rfl (op_assign (av := .exact (.int .i64 0)) rfl ?_)
  refine G_nil ?_
  refine kC_normal ?_
  refine k_seq ?_
  refine k_reg .free hmixP (by kernel_rfl) ?_
  refine G_q rfl (op_move (av := .exact (.string (bs a0))) rfl ?_)
  refine G_q rfl (op_move (av := .exact (.int .i64 a1)) rfl ?_)
  obtain ⟨y1, hy1, h⟩ := bnd1_some h
  refine G_q rfl (op_pure (m_ref9_walk_ok _ _ _ _ hy1) Try.func44 (by kernel_rfl) (LEs.cons (AV.le_eq rfl) (LEs.cons (AV.le_eq rfl) (LEs.cons (AV.le_eq rfl) LEs.nil))) ?_)
  refine G_q rfl (op_extract (av := .exact (.int .i64 y1.1)) rfl rfl ?_)
  refine G_q rfl (op_extract (av := .row 1 c_api_Value y1.2.1) rfl rfl ?_)
  refine G_q rfl (op_extract (av := .exact (.int .i64 y1.2.2)) rfl rfl ?_)
  refine G_q rfl (op_assign (av := .exact (.int .i64 y1.1)) rfl ?_)
  refine G_q rfl (op_assign (av := .row 1 c_api_Value y1.2.1) rfl ?_)
  refine G_q rfl (op_assign (av := .exact (.int .i64 y1.2.2)) rfl ?_)
  refine G_nil ?_
  refine kC_normal ?_
  refine k_ret ?_
  obtain rfl := Option.some.inj h
  refine kP_any (endN (af' := (AF.put (AF.put (AF.put AF0 (some 4) (.exact (.int .i64 y1.1))) (some 5) (.row 1 c_api_Value y1.2.1)) (some 6) (.exact (.int .i64 y1.2.2)))) (σ' := []) _ rfl ?_ ⟨rfl, rfl⟩)
  exact Sub.of_le (AF.le_put (AV.le_eq rfl) (AF.le_put (AV.le_eq rfl) (AF.le_put (AV.le_eq rfl) (AF.le_top _))))
end Go.Proofs.Ytpfdeahcjlfijaa
/- The functions compute their models, by program. -/
namespace Go.Proofs.Ytpfdeahcjlfijaa
open Go.RowKit
attribute [local irreducible] AV.exact AV.top AV.row AV.ptr AV.agg AV.tup AV.eptr AV.fn AV.nilq AV.nilqn opA opB opM opR Quiet Loud Reads wpG awp den Sub SubU Pure Fun vecI vecT boxI CellsAll CellsOf OneC LEs LEss
set_option maxRecDepth 100000

set_option maxHeartbeats 4000000 in
theorem m_ref9_Valid_ok (a0 : List UInt8) (r : Bool) (h : m_ref9_Valid a0 = some r) : Pure Try.prog 29 [(.exact (.string (bs a0)))] (.exact (.bool r)) := by
  unfold m_ref9_Valid at h
  refine Pure.ofFun (fun_of_awp Try.func29 rfl Try.ntmps29 (by simp) rfl (res1 rfl) fun E hE => k_end ?_)
  refine k_seq ?_
  refine k_reg .free hmixP (by kernel_rfl) ?_
  refine G_q rfl (op_assign (av := .exact (.bool false)) rfl ?_)
  refine G_nil ?_
  refine kC_normal ?_
  refine k_seq ?_
  refine k_seq ?_
  refine k_reg .free hmixP (by kernel_rfl) ?_
  refine G_q rfl (op_move (av := .exact (.string (bs a0))) rfl ?_)
  refine G_q rfl (op_lenS (by kernel_rfl) rfl ?_)
  refine G_q rfl (op_gtr rfl rfl ?_)
  refine G_nil ?_
  refine kC_normal ?_
  refine k_cond_d (p := 131072 < (List.length a0 : Int)) rfl (fun hc => ?_) (fun hc => ?_)
  · replace h := ite_t h hc
    refine k_seq ?_
    refine k_reg .free hmixP (by kernel_rfl) ?_
    refine G_q rfl (op_assign (av := .exact (.bool false)) rfl ?_)
    refine G_nil ?_
    refine kC_normal ?_
    refine k_ret ?_
    refine kC_ret ?_
    obtain rfl := Option.some.inj h
    refine kP_any (endN (af' := (AF.put AF0 (some 2) (.exact (.bool false)))) (σ' := []) _ rfl ?_ ⟨rfl, rfl⟩)
    exact Sub.of_le (AF.le_put (AV.le_eq rfl) (AF.le_top _))
  · replace h := ite_f h hc
    refine k_skip ?_
    refine kC_normal ?_
    refine k_seq ?_
    refine k_reg .free hmixP (by kernel_rfl) ?_
    refine G_q rfl (op_move (av := .exact (.string (bs a0))) rfl ?_)
    obtain ⟨y1, hy1, h⟩ := bnd1_some h
    refine G_q rfl (op_pure (m_ref9_read_ok _ _ _ hy1) Try.func31 (by kernel_rfl) (LEs.cons (AV.le_eq rfl) (LEs.cons (AV.le_eq rfl) LEs.nil)) ?_)
    refine G_q rfl (op_move (av := .tup [.exact (.int .i64 y1.1), .row 1 c_api_Value y1.2.1, .exact (.int .i64 y1.2.2)]) rfl ?_)
    refine G_q rfl (op_extract (av := .exact (.int .i64 y1.1)) rfl rfl ?_)
    refine G_q rfl (op_extract (av := .row 1 c_api_Value y1.2.1) rfl rfl ?_)
    refine G_q rfl (op_extract (av := .exact (.int .i64 y1.2.2)) rfl rfl ?_)
    refine G_q rfl (op_assign (av := .exact (.int .i64 y1.1)) rfl ?_)
    refine G_q rfl (op_assign (av := .row 1 c_api_Value y1.2.1) rfl ?_)
    refine G_q rfl (op_assign (av := .exact (.int .i64 y1.2.2)) rfl ?_)
    refine G_nil ?_
    refine kC_normal ?_
    refine k_join1_0 h (fun (x2_j2 : Bool) => (AF.put AF0 (some 2) (.exact (.bool x2_j2)))) (fun (x2_j2 : Bool) => []) (fun k2 h => ?_) (fun x2_j2 h => ?_)
    · refine k_reg .free hmixP (by kernel_rfl) ?_
      refine G_q rfl (op_move (av := .exact (.int .i64 y1.1)) rfl ?_)
      refine G_q rfl (op_gtr rfl rfl ?_)
      refine G_q rfl (op_move (av := .exact (.bool (decide (0 < y1.1)))) rfl ?_)
      refine G_split (p := 0 < y1.1) 17 rfl (fun hc => ?_) (fun hc => ?_)
      · replace h := ite_t h hc
        refine Gy_q rfl rfl rfl (op_move (av := .exact (.int .i64 y1.1)) rfl ?_)
        refine Gy_q rfl rfl rfl (op_move (av := .exact (.string (bs a0))) rfl ?_)
        refine Gy_q rfl rfl rfl (op_lenS (by kernel_rfl) rfl ?_)
        refine Gy_q rfl rfl rfl (op_eql rfl rfl ?_)
        refine G_q rfl (op_pick_t rfl (av := .exact (.bool (decide (y1.1 = (List.length a0 : Int))))) rfl ?_)
        refine G_q rfl (op_assign (av := .exact (.bool (decide (y1.1 = (List.length a0 : Int))))) rfl ?_)
        refine G_nil ?_
        refine kI_normal ⟨_, h, ?_⟩
        exact Sub.of_le (AF.le_put (AV.le_eq rfl) (AF.le_top _))
      · replace h := ite_f h hc
        refine G_n rfl rfl ?_
        refine G_n rfl rfl ?_
        refine G_n rfl rfl ?_
        refine G_n rfl rfl ?_
        refine G_q rfl (op_pick_f rfl (av := .exact (.bool false)) rfl ?_)
        refine G_q rfl (op_assign (av := .exact (.bool false)) rfl ?_)
        refine G_nil ?_
        refine kI_normal ⟨_, h, ?_⟩
        exact Sub.of_le (AF.le_put (AV.le_eq rfl) (AF.le_top _))
    · refine k_ret ?_
      obtain rfl := Option.some.inj h
      refine kP_any (endN (af' := (AF.put AF0 (some 2) (.exact (.bool x2_j2)))) (σ' := []) _ rfl ?_ ⟨rfl, rfl⟩)
      exact Sub.of_le (AF.le_put (AV.le_eq rfl) (AF.le_top _))
set_option maxHeartbeats 4000000 in
theorem m_ref9_all_ok (a0 : List (List UInt8)) (r : Bool) (h : m_ref9_all a0 = some r) : Pure Try.prog 15 [(.row 1 c_api_Value a0)] (.exact (.bool r)) := by
  unfold m_ref9_all at h
  refine Pure.ofFun (fun_of_awp Try.func15 rfl Try.ntmps15 (by simp) rfl (res1 rfl) fun E hE => k_end ?_)
  refine k_seq ?_
  refine k_reg .free hmixP (by kernel_rfl) ?_
  refine G_q rfl (op_assign (av := .exact (.bool false)) rfl ?_)
  refine G_nil ?_
  refine kC_normal ?_
  refine k_join0_0 h (AF0) ([]) (fun k1 h => ?_) (fun  h => ?_)
  · refine k_seq ?_
    refine k_reg .free hmixP (by kernel_rfl) ?_
    refine G_q rfl (op_assign (av := .exact (.int .i64 0)) rfl ?_)
    refine G_nil ?_
    refine kC_normal ?_
    refine k_block ?_
    refine k_loop1_0 (m_ref9_all_L2 a0 k1) (m_ref9_all_B2 a0 k1) (fun _ => rfl) (fun m _ => rfl) h (fun (x3_l2 : Int) => (AF.put (AF.put AF0 (some 0) (.row 1 c_api_Value a0)) (some 3) (.exact (.int .i64 x3_l2)))) (fun (x3_l2 : Int) => []) ?_ (fun rec2 x3_l2 h => ?_)
    · exact Sub.of_le (AF.le_put (AV.le_eq rfl) (AF.le_put (AV.le_eq rfl) (AF.le_top _)))
    · unfold m_ref9_all_B2 at h
      refine k_seq ?_
      refine k_seq ?_
      refine k_reg .free hmixP (by kernel_rfl) ?_
      refine G_q rfl (op_move (av := .exact (.int .i64 x3_l2)) rfl ?_)
      refine G_q rfl (op_move (av := .row 1 c_api_Value a0) rfl ?_)
      refine G_q rfl (op_len_row (by kernel_rfl) rfl ?_)
      refine G_q rfl (op_lss rfl rfl ?_)
      refine G_nil ?_
      refine kC_normal ?_
      refine k_cond_d (p := x3_l2 < (List.length a0 : Int)) rfl (fun hc => ?_) (fun hc => ?_)
      · replace h := ite_t h hc
        refine k_skip ?_
        refine kC_normal ?_
        refine k_seq ?_
        refine k_block ?_
        refine k_seq ?_
        refine k_reg .free hmixP (by kernel_rfl) ?_
        refine G_q rfl (op_move (av := .row 1 c_api_Value a0) rfl ?_)
        refine G_q rfl (op_move (av := .exact (.int .i64 x3_l2)) rfl ?_)
        obtain ⟨n13, h⟩ := need_some h
        refine G_q rfl (op_index_row (by kernel_rfl) rfl rfl n13.1 n13.2 ?_)
        refine G_q rfl (op_load1p (a := .exact (.string (bs (gi a0 x3_l2)))) (by kernel_rfl) rfl rfl ?_)
        obtain ⟨y14, hy14, h⟩ := bnd1_some h
        refine G_q rfl (op_pure (m_ref9_Valid_ok _ _ hy14) Try.func29 (by kernel_rfl) (LEs.cons (AV.le_eq rfl) LEs.nil) ?_)
        refine G_q rfl (op_not rfl ?_)
        refine G_nil ?_
        refine kC_normal ?_
        refine k_cond_b (c := !y14) rfl (fun hc => ?_) (fun hc => ?_)
        · replace h := ite_t h hc
          refine k_seq ?_
          refine k_reg .free hmixP (by kernel_rfl) ?_
          refine G_q rfl (op_assign (av := .exact (.bool false)) rfl ?_)
          refine G_nil ?_
          refine kC_normal ?_
          refine k_ret ?_
          refine kB_ret ?_
          refine kC_ret ?_
          refine kI_ret ?_
          refine kB_ret ?_
          refine kI_ret ?_
          obtain rfl := Option.some.inj h
          refine kP_any (endN (af' := (AF.put AF0 (some 2) (.exact (.bool false)))) (σ' := []) _ rfl ?_ ⟨rfl, rfl⟩)
          exact Sub.of_le (AF.le_put (AV.le_eq rfl) (AF.le_top _))
        · replace h := ite_f h hc
          refine k_skip ?_
          refine kB_normal ?_
          refine kC_normal ?_
          refine k_reg .free hmixP (by kernel_rfl) ?_
          refine G_q rfl (op_move (av := .exact (.int .i64 x3_l2)) rfl ?_)
          refine G_q rfl (op_add rfl rfl rfl ?_)
          refine G_q rfl (op_assign (av := .exact (.int .i64 (i64 (x3_l2 + 1)))) rfl ?_)
          refine G_nil ?_
          refine kI_normal ⟨_, h, ?_⟩
          exact Sub.of_le (AF.le_put (AV.le_eq rfl) (AF.le_put (AV.le_eq rfl) (AF.le_top _)))
      · replace h := ite_f h hc
        refine k_exit ?_
        refine kC_exit ?_
        refine kI_exit ?_
        refine kB_exit ?_
        refine kI_normal ⟨h, ?_⟩
        exact Sub.of_le (AF.le_top _)
  · refine k_seq ?_
    refine k_reg .free hmixP (by kernel_rfl) ?_
    refine G_q rfl (op_assign (av := .exact (.bool true)) rfl ?_)
    refine G_nil ?_
    refine kC_normal ?_
    refine k_ret ?_
    obtain rfl := Option.some.inj h
    refine kP_any (endN (af' := (AF.put AF0 (some 2) (.exact (.bool true)))) (σ' := []) _ rfl ?_ ⟨rfl, rfl⟩)
    exact Sub.of_le (AF.le_put (AV.le_eq rfl) (AF.le_top _))
set_option maxHeartbeats 4000000 in
theorem m_ref9_two_ok (a0 : Int) (r : (List UInt8)) (h : m_ref9_two a0 = some r) : Pure Try.prog 30 [(.exact (.int .i64 a0))] (.exact (.string (bs r))) := by
  unfold m_ref9_two at h
  refine Pure.ofFun (fun_of_awp Try.func30 rfl Try.ntmps30 (by simp) rfl (res1 rfl) fun E hE => k_end ?_)
  refine k_seq ?_
  refine k_reg .free hmixP (by kernel_rfl) ?_
  refine G_q rfl (op_assign (av := .exact (.string (bs ([] : List UInt8)))) rfl ?_)
  refine G_nil ?_
  refine kC_normal ?_
  refine k_seq ?_
  refine k_reg .free hmixP (by kernel_rfl) ?_
  refine G_q rfl (op_move (av := .exact (.int .i64 a0)) rfl ?_)
  refine G_q rfl (op_shr rfl rfl (by decide) rfl ?_)
  refine G_q rfl (op_convInt (k := .u8) (r := (UInt8.toNat (u8i (Int.fdiv a0 (2 ^ min (Int.toNat 8) IntKind.i64.bits))) : Int)) (by kernel_rfl) rfl (u8i_eq _) ?_)
  refine G_q rfl (op_move (av := .exact (.int .i64 a0)) rfl ?_)
  refine G_q rfl (op_convInt (k := .u8) (r := (UInt8.toNat (u8i a0) : Int)) (by kernel_rfl) rfl (u8i_eq _) ?_)
  refine G_q rfl (op_litT (n := 1) (enc := c_uint8) [u8i (Int.fdiv a0 (2 ^ min (Int.toNat 8) IntKind.i64.bits)), u8i a0] (CellsAll.cons rfl CellsOf.int (CellsAll.cons rfl CellsOf.int CellsAll.nil)) rfl (by kernel_rfl) (LEss.cons (LEs.cons (AV.le_eq rfl) LEs.nil) (LEss.cons (LEs.cons (AV.le_eq rfl) LEs.nil) LEss.nil)) ?_)
  refine G_q rfl (op_bytesS rfl (by kernel_rfl) rfl ?_)
  refine G_q rfl (op_assign (av := .exact (.string (bs [u8i (Int.fdiv a0 (2 ^ min (Int.toNat 8) IntKind.i64.bits)), u8i a0]))) rfl ?_)
  refine G_nil ?_
  refine kC_normal ?_
  refine k_ret ?_
  obtain rfl := Option.some.inj h
  refine kP_any (endN (af' := (AF.put AF0 (some 2) (.exact (.string (bs [u8i (Int.fdiv a0 (2 ^ min (Int.toNat 8) IntKind.i64.bits)), u8i a0]))))) (σ' := []) _ rfl ?_ ⟨rfl, rfl⟩)
  exact Sub.of_le (AF.le_put (AV.le_eq rfl) (AF.le_top _))
set_option maxHeartbeats 4000000 in
theorem m_ref9_checked_ok (a0 : List UInt8) (r : (List UInt8)) (h : m_ref9_checked a0 = some r) : Pure Try.prog 32 [(.exact (.string (bs a0)))] (.exact (.string (bs r))) := by
  unfold m_ref9_checked at h
  refine Pure.ofFun (fun_of_awp Try.func32 rfl Try.ntmps32 (by simp) rfl (res1 rfl) fun E hE => k_end ?_)
  refine k_seq ?_
  refine k_reg .free hmixP (by kernel_rfl) ?_
  refine G_q rfl (op_assign (av := .exact (.string (bs ([] : List UInt8)))) rfl ?_)
  refine G_nil ?_
  refine kC_normal ?_
  refine k_seq ?_
  refine k_seq ?_
  refine k_reg .free hmixP (by kernel_rfl) ?_
  refine G_q rfl (op_move (av := .exact (.string (bs a0))) rfl ?_)
  obtain ⟨y1, hy1, h⟩ := bnd1_some h
  refine G_q rfl (op_pure (m_ref9_Valid_ok _ _ hy1) Try.func29 (by kernel_rfl) (LEs.cons (AV.le_eq rfl) LEs.nil) ?_)
  refine G_nil ?_
  refine kC_normal ?_
  refine k_cond_b (c := y1) rfl (fun hc => ?_) (fun hc => ?_)
  · replace h := ite_t h hc
    refine k_seq ?_
    refine k_reg .free hmixP (by kernel_rfl) ?_
    refine G_q rfl (op_move (av := .exact (.string (bs a0))) rfl ?_)
    refine G_q rfl (op_assign (av := .exact (.string (bs a0))) rfl ?_)
    refine G_nil ?_
    refine kC_normal ?_
    refine k_ret ?_
    refine kC_ret ?_
    obtain rfl := Option.some.inj h
    refine kP_any (endN (af' := (AF.put AF0 (some 2) (.exact (.string (bs a0))))) (σ' := []) _ rfl ?_ ⟨rfl, rfl⟩)
    exact Sub.of_le (AF.le_put (AV.le_eq rfl) (AF.le_top _))
  · replace h := ite_f h hc
    refine k_skip ?_
    refine kC_normal ?_
    refine k_seq ?_
    refine k_reg .free hmixP (by kernel_rfl) ?_
    refine G_q rfl (op_assign (av := .exact (.string (bs ([] : List UInt8)))) rfl ?_)
    refine G_nil ?_
    refine kC_normal ?_
    refine k_ret ?_
    obtain rfl := Option.some.inj h
    refine kP_any (endN (af' := (AF.put AF0 (some 2) (.exact (.string (bs ([] : List UInt8)))))) (σ' := []) _ rfl ?_ ⟨rfl, rfl⟩)
    exact Sub.of_le (AF.le_put (AV.le_eq rfl) (AF.le_top _))
set_option maxHeartbeats 4000000 in
theorem m_ref9_compound_ok (a0 : Int) (a1 : List (List UInt8)) (r : (List UInt8)) (h : m_ref9_compound a0 a1 = some r) : Pure Try.prog 16 [(.exact (.int .i64 a0)), (.row 1 c_api_Value a1)] (.exact (.string (bs r))) := by
  unfold m_ref9_compound at h
  refine Pure.ofFun (fun_of_awp Try.func16 rfl Try.ntmps16 (by simp) rfl (res1 rfl) fun E hE => k_end ?_)
  refine k_seq ?_
  refine k_reg .free hmixP (by kernel_rfl) ?_
  refine G_q rfl (op_assign (av := .exact (.string (bs ([] : List UInt8)))) rfl ?_)
  refine G_nil ?_
  refine kC_normal ?_
  refine k_seq ?_
  refine k_seq ?_
  refine k_reg .free hmixP (by kernel_rfl) ?_
  refine G_q rfl (op_move (av := .row 1 c_api_Value a1) rfl ?_)
  refine G_q rfl (op_len_row (by kernel_rfl) rfl ?_)
  refine G_q rfl (op_gtr rfl rfl ?_)
  refine G_nil ?_
  refine kC_normal ?_
  refine k_cond_d (p := 65535 < (List.length a1 : Int)) rfl (fun hc => ?_) (fun hc => ?_)
  · replace h := ite_t h hc
    refine k_seq ?_
    refine k_reg .free hmixP (by kernel_rfl) ?_
    refine G_q rfl (op_assign (av := .exact (.string (bs ([] : List UInt8)))) rfl ?_)
    refine G_nil ?_
    refine kC_normal ?_
    refine k_ret ?_
    refine kC_ret ?_
    obtain rfl := Option.some.inj h
    refine kP_any (endN (af' := (AF.put AF0 (some 4) (.exact (.string (bs ([] : List UInt8)))))) (σ' := []) _ rfl ?_ ⟨rfl, rfl⟩)
    exact Sub.of_le (AF.le_put (AV.le_eq rfl) (AF.le_top _))
  · replace h := ite_f h hc
    refine k_skip ?_
    refine kC_normal ?_
    refine k_seq ?_
    refine k_plan [] [(0, 0), (0, 1), (0, 2), (0, 3), (0, 4), (0, 5), (0, 6), (0, 7), (0, 8)] hmixP (by kernel_rfl) ?_
    refine P_q no34_0 rfl (op_move (av := .exact (.int .i64 a0)) rfl ?_)
    refine P_q no34_0 rfl (op_convInt (k := .u8) (r := (UInt8.toNat (u8i a0) : Int)) (by kernel_rfl) rfl (u8i_eq _) ?_)
    refine P_q no34_0 rfl (op_litT (n := 1) (enc := c_uint8) [u8i a0] (CellsAll.cons rfl CellsOf.int CellsAll.nil) rfl (by kernel_rfl) (LEss.cons (LEs.cons (AV.le_eq rfl) LEs.nil) LEss.nil) ?_)
    refine P_q no34_0 rfl (op_bytesS rfl (by kernel_rfl) rfl ?_)
    refine P_q no34_0 rfl (op_move (av := .row 1 c_api_Value a1) rfl ?_)
    refine P_q no34_0 rfl (op_len_row (by kernel_rfl) rfl ?_)
    obtain ⟨y1, hy1, h⟩ := bnd1_some h
    refine P_q no34_0 rfl (op_pure (m_ref9_two_ok _ _ hy1) Try.func30 (by kernel_rfl) (LEs.cons (AV.le_eq rfl) LEs.nil) ?_)
    obtain ⟨n2, h⟩ := need_some h
    refine P_q no34_0 rfl (op_addS n2 rfl rfl ?_)
    refine P_q no34_0 rfl (op_assign (av := .exact (.string (bs ([u8i a0] ++ y1)))) rfl ?_)
    refine P_nil ?_
    refine kC_normal ?_
    refine k_join1_0 h (fun (x5_j3 : List UInt8) => (AF.put (AF.put AF0 (some 1) (.row 1 c_api_Value a1)) (some 5) (.exact (.string (bs x5_j3))))) (fun (x5_j3 : List UInt8) => []) (fun k3 h => ?_) (fun x5_j3 h => ?_)
    · refine k_seq ?_
      refine k_reg .free hmixP (by kernel_rfl) ?_
      refine G_q rfl (op_assign (av := .exact (.int .i64 0)) rfl ?_)
      refine G_nil ?_
      refine kC_normal ?_
      refine k_block ?_
      refine k_loop2_0 (m_ref9_compound_L2 a1 k3) (m_ref9_compound_B2 a1 k3) (fun _ _ => rfl) (fun m _ _ => rfl) h (fun (x5_l2 : List UInt8) (x6_l2 : Int) => (AF.put (AF.put (AF.put AF0 (some 1) (.row 1 c_api_Value a1)) (some 5) (.exact (.string (bs x5_l2)))) (some 6) (.exact (.int .i64 x6_l2)))) (fun (x5_l2 : List UInt8) (x6_l2 : Int) => []) ?_ (fun rec2 x5_l2 x6_l2 h => ?_)
      · exact Sub.of_le (AF.le_put (AV.le_eq rfl) (AF.le_put (AV.le_eq rfl) (AF.le_put (AV.le_eq rfl) (AF.le_top _))))
      · unfold m_ref9_compound_B2 at h
        refine k_seq ?_
        refine k_seq ?_
        refine k_reg .free hmixP (by kernel_rfl) ?_
        refine G_q rfl (op_move (av := .exact (.int .i64 x6_l2)) rfl ?_)
        refine G_q rfl (op_move (av := .row 1 c_api_Value a1) rfl ?_)
        refine G_q rfl (op_len_row (by kernel_rfl) rfl ?_)
        refine G_q rfl (op_lss rfl rfl ?_)
        refine G_nil ?_
        refine kC_normal ?_
        refine k_cond_d (p := x6_l2 < (List.length a1 : Int)) rfl (fun hc => ?_) (fun hc => ?_)
        · replace h := ite_t h hc
          refine k_skip ?_
          refine kC_normal ?_
          refine k_seq ?_
          refine k_block ?_
          refine k_seq ?_
          refine k_join1_0 h (fun (x36_j114 : Bool) => (AF.put (AF.put (AF.put (AF.put AF0 (some 1) (.row 1 c_api_Value a1)) (some 5) (.exact (.string (bs x5_l2)))) (some 6) (.exact (.int .i64 x6_l2))) (some 36) (.exact (.bool x36_j114)))) (fun (x36_j114 : Bool) => []) (fun k114 h => ?_) (fun x36_j114 h => ?_)
          · refine k_reg .free hmixP (by kernel_rfl) ?_
            refine G_q rfl (op_move (av := .row 1 c_api_Value a1) rfl ?_)
            refine G_q rfl (op_move (av := .exact (.int .i64 x6_l2)) rfl ?_)
            obtain ⟨n116, h⟩ := need_some h
            refine G_q rfl (op_index_row (by kernel_rfl) rfl rfl n116.1 n116.2 ?_)
            refine G_q rfl (op_load1p (a := .exact (.string (bs (gi a1 x6_l2)))) (by kernel_rfl) rfl rfl ?_)
            refine G_q rfl (op_eqlS rfl rfl ?_)
            refine G_q rfl (op_move (av := .exact (.bool (decide ((gi a1 x6_l2) = ([] : List UInt8))))) rfl ?_)
            refine G_split (p := (gi a1 x6_l2) = ([] : List UInt8)) 32 rfl (fun hc => ?_) (fun hc => ?_)
            · replace h := ite_t h hc
              refine G_n rfl rfl ?_
              refine G_n rfl rfl ?_
              refine G_n rfl rfl ?_
              refine G_q rfl (op_pick_t rfl (av := .exact (.bool true)) rfl ?_)
              refine G_nil ?_
              refine kI_normal ⟨_, h, ?_⟩
              exact Sub.of_le (AF.le_put (AV.le_eq rfl) (AF.le_put (AV.le_eq rfl) (AF.le_put (AV.le_eq rfl) (AF.le_put (AV.le_eq rfl) (AF.le_top _)))))
            · replace h := ite_f h hc
              refine Gy_q rfl rfl rfl (op_move (av := .exact (.string (bs x5_l2))) rfl ?_)
              refine Gy_q rfl rfl rfl (op_lenS (by kernel_rfl) rfl ?_)
              refine Gy_q rfl rfl rfl (op_gtr rfl rfl ?_)
              refine G_q rfl (op_pick_f rfl (av := .exact (.bool (decide (131072 < (List.length x5_l2 : Int))))) rfl ?_)
              refine G_nil ?_
              refine kI_normal ⟨_, h, ?_⟩
              exact Sub.of_le (AF.le_put (AV.le_eq rfl) (AF.le_put (AV.le_eq rfl) (AF.le_put (AV.le_eq rfl) (AF.le_put (AV.le_eq rfl) (AF.le_top _)))))
          · refine k_cond_b (c := x36_j114) rfl (fun hc => ?_) (fun hc => ?_)
            · replace h := ite_t h hc
              refine k_seq ?_
              refine k_reg .free hmixP (by kernel_rfl) ?_
              refine G_q rfl (op_assign (av := .exact (.string (bs ([] : List UInt8)))) rfl ?_)
              refine G_nil ?_
              refine kC_normal ?_
              refine k_ret ?_
              refine kC_ret ?_
              refine kB_ret ?_
              refine kC_ret ?_
              refine kI_ret ?_
              refine kB_ret ?_
              refine kI_ret ?_
              obtain rfl := Option.some.inj h
              refine kP_any (endN (af' := (AF.put AF0 (some 4) (.exact (.string (bs ([] : List UInt8)))))) (σ' := []) _ rfl ?_ ⟨rfl, rfl⟩)
              exact Sub.of_le (AF.le_put (AV.le_eq rfl) (AF.le_top _))
            · replace h := ite_f h hc
              refine k_skip ?_
              refine kC_normal ?_
              refine k_reg .free hmixP (by kernel_rfl) ?_
              refine G_q rfl (op_move (av := .exact (.string (bs x5_l2))) rfl ?_)
              refine G_q rfl (op_move (av := .row 1 c_api_Value a1) rfl ?_)
              refine G_q rfl (op_move (av := .exact (.int .i64 x6_l2)) rfl ?_)
              obtain ⟨n117, h⟩ := need_some h
              refine G_q rfl (op_index_row (by kernel_rfl) rfl rfl n117.1 n117.2 ?_)
              refine G_q rfl (op_load1p (a := .exact (.string (bs (gi a1 x6_l2)))) (by kernel_rfl) rfl rfl ?_)
              obtain ⟨n118, h⟩ := need_some h
              refine G_q rfl (op_addS n118 rfl rfl ?_)
              refine G_q rfl (op_assign (av := .exact (.string (bs (x5_l2 ++ (gi a1 x6_l2))))) rfl ?_)
              refine G_nil ?_
              refine kB_normal ?_
              refine kC_normal ?_
              refine k_reg .free hmixP (by kernel_rfl) ?_
              refine G_q rfl (op_move (av := .exact (.int .i64 x6_l2)) rfl ?_)
              refine G_q rfl (op_add rfl rfl rfl ?_)
              refine G_q rfl (op_assign (av := .exact (.int .i64 (i64 (x6_l2 + 1)))) rfl ?_)
              refine G_nil ?_
              refine kI_normal ⟨_, _, h, ?_⟩
              exact Sub.of_le (AF.le_put (AV.le_eq rfl) (AF.le_put (AV.le_eq rfl) (AF.le_put (AV.le_eq rfl) (AF.le_top _))))
        · replace h := ite_f h hc
          refine k_exit ?_
          refine kC_exit ?_
          refine kI_exit ?_
          refine kB_exit ?_
          refine kI_normal ⟨_, h, ?_⟩
          exact Sub.of_le (AF.le_put (AV.le_eq rfl) (AF.le_put (AV.le_eq rfl) (AF.le_top _)))
    · refine k_seq ?_
      refine k_seq ?_
      refine k_reg .free hmixP (by kernel_rfl) ?_
      refine G_q rfl (op_move (av := .exact (.string (bs x5_j3))) rfl ?_)
      obtain ⟨y122, hy122, h⟩ := bnd1_some h
      refine G_q rfl (op_pure (m_ref9_read_ok _ _ _ hy122) Try.func31 (by kernel_rfl) (LEs.cons (AV.le_eq rfl) (LEs.cons (AV.le_eq rfl) LEs.nil)) ?_)
      refine G_q rfl (op_move (av := .tup [.exact (.int .i64 y122.1), .row 1 c_api_Value y122.2.1, .exact (.int .i64 y122.2.2)]) rfl ?_)
      refine G_q rfl (op_extract (av := .exact (.int .i64 y122.1)) rfl rfl ?_)
      refine G_q rfl (op_extract (av := .row 1 c_api_Value y122.2.1) rfl rfl ?_)
      refine G_q rfl (op_extract (av := .exact (.int .i64 y122.2.2)) rfl rfl ?_)
      refine G_q rfl (op_assign (av := .exact (.int .i64 y122.1)) rfl ?_)
      refine G_q rfl (op_assign (av := .row 1 c_api_Value y122.2.1) rfl ?_)
      refine G_q rfl (op_assign (av := .exact (.int .i64 y122.2.2)) rfl ?_)
      refine G_nil ?_
      refine kC_normal ?_
      refine k_join1_0 h (fun (x59_j123 : Bool) => (AF.put (AF.put AF0 (some 5) (.exact (.string (bs x5_j3)))) (some 59) (.exact (.bool x59_j123)))) (fun (x59_j123 : Bool) => []) (fun k123 h => ?_) (fun x59_j123 h => ?_)
      · refine k_reg .free hmixP (by kernel_rfl) ?_
        refine G_q rfl (op_move (av := .exact (.int .i64 y122.1)) rfl ?_)
        refine G_q rfl (op_move (av := .exact (.string (bs x5_j3))) rfl ?_)
        refine G_q rfl (op_lenS (by kernel_rfl) rfl ?_)
        refine G_q rfl (op_neq rfl rfl ?_)
        refine G_q rfl (op_move (av := .exact (.bool (decide (¬ y122.1 = (List.length x5_j3 : Int))))) rfl ?_)
        refine G_split (p := ¬ y122.1 = (List.length x5_j3 : Int)) 53 rfl (fun hc => ?_) (fun hc => ?_)
        · replace h := ite_t h hc
          refine G_n rfl rfl ?_
          refine G_n rfl rfl ?_
          refine G_n rfl rfl ?_
          refine G_n rfl rfl ?_
          refine G_n rfl rfl ?_
          refine G_q rfl (op_pick_t rfl (av := .exact (.bool true)) rfl ?_)
          refine G_nil ?_
          refine kI_normal ⟨_, h, ?_⟩
          exact Sub.of_le (AF.le_put (AV.le_eq rfl) (AF.le_put (AV.le_eq rfl) (AF.le_top _)))
        · replace h := ite_f h hc
          refine Gy_q rfl rfl rfl (op_move (av := .row 1 c_api_Value y122.2.1) rfl ?_)
          refine Gy_q rfl rfl rfl (op_len_row (by kernel_rfl) rfl ?_)
          refine Gy_q rfl rfl rfl (op_move (av := .row 1 c_api_Value a1) rfl ?_)
          refine Gy_q rfl rfl rfl (op_len_row (by kernel_rfl) rfl ?_)
          refine Gy_q rfl rfl rfl (op_neq rfl rfl ?_)
          refine G_q rfl (op_pick_f rfl (av := .exact (.bool (decide (¬ (List.length y122.2.1 : Int) = (List.length a1 : Int))))) rfl ?_)
          refine G_nil ?_
          refine kI_normal ⟨_, h, ?_⟩
          exact Sub.of_le (AF.le_put (AV.le_eq rfl) (AF.le_put (AV.le_eq rfl) (AF.le_top _)))
      · refine k_cond_b (c := x59_j123) rfl (fun hc => ?_) (fun hc => ?_)
        · replace h := ite_t h hc
          refine k_seq ?_
          refine k_reg .free hmixP (by kernel_rfl) ?_
          refine G_q rfl (op_assign (av := .exact (.string (bs ([] : List UInt8)))) rfl ?_)
          refine G_nil ?_
          refine kC_normal ?_
          refine k_ret ?_
          refine kC_ret ?_
          obtain rfl := Option.some.inj h
          refine kP_any (endN (af' := (AF.put AF0 (some 4) (.exact (.string (bs ([] : List UInt8)))))) (σ' := []) _ rfl ?_ ⟨rfl, rfl⟩)
          exact Sub.of_le (AF.le_put (AV.le_eq rfl) (AF.le_top _))
        · replace h := ite_f h hc
          refine k_skip ?_
          refine kC_normal ?_
          refine k_seq ?_
          refine k_reg .free hmixP (by kernel_rfl) ?_
          refine G_q rfl (op_move (av := .exact (.string (bs x5_j3))) rfl ?_)
          obtain ⟨y124, hy124, h⟩ := bnd1_some h
          refine G_q rfl (op_pure (m_ref9_checked_ok _ _ hy124) Try.func32 (by kernel_rfl) (LEs.cons (AV.le_eq rfl) LEs.nil) ?_)
          refine G_q rfl (op_assign (av := .exact (.string (bs y124))) rfl ?_)
          refine G_nil ?_
          refine kC_normal ?_
          refine k_ret ?_
          obtain rfl := Option.some.inj h
          refine kP_any (endN (af' := (AF.put AF0 (some 4) (.exact (.string (bs y124))))) (σ' := []) _ rfl ?_ ⟨rfl, rfl⟩)
          exact Sub.of_le (AF.le_put (AV.le_eq rfl) (AF.le_top _))
set_option maxHeartbeats 4000000 in
theorem m_ref9_Make_ok (a0 : Int) (a1 : List (List UInt8)) (r : (List UInt8)) (h : m_ref9_Make a0 a1 = some r) : Pure Try.prog 7 [(.exact (.int .i64 a0)), (.row 1 c_api_Value a1)] (.exact (.string (bs r))) := by
  unfold m_ref9_Make at h
  refine Pure.ofFun (fun_of_awp Try.func7 rfl Try.ntmps7 (by simp) rfl (res1 rfl) fun E hE => k_end ?_)
  refine k_seq ?_
  refine k_reg .free hmixP (by kernel_rfl) ?_
  refine G_q rfl (op_assign (av := .exact (.string (bs ([] : List UInt8)))) rfl ?_)
  refine G_nil ?_
  refine kC_normal ?_
  refine k_seq ?_
  refine k_seq ?_
  refine k_reg .free hmixP (by kernel_rfl) ?_
  refine G_q rfl (op_move (av := .row 1 c_api_Value a1) rfl ?_)
  obtain ⟨y1, hy1, h⟩ := bnd1_some h
  refine G_q rfl (op_pure (m_ref9_all_ok _ _ hy1) Try.func15 (by kernel_rfl) (LEs.cons (AV.le_eq rfl) LEs.nil) ?_)
  refine G_q rfl (op_not rfl ?_)
  refine G_nil ?_
  refine kC_normal ?_
  refine k_cond_b (c := !y1) rfl (fun hc => ?_) (fun hc => ?_)
  · replace h := ite_t h hc
    refine k_seq ?_
    refine k_reg .free hmixP (by kernel_rfl) ?_
    refine G_q rfl (op_assign (av := .exact (.string (bs ([] : List UInt8)))) rfl ?_)
    refine G_nil ?_
    refine kC_normal ?_
    refine k_ret ?_
    refine kC_ret ?_
    obtain rfl := Option.some.inj h
    refine kP_any (endN (af' := (AF.put AF0 (some 4) (.exact (.string (bs ([] : List UInt8)))))) (σ' := []) _ rfl ?_ ⟨rfl, rfl⟩)
    exact Sub.of_le (AF.le_put (AV.le_eq rfl) (AF.le_top _))
  · replace h := ite_f h hc
    refine k_skip ?_
    refine kC_normal ?_
    refine k_seq ?_
    refine k_reg .free hmixP (by kernel_rfl) ?_
    refine G_q rfl (op_move (av := .exact (.int .i64 a0)) rfl ?_)
    refine G_q rfl (op_move (av := .row 1 c_api_Value a1) rfl ?_)
    obtain ⟨y2, hy2, h⟩ := bnd1_some h
    refine G_q rfl (op_pure (m_ref9_compound_ok _ _ _ hy2) Try.func16 (by kernel_rfl) (LEs.cons (AV.le_eq rfl) (LEs.cons (AV.le_eq rfl) LEs.nil)) ?_)
    refine G_q rfl (op_assign (av := .exact (.string (bs y2))) rfl ?_)
    refine G_nil ?_
    refine kC_normal ?_
    refine k_ret ?_
    obtain rfl := Option.some.inj h
    refine kP_any (endN (af' := (AF.put AF0 (some 4) (.exact (.string (bs y2))))) (σ' := []) _ rfl ?_ ⟨rfl, rfl⟩)
    exact Sub.of_le (AF.le_put (AV.le_eq rfl) (AF.le_top _))
set_option maxHeartbeats 4000000 in
theorem m_pattern_node_rest_ok (a0 : Nd) (r : Nd) (h : m_pattern_node_rest a0 = some r) : Pure Try.prog 52 [(ndA a0)] (ndA r) := by
  unfold m_pattern_node_rest at h
  refine Pure.ofFun (fun_of_awp Try.func52 rfl Try.ntmps52 (by simp) rfl (res1 rfl) fun E hE => k_end ?_)
  refine k_seq ?_
  refine k_reg .free hmixP (by kernel_rfl) ?_
  refine G_q rfl (op_assign (av := .exact (.pointer none)) rfl ?_)
  refine G_nil ?_
  refine kC_normal ?_
  refine k_seq ?_
  refine k_plan [] [(0, 0), (0, 1), (0, 2), (0, 3), (0, 4), (0, 5), (0, 6), (0, 7), (0, 8), (0, 9), (0, 10)] hmixP (by kernel_rfl) ?_
  refine P_q no34_0 rfl (op_move (av := ndA a0) rfl ?_)
  obtain ⟨y1, hy1, h⟩ := bnd1_some h
  refine P_q no34_0 rfl (op_nilCheck_ptr (c := c_pattern_node y1) (ndA_un hy1) ?_)
  refine P_q no34_0 rfl (op_fieldAddr_ptr (o := 2) (c' := (List.drop 2 (c_pattern_node y1))) (by kernel_rfl) rfl rfl ?_)
  refine P_q no34_0 rfl (op_load1p (a := .row 1 c_P_pattern_node y1.2.2) (by kernel_rfl) rfl rfl ?_)
  refine P_q no34_0 rfl (op_move (av := ndA a0) rfl ?_)
  obtain ⟨y2, hy2, h⟩ := bnd1_some h
  refine P_q no34_0 rfl (op_nilCheck_ptr (c := c_pattern_node y2) (ndA_un hy2) ?_)
  refine P_q no34_0 rfl (op_fieldAddr_ptr (o := 1) (c' := (List.drop 1 (c_pattern_node y2))) (by kernel_rfl) rfl rfl ?_)
  refine P_q no34_0 rfl (op_load1p (a := .exact (.int .i64 y2.2.1)) (by kernel_rfl) rfl rfl ?_)
  obtain ⟨n3, h⟩ := need_some h
  refine P_q no34_0 rfl (op_index_row (by kernel_rfl) rfl rfl n3.1 n3.2 ?_)
  refine P_q no34_0 rfl (op_load1p (a := ndA (gi y1.2.2 y2.2.1)) (by kernel_rfl) rfl rfl ?_)
  refine P_q no34_0 rfl (op_assign (av := ndA (gi y1.2.2 y2.2.1)) rfl ?_)
  refine P_nil ?_
  refine kC_normal ?_
  refine k_ret ?_
  obtain rfl := Option.some.inj h
  refine kP_any (endN (af' := (AF.put AF0 (some 2) (ndA (gi y1.2.2 y2.2.1)))) (σ' := []) _ rfl ?_ ⟨rfl, rfl⟩)
  exact Sub.of_le (AF.le_put (AV.le_eq rfl) (AF.le_top _))
set_option maxHeartbeats 4000000 in
theorem m_pattern_node_formed_ok (a0 : Nd) (r : Bool) (h : m_pattern_node_formed a0 = some r) : Pure Try.prog 37 [(ndA a0)] (.exact (.bool r)) := by
  unfold m_pattern_node_formed at h
  refine Pure.ofFun (fun_of_awp Try.func37 rfl Try.ntmps37 (by simp) rfl (res1 rfl) fun E hE => k_end ?_)
  refine k_seq ?_
  refine k_reg .free hmixP (by kernel_rfl) ?_
  refine G_q rfl (op_assign (av := .exact (.bool false)) rfl ?_)
  refine G_nil ?_
  refine kC_normal ?_
  refine k_seq ?_
  refine k_reg .free hmixP (by kernel_rfl) ?_
  refine G_q rfl (op_move (av := ndA a0) rfl ?_)
  obtain ⟨y1, hy1, h⟩ := bnd1_some h
  refine G_q rfl (op_nilCheck_ptr (c := c_pattern_node y1) (ndA_un hy1) ?_)
  refine G_q rfl (op_fieldAddr_ptr (o := 2) (c' := (List.drop 2 (c_pattern_node y1))) (by kernel_rfl) rfl rfl ?_)
  refine G_q rfl (op_load1p (a := .row 1 c_P_pattern_node y1.2.2) (by kernel_rfl) rfl rfl ?_)
  refine G_q rfl (op_len_row (by kernel_rfl) rfl ?_)
  refine G_q rfl (op_assign (av := .exact (.int .i64 (List.length y1.2.2 : Int))) rfl ?_)
  refine G_nil ?_
  refine kC_normal ?_
  refine k_seq ?_
  refine k_seq ?_
  refine k_reg .free hmixP (by kernel_rfl) ?_
  refine G_q rfl (op_move (av := ndA a0) rfl ?_)
  obtain ⟨y37, hy37, h⟩ := bnd1_some h
  refine G_q rfl (op_nilCheck_ptr (c := c_pattern_node y37) (ndA_un hy37) ?_)
  refine G_q rfl (op_fieldAddr_ptr (o := 0) (c' := (List.drop 0 (c_pattern_node y37))) (by kernel_rfl) rfl rfl ?_)
  refine G_q rfl (op_load1p (a := .exact (.int .i64 y37.1)) (by kernel_rfl) rfl rfl ?_)
  refine G_nil ?_
  refine kC_normal ?_
  refine k_block ?_
  refine k_join1_0 h (fun (x13_j38 : Bool) => (AF.put (AF.put (AF.put (AF.put AF0 (some 0) (ndA a0)) (some 3) (.exact (.int .i64 (List.length y1.2.2 : Int)))) (some 12) (.exact (.int .i64 y37.1))) (some 13) (.exact (.bool x13_j38)))) (fun (x13_j38 : Bool) => []) (fun k38 h => ?_) (fun x13_j38 h => ?_)
  · refine k_seq ?_
    refine k_reg .free hmixP (by kernel_rfl) ?_
    refine G_q rfl (op_eql rfl rfl ?_)
    refine G_q rfl (op_assign (av := .exact (.bool (decide (y37.1 = 30)))) rfl ?_)
    refine G_nil ?_
    refine kC_normal ?_
    refine k_cond_d (p := y37.1 = 30) rfl (fun hc => ?_) (fun hc => ?_)
    · replace h := ite_t h hc
      refine k_skip ?_
      refine kI_normal ⟨_, h, ?_⟩
      exact Sub.of_le (AF.le_put (AV.le_eq rfl) (AF.le_put (AV.le_eq rfl) (AF.le_put (AV.le_eq rfl) (AF.le_put (AV.le_eq rfl) (AF.le_top _)))))
    · replace h := ite_f h hc
      refine k_reg .free hmixP (by kernel_rfl) ?_
      refine G_q rfl (op_eql rfl rfl ?_)
      refine G_q rfl (op_assign (av := .exact (.bool (decide (y37.1 = 31)))) rfl ?_)
      refine G_nil ?_
      refine kI_normal ⟨_, h, ?_⟩
      exact Sub.of_le (AF.le_put (AV.le_eq rfl) (AF.le_put (AV.le_eq rfl) (AF.le_put (AV.le_eq rfl) (AF.le_put (AV.le_eq rfl) (AF.le_top _)))))
  · refine k_cond_b (c := x13_j38) rfl (fun hc => ?_) (fun hc => ?_)
    · replace h := ite_t h hc
      refine k_join1_0 h (fun (x2_j39 : Bool) => (AF.put AF0 (some 2) (.exact (.bool x2_j39)))) (fun (x2_j39 : Bool) => []) (fun k39 h => ?_) (fun x2_j39 h => ?_)
      · refine k_reg .free hmixP (by kernel_rfl) ?_
        refine G_q rfl (op_move (av := .exact (.int .i64 (List.length y1.2.2 : Int))) rfl ?_)
        refine G_q rfl (op_eql rfl rfl ?_)
        refine G_q rfl (op_move (av := .exact (.bool (decide ((List.length y1.2.2 : Int) = 0)))) rfl ?_)
        refine G_split (p := (List.length y1.2.2 : Int) = 0) 18 rfl (fun hc => ?_) (fun hc => ?_)
        · replace h := ite_t h hc
          refine Gy_q rfl rfl rfl (op_move (av := ndA a0) rfl ?_)
          obtain ⟨y41, hy41, h⟩ := bnd1_some h
          refine Gy_q rfl rfl rfl (op_nilCheck_ptr (c := c_pattern_node y41) (ndA_un hy41) ?_)
          refine Gy_q rfl rfl rfl (op_fieldAddr_ptr (o := 1) (c' := (List.drop 1 (c_pattern_node y41))) (by kernel_rfl) rfl rfl ?_)
          refine Gy_q rfl rfl rfl (op_load1p (a := .exact (.int .i64 y41.2.1)) (by kernel_rfl) rfl rfl ?_)
          refine Gy_q rfl rfl rfl (op_eql rfl rfl ?_)
          refine G_q rfl (op_pick_t rfl (av := .exact (.bool (decide (y41.2.1 = 0)))) rfl ?_)
          refine G_q rfl (op_assign (av := .exact (.bool (decide (y41.2.1 = 0)))) rfl ?_)
          refine G_nil ?_
          refine kI_normal ⟨_, h, ?_⟩
          exact Sub.of_le (AF.le_put (AV.le_eq rfl) (AF.le_top _))
        · replace h := ite_f h hc
          refine G_n rfl rfl ?_
          refine G_n rfl rfl ?_
          refine G_n rfl rfl ?_
          refine G_n rfl rfl ?_
          refine G_n rfl rfl ?_
          refine G_q rfl (op_pick_f rfl (av := .exact (.bool false)) rfl ?_)
          refine G_q rfl (op_assign (av := .exact (.bool false)) rfl ?_)
          refine G_nil ?_
          refine kI_normal ⟨_, h, ?_⟩
          exact Sub.of_le (AF.le_put (AV.le_eq rfl) (AF.le_top _))
      · refine k_ret ?_
        refine kB_ret ?_
        refine kC_ret ?_
        obtain rfl := Option.some.inj h
        refine kP_any (endN (af' := (AF.put AF0 (some 2) (.exact (.bool x2_j39)))) (σ' := []) _ rfl ?_ ⟨rfl, rfl⟩)
        exact Sub.of_le (AF.le_put (AV.le_eq rfl) (AF.le_top _))
    · replace h := ite_f h hc
      refine k_seq ?_
      refine k_reg .free hmixP (by kernel_rfl) ?_
      refine G_q rfl (op_eql rfl rfl ?_)
      refine G_q rfl (op_assign (av := .exact (.bool (decide (y37.1 = 32)))) rfl ?_)
      refine G_nil ?_
      refine kC_normal ?_
      refine k_cond_d (p := y37.1 = 32) rfl (fun hc => ?_) (fun hc => ?_)
      · replace h := ite_t h hc
        refine k_seq ?_
        refine k_reg .free hmixP (by kernel_rfl) ?_
        refine G_q rfl (op_move (av := .exact (.int .i64 (List.length y1.2.2 : Int))) rfl ?_)
        refine G_q rfl (op_eql rfl rfl ?_)
        refine G_q rfl (op_assign (av := .exact (.bool (decide ((List.length y1.2.2 : Int) = 0)))) rfl ?_)
        refine G_nil ?_
        refine kC_normal ?_
        refine k_ret ?_
        refine kB_ret ?_
        refine kC_ret ?_
        obtain rfl := Option.some.inj h
        refine kP_any (endN (af' := (AF.put AF0 (some 2) (.exact (.bool (decide ((List.length y1.2.2 : Int) = 0)))))) (σ' := []) _ rfl ?_ ⟨rfl, rfl⟩)
        exact Sub.of_le (AF.le_put (AV.le_eq rfl) (AF.le_top _))
      · replace h := ite_f h hc
        refine k_seq ?_
        refine k_reg .free hmixP (by kernel_rfl) ?_
        refine G_q rfl (op_eql rfl rfl ?_)
        refine G_q rfl (op_assign (av := .exact (.bool (decide (y37.1 = 33)))) rfl ?_)
        refine G_nil ?_
        refine kC_normal ?_
        refine k_cond_d (p := y37.1 = 33) rfl (fun hc => ?_) (fun hc => ?_)
        · replace h := ite_t h hc
          refine k_join1_0 h (fun (x2_j42 : Bool) => (AF.put AF0 (some 2) (.exact (.bool x2_j42)))) (fun (x2_j42 : Bool) => []) (fun k42 h => ?_) (fun x2_j42 h => ?_)
          · refine k_reg .free hmixP (by kernel_rfl) ?_
            refine G_q rfl (op_move (av := .exact (.int .i64 (List.length y1.2.2 : Int))) rfl ?_)
            refine G_q rfl (op_eql rfl rfl ?_)
            refine G_q rfl (op_move (av := .exact (.bool (decide ((List.length y1.2.2 : Int) = 0)))) rfl ?_)
            refine G_split (p := (List.length y1.2.2 : Int) = 0) 33 rfl (fun hc => ?_) (fun hc => ?_)
            · replace h := ite_t h hc
              refine Gy_q rfl rfl rfl (op_move (av := ndA a0) rfl ?_)
              obtain ⟨y45, hy45, h⟩ := bnd1_some h
              refine Gy_q rfl rfl rfl (op_nilCheck_ptr (c := c_pattern_node y45) (ndA_un hy45) ?_)
              refine Gy_q rfl rfl rfl (op_fieldAddr_ptr (o := 1) (c' := (List.drop 1 (c_pattern_node y45))) (by kernel_rfl) rfl rfl ?_)
              refine Gy_q rfl rfl rfl (op_load1p (a := .exact (.int .i64 y45.2.1)) (by kernel_rfl) rfl rfl ?_)
              refine Gy_q rfl rfl rfl (op_eql rfl rfl ?_)
              refine Gy_q rfl rfl rfl (op_move (av := .exact (.bool (decide (y45.2.1 = 0)))) rfl ?_)
              refine G_split (p := y45.2.1 = 0) 39 rfl (fun hc => ?_) (fun hc => ?_)
              · replace h := ite_t h hc
                refine G_n rfl rfl ?_
                refine G_n rfl rfl ?_
                refine G_n rfl rfl ?_
                refine G_n rfl rfl ?_
                refine G_n rfl rfl ?_
                refine Gy_q rfl rfl rfl (op_pick_t rfl (av := .exact (.bool true)) rfl ?_)
                refine G_q rfl (op_pick_t rfl (av := .exact (.bool true)) rfl ?_)
                refine G_q rfl (op_assign (av := .exact (.bool true)) rfl ?_)
                refine G_nil ?_
                refine kI_normal ⟨_, h, ?_⟩
                exact Sub.of_le (AF.le_put (AV.le_eq rfl) (AF.le_top _))
              · replace h := ite_f h hc
                refine Gy_q rfl rfl rfl (op_move (av := ndA a0) rfl ?_)
                obtain ⟨y46, hy46, h⟩ := bnd1_some h
                refine Gy_q rfl rfl rfl (op_nilCheck_ptr (c := c_pattern_node y46) (ndA_un hy46) ?_)
                refine Gy_q rfl rfl rfl (op_fieldAddr_ptr (o := 1) (c' := (List.drop 1 (c_pattern_node y46))) (by kernel_rfl) rfl rfl ?_)
                refine Gy_q rfl rfl rfl (op_load1p (a := .exact (.int .i64 y46.2.1)) (by kernel_rfl) rfl rfl ?_)
                refine Gy_q rfl rfl rfl (op_eql rfl rfl ?_)
                refine Gy_q rfl rfl rfl (op_pick_f rfl (av := .exact (.bool (decide (y46.2.1 = 1)))) rfl ?_)
                refine G_q rfl (op_pick_t rfl (av := .exact (.bool (decide (y46.2.1 = 1)))) rfl ?_)
                refine G_q rfl (op_assign (av := .exact (.bool (decide (y46.2.1 = 1)))) rfl ?_)
                refine G_nil ?_
                refine kI_normal ⟨_, h, ?_⟩
                exact Sub.of_le (AF.le_put (AV.le_eq rfl) (AF.le_top _))
            · replace h := ite_f h hc
              refine G_n rfl rfl ?_
              refine G_n rfl rfl ?_
              refine G_n rfl rfl ?_
              refine G_n rfl rfl ?_
              refine G_n rfl rfl ?_
              refine G_n rfl rfl ?_
              refine G_u rfl rfl ?_
              refine G_u rfl rfl ?_
              refine G_u rfl rfl ?_
              refine G_u rfl rfl ?_
              refine G_u rfl rfl ?_
              refine G_n rfl rfl ?_
              refine G_q rfl (op_pick_f rfl (av := .exact (.bool false)) rfl ?_)
              refine G_q rfl (op_assign (av := .exact (.bool false)) rfl ?_)
              refine G_nil ?_
              refine kI_normal ⟨_, h, ?_⟩
              exact Sub.of_le (AF.le_put (AV.le_eq rfl) (AF.le_top _))
          · refine k_ret ?_
            refine kB_ret ?_
            refine kC_ret ?_
            obtain rfl := Option.some.inj h
            refine kP_any (endN (af' := (AF.put AF0 (some 2) (.exact (.bool x2_j42)))) (σ' := []) _ rfl ?_ ⟨rfl, rfl⟩)
            exact Sub.of_le (AF.le_put (AV.le_eq rfl) (AF.le_top _))
        · replace h := ite_f h hc
          refine k_seq ?_
          refine k_reg .free hmixP (by kernel_rfl) ?_
          refine G_q rfl (op_eql rfl rfl ?_)
          refine G_q rfl (op_assign (av := .exact (.bool (decide (y37.1 = 34)))) rfl ?_)
          refine G_nil ?_
          refine kC_normal ?_
          refine k_cond_d (p := y37.1 = 34) rfl (fun hc => ?_) (fun hc => ?_)
          · replace h := ite_t h hc
            refine k_join1_0 h (fun (x2_j47 : Bool) => (AF.put AF0 (some 2) (.exact (.bool x2_j47)))) (fun (x2_j47 : Bool) => []) (fun k47 h => ?_) (fun x2_j47 h => ?_)
            · refine k_reg .free hmixP (by kernel_rfl) ?_
              refine G_q rfl (op_move (av := .exact (.int .i64 (List.length y1.2.2 : Int))) rfl ?_)
              refine G_q rfl (op_geq rfl rfl ?_)
              refine G_q rfl (op_move (av := .exact (.bool (decide (2 ≤ (List.length y1.2.2 : Int))))) rfl ?_)
              refine G_split (p := 2 ≤ (List.length y1.2.2 : Int)) 51 rfl (fun hc => ?_) (fun hc => ?_)
              · replace h := ite_t h hc
                refine Gy_q rfl rfl rfl (op_move (av := .exact (.int .i64 (List.length y1.2.2 : Int))) rfl ?_)
                refine Gy_q rfl rfl rfl (op_leq rfl rfl ?_)
                refine G_q rfl (op_pick_t rfl (av := .exact (.bool (decide ((List.length y1.2.2 : Int) ≤ 8)))) rfl ?_)
                refine G_q rfl (op_move (av := .exact (.bool (decide ((List.length y1.2.2 : Int) ≤ 8)))) rfl ?_)
                refine G_split (p := (List.length y1.2.2 : Int) ≤ 8) 55 rfl (fun hc => ?_) (fun hc => ?_)
                · replace h := ite_t h hc
                  refine Gy_q rfl rfl rfl (op_move (av := ndA a0) rfl ?_)
                  obtain ⟨y49, hy49, h⟩ := bnd1_some h
                  refine Gy_q rfl rfl rfl (op_nilCheck_ptr (c := c_pattern_node y49) (ndA_un hy49) ?_)
                  refine Gy_q rfl rfl rfl (op_fieldAddr_ptr (o := 1) (c' := (List.drop 1 (c_pattern_node y49))) (by kernel_rfl) rfl rfl ?_)
                  refine Gy_q rfl rfl rfl (op_load1p (a := .exact (.int .i64 y49.2.1)) (by kernel_rfl) rfl rfl ?_)
                  refine Gy_q rfl rfl rfl (op_eql rfl rfl ?_)
                  refine G_q rfl (op_pick_t rfl (av := .exact (.bool (decide (y49.2.1 = 0)))) rfl ?_)
                  refine G_q rfl (op_assign (av := .exact (.bool (decide (y49.2.1 = 0)))) rfl ?_)
                  refine G_nil ?_
                  refine kI_normal ⟨_, h, ?_⟩
                  exact Sub.of_le (AF.le_put (AV.le_eq rfl) (AF.le_top _))
                · replace h := ite_f h hc
                  refine G_n rfl rfl ?_
                  refine G_n rfl rfl ?_
                  refine G_n rfl rfl ?_
                  refine G_n rfl rfl ?_
                  refine G_n rfl rfl ?_
                  refine G_q rfl (op_pick_f rfl (av := .exact (.bool false)) rfl ?_)
                  refine G_q rfl (op_assign (av := .exact (.bool false)) rfl ?_)
                  refine G_nil ?_
                  refine kI_normal ⟨_, h, ?_⟩
                  exact Sub.of_le (AF.le_put (AV.le_eq rfl) (AF.le_top _))
              · replace h := ite_f h hc
                refine G_n rfl rfl ?_
                refine G_n rfl rfl ?_
                refine G_q rfl (op_pick_f rfl (av := .exact (.bool false)) rfl ?_)
                refine G_q rfl (op_move (av := .exact (.bool false)) rfl ?_)
                refine G_n rfl rfl ?_
                refine G_n rfl rfl ?_
                refine G_n rfl rfl ?_
                refine G_n rfl rfl ?_
                refine G_n rfl rfl ?_
                refine G_q rfl (op_pick_f rfl (av := .exact (.bool false)) rfl ?_)
                refine G_q rfl (op_assign (av := .exact (.bool false)) rfl ?_)
                refine G_nil ?_
                refine kI_normal ⟨_, h, ?_⟩
                exact Sub.of_le (AF.le_put (AV.le_eq rfl) (AF.le_top _))
            · refine k_ret ?_
              refine kB_ret ?_
              refine kC_ret ?_
              obtain rfl := Option.some.inj h
              refine kP_any (endN (af' := (AF.put AF0 (some 2) (.exact (.bool x2_j47)))) (σ' := []) _ rfl ?_ ⟨rfl, rfl⟩)
              exact Sub.of_le (AF.le_put (AV.le_eq rfl) (AF.le_top _))
          · replace h := ite_f h hc
            refine k_seq ?_
            refine k_reg .free hmixP (by kernel_rfl) ?_
            refine G_q rfl (op_eql rfl rfl ?_)
            refine G_q rfl (op_assign (av := .exact (.bool (decide (y37.1 = 35)))) rfl ?_)
            refine G_nil ?_
            refine kC_normal ?_
            refine k_cond_d (p := y37.1 = 35) rfl (fun hc => ?_) (fun hc => ?_)
            · replace h := ite_t h hc
              refine k_seq ?_
              refine k_reg .free hmixP (by kernel_rfl) ?_
              refine G_q rfl (op_move (av := ndA a0) rfl ?_)
              obtain ⟨y50, hy50, h⟩ := bnd1_some h
              refine G_q rfl (op_nilCheck_ptr (c := c_pattern_node y50) (ndA_un hy50) ?_)
              refine G_q rfl (op_fieldAddr_ptr (o := 1) (c' := (List.drop 1 (c_pattern_node y50))) (by kernel_rfl) rfl rfl ?_)
              refine G_q rfl (op_load1p (a := .exact (.int .i64 y50.2.1)) (by kernel_rfl) rfl rfl ?_)
              refine G_q rfl (op_eql rfl rfl ?_)
              refine G_q rfl (op_assign (av := .exact (.bool (decide (y50.2.1 = 0)))) rfl ?_)
              refine G_nil ?_
              refine kC_normal ?_
              refine k_ret ?_
              refine kB_ret ?_
              refine kC_ret ?_
              obtain rfl := Option.some.inj h
              refine kP_any (endN (af' := (AF.put AF0 (some 2) (.exact (.bool (decide (y50.2.1 = 0)))))) (σ' := []) _ rfl ?_ ⟨rfl, rfl⟩)
              exact Sub.of_le (AF.le_put (AV.le_eq rfl) (AF.le_top _))
            · replace h := ite_f h hc
              refine k_seq ?_
              refine k_reg .free hmixP (by kernel_rfl) ?_
              refine G_q rfl (op_eql rfl rfl ?_)
              refine G_q rfl (op_assign (av := .exact (.bool (decide (y37.1 = 36)))) rfl ?_)
              refine G_nil ?_
              refine kC_normal ?_
              refine k_cond_d (p := y37.1 = 36) rfl (fun hc => ?_) (fun hc => ?_)
              · replace h := ite_t h hc
                refine k_join1_0 h (fun (x2_j51 : Bool) => (AF.put AF0 (some 2) (.exact (.bool x2_j51)))) (fun (x2_j51 : Bool) => []) (fun k51 h => ?_) (fun x2_j51 h => ?_)
                · refine k_reg .free hmixP (by kernel_rfl) ?_
                  refine G_q rfl (op_move (av := ndA a0) rfl ?_)
                  obtain ⟨y58, hy58, h⟩ := bnd1_some h
                  refine G_q rfl (op_nilCheck_ptr (c := c_pattern_node y58) (ndA_un hy58) ?_)
                  refine G_q rfl (op_fieldAddr_ptr (o := 1) (c' := (List.drop 1 (c_pattern_node y58))) (by kernel_rfl) rfl rfl ?_)
                  refine G_q rfl (op_load1p (a := .exact (.int .i64 y58.2.1)) (by kernel_rfl) rfl rfl ?_)
                  refine G_q rfl (op_geq rfl rfl ?_)
                  refine G_q rfl (op_move (av := .exact (.bool (decide (0 ≤ y58.2.1)))) rfl ?_)
                  refine G_split (p := 0 ≤ y58.2.1) 76 rfl (fun hc => ?_) (fun hc => ?_)
                  · replace h := ite_t h hc
                    refine Gy_q rfl rfl rfl (op_move (av := ndA a0) rfl ?_)
                    obtain ⟨y59, hy59, h⟩ := bnd1_some h
                    refine Gy_q rfl rfl rfl (op_nilCheck_ptr (c := c_pattern_node y59) (ndA_un hy59) ?_)
                    refine Gy_q rfl rfl rfl (op_fieldAddr_ptr (o := 1) (c' := (List.drop 1 (c_pattern_node y59))) (by kernel_rfl) rfl rfl ?_)
                    refine Gy_q rfl rfl rfl (op_load1p (a := .exact (.int .i64 y59.2.1)) (by kernel_rfl) rfl rfl ?_)
                    refine Gy_q rfl rfl rfl (op_move (av := .exact (.int .i64 (List.length y1.2.2 : Int))) rfl ?_)
                    refine Gy_q rfl rfl rfl (op_lss rfl rfl ?_)
                    refine G_q rfl (op_pick_t rfl (av := .exact (.bool (decide (y59.2.1 < (List.length y1.2.2 : Int))))) rfl ?_)
                    refine G_q rfl (op_move (av := .exact (.bool (decide (y59.2.1 < (List.length y1.2.2 : Int))))) rfl ?_)
                    refine G_split (p := y59.2.1 < (List.length y1.2.2 : Int)) 84 rfl (fun hc => ?_) (fun hc => ?_)
                    · replace h := ite_t h hc
                      refine Gy_q rfl rfl rfl (op_move (av := ndA a0) rfl ?_)
                      obtain ⟨y60, hy60, h⟩ := bnd1_some h
                      refine Gy_q rfl rfl rfl (op_pure (m_pattern_node_rest_ok _ _ hy60) Try.func52 (by kernel_rfl) (LEs.cons (AV.le_eq rfl) LEs.nil) ?_)
                      obtain ⟨y61, hy61, h⟩ := bnd1_some h
                      refine Gy_q rfl rfl rfl (op_nilCheck_ptr (c := c_pattern_node y61) (ndA_un hy61) ?_)
                      refine Gy_q rfl rfl rfl (op_fieldAddr_ptr (o := 0) (c' := (List.drop 0 (c_pattern_node y61))) (by kernel_rfl) rfl rfl ?_)
                      refine Gy_q rfl rfl rfl (op_load1p (a := .exact (.int .i64 y61.1)) (by kernel_rfl) rfl rfl ?_)
                      refine Gy_q rfl rfl rfl (op_eql rfl rfl ?_)
                      refine Gy_q rfl rfl rfl (op_move (av := .exact (.bool (decide (y61.1 = 30)))) rfl ?_)
                      refine G_split (p := y61.1 = 30) 91 rfl (fun hc => ?_) (fun hc => ?_)
                      · replace h := ite_t h hc
                        refine G_n rfl rfl ?_
                        refine G_n rfl rfl ?_
                        refine G_n rfl rfl ?_
                        refine G_n rfl rfl ?_
                        refine G_n rfl rfl ?_
                        refine G_n rfl rfl ?_
                        refine Gy_q rfl rfl rfl (op_pick_t rfl (av := .exact (.bool true)) rfl ?_)
                        refine G_q rfl (op_pick_t rfl (av := .exact (.bool true)) rfl ?_)
                        refine G_q rfl (op_assign (av := .exact (.bool true)) rfl ?_)
                        refine G_nil ?_
                        refine kI_normal ⟨_, h, ?_⟩
                        exact Sub.of_le (AF.le_put (AV.le_eq rfl) (AF.le_top _))
                      · replace h := ite_f h hc
                        refine Gy_q rfl rfl rfl (op_move (av := ndA a0) rfl ?_)
                        obtain ⟨y62, hy62, h⟩ := bnd1_some h
                        refine Gy_q rfl rfl rfl (op_pure (m_pattern_node_rest_ok _ _ hy62) Try.func52 (by kernel_rfl) (LEs.cons (AV.le_eq rfl) LEs.nil) ?_)
                        obtain ⟨y63, hy63, h⟩ := bnd1_some h
                        refine Gy_q rfl rfl rfl (op_nilCheck_ptr (c := c_pattern_node y63) (ndA_un hy63) ?_)
                        refine Gy_q rfl rfl rfl (op_fieldAddr_ptr (o := 0) (c' := (List.drop 0 (c_pattern_node y63))) (by kernel_rfl) rfl rfl ?_)
                        refine Gy_q rfl rfl rfl (op_load1p (a := .exact (.int .i64 y63.1)) (by kernel_rfl) rfl rfl ?_)
                        refine Gy_q rfl rfl rfl (op_eql rfl rfl ?_)
                        refine Gy_q rfl rfl rfl (op_pick_f rfl (av := .exact (.bool (decide (y63.1 = 31)))) rfl ?_)
                        refine G_q rfl (op_pick_t rfl (av := .exact (.bool (decide (y63.1 = 31)))) rfl ?_)
                        refine G_q rfl (op_assign (av := .exact (.bool (decide (y63.1 = 31)))) rfl ?_)
                        refine G_nil ?_
                        refine kI_normal ⟨_, h, ?_⟩
                        exact Sub.of_le (AF.le_put (AV.le_eq rfl) (AF.le_top _))
                    · replace h := ite_f h hc
                      refine G_n rfl rfl ?_
                      refine G_n rfl rfl ?_
                      refine G_n rfl rfl ?_
                      refine G_n rfl rfl ?_
                      refine G_n rfl rfl ?_
                      refine G_n rfl rfl ?_
                      refine G_n rfl rfl ?_
                      refine G_u rfl rfl ?_
                      refine G_u rfl rfl ?_
                      refine G_u rfl rfl ?_
                      refine G_u rfl rfl ?_
                      refine G_u rfl rfl ?_
                      refine G_u rfl rfl ?_
                      refine G_n rfl rfl ?_
                      refine G_q rfl (op_pick_f rfl (av := .exact (.bool false)) rfl ?_)
                      refine G_q rfl (op_assign (av := .exact (.bool false)) rfl ?_)
                      refine G_nil ?_
                      refine kI_normal ⟨_, h, ?_⟩
                      exact Sub.of_le (AF.le_put (AV.le_eq rfl) (AF.le_top _))
                  · replace h := ite_f h hc
                    refine G_n rfl rfl ?_
                    refine G_n rfl rfl ?_
                    refine G_n rfl rfl ?_
                    refine G_n rfl rfl ?_
                    refine G_n rfl rfl ?_
                    refine G_n rfl rfl ?_
                    refine G_q rfl (op_pick_f rfl (av := .exact (.bool false)) rfl ?_)
                    refine G_q rfl (op_move (av := .exact (.bool false)) rfl ?_)
                    refine G_n rfl rfl ?_
                    refine G_n rfl rfl ?_
                    refine G_n rfl rfl ?_
                    refine G_n rfl rfl ?_
                    refine G_n rfl rfl ?_
                    refine G_n rfl rfl ?_
                    refine G_n rfl rfl ?_
                    refine G_u rfl rfl ?_
                    refine G_u rfl rfl ?_
                    refine G_u rfl rfl ?_
                    refine G_u rfl rfl ?_
                    refine G_u rfl rfl ?_
                    refine G_u rfl rfl ?_
                    refine G_n rfl rfl ?_
                    refine G_q rfl (op_pick_f rfl (av := .exact (.bool false)) rfl ?_)
                    refine G_q rfl (op_assign (av := .exact (.bool false)) rfl ?_)
                    refine G_nil ?_
                    refine kI_normal ⟨_, h, ?_⟩
                    exact Sub.of_le (AF.le_put (AV.le_eq rfl) (AF.le_top _))
                · refine k_ret ?_
                  refine kB_ret ?_
                  refine kC_ret ?_
                  obtain rfl := Option.some.inj h
                  refine kP_any (endN (af' := (AF.put AF0 (some 2) (.exact (.bool x2_j51)))) (σ' := []) _ rfl ?_ ⟨rfl, rfl⟩)
                  exact Sub.of_le (AF.le_put (AV.le_eq rfl) (AF.le_top _))
              · replace h := ite_f h hc
                refine k_seq ?_
                refine k_reg .free hmixP (by kernel_rfl) ?_
                refine G_q rfl (op_eql rfl rfl ?_)
                refine G_q rfl (op_assign (av := .exact (.bool (decide (y37.1 = 37)))) rfl ?_)
                refine G_nil ?_
                refine kC_normal ?_
                refine k_cond_d (p := y37.1 = 37) rfl (fun hc => ?_) (fun hc => ?_)
                · replace h := ite_t h hc
                  refine k_join1_0 h (fun (x2_j64 : Bool) => (AF.put AF0 (some 2) (.exact (.bool x2_j64)))) (fun (x2_j64 : Bool) => []) (fun k64 h => ?_) (fun x2_j64 h => ?_)
                  · refine k_reg .free hmixP (by kernel_rfl) ?_
                    refine G_q rfl (op_move (av := .exact (.int .i64 (List.length y1.2.2 : Int))) rfl ?_)
                    refine G_q rfl (op_leq rfl rfl ?_)
                    refine G_q rfl (op_move (av := .exact (.bool (decide ((List.length y1.2.2 : Int) ≤ 1)))) rfl ?_)
                    refine G_split (p := (List.length y1.2.2 : Int) ≤ 1) 104 rfl (fun hc => ?_) (fun hc => ?_)
                    · replace h := ite_t h hc
                      refine Gy_q rfl rfl rfl (op_move (av := ndA a0) rfl ?_)
                      obtain ⟨y66, hy66, h⟩ := bnd1_some h
                      refine Gy_q rfl rfl rfl (op_nilCheck_ptr (c := c_pattern_node y66) (ndA_un hy66) ?_)
                      refine Gy_q rfl rfl rfl (op_fieldAddr_ptr (o := 1) (c' := (List.drop 1 (c_pattern_node y66))) (by kernel_rfl) rfl rfl ?_)
                      refine Gy_q rfl rfl rfl (op_load1p (a := .exact (.int .i64 y66.2.1)) (by kernel_rfl) rfl rfl ?_)
                      refine Gy_q rfl rfl rfl (op_eql rfl rfl ?_)
                      refine G_q rfl (op_pick_t rfl (av := .exact (.bool (decide (y66.2.1 = 0)))) rfl ?_)
                      refine G_q rfl (op_assign (av := .exact (.bool (decide (y66.2.1 = 0)))) rfl ?_)
                      refine G_nil ?_
                      refine kI_normal ⟨_, h, ?_⟩
                      exact Sub.of_le (AF.le_put (AV.le_eq rfl) (AF.le_top _))
                    · replace h := ite_f h hc
                      refine G_n rfl rfl ?_
                      refine G_n rfl rfl ?_
                      refine G_n rfl rfl ?_
                      refine G_n rfl rfl ?_
                      refine G_n rfl rfl ?_
                      refine G_q rfl (op_pick_f rfl (av := .exact (.bool false)) rfl ?_)
                      refine G_q rfl (op_assign (av := .exact (.bool false)) rfl ?_)
                      refine G_nil ?_
                      refine kI_normal ⟨_, h, ?_⟩
                      exact Sub.of_le (AF.le_put (AV.le_eq rfl) (AF.le_top _))
                  · refine k_ret ?_
                    refine kB_ret ?_
                    refine kC_ret ?_
                    obtain rfl := Option.some.inj h
                    refine kP_any (endN (af' := (AF.put AF0 (some 2) (.exact (.bool x2_j64)))) (σ' := []) _ rfl ?_ ⟨rfl, rfl⟩)
                    exact Sub.of_le (AF.le_put (AV.le_eq rfl) (AF.le_top _))
                · replace h := ite_f h hc
                  refine k_seq ?_
                  refine k_reg .free hmixP (by kernel_rfl) ?_
                  refine G_q rfl (op_eql rfl rfl ?_)
                  refine G_q rfl (op_assign (av := .exact (.bool (decide (y37.1 = 38)))) rfl ?_)
                  refine G_nil ?_
                  refine kC_normal ?_
                  refine k_cond_d (p := y37.1 = 38) rfl (fun hc => ?_) (fun hc => ?_)
                  · replace h := ite_t h hc
                    refine k_seq ?_
                    refine k_reg .free hmixP (by kernel_rfl) ?_
                    refine G_q rfl (op_assign (av := .exact (.bool true)) rfl ?_)
                    refine G_nil ?_
                    refine kC_normal ?_
                    refine k_ret ?_
                    refine kB_ret ?_
                    refine kC_ret ?_
                    obtain rfl := Option.some.inj h
                    refine kP_any (endN (af' := (AF.put AF0 (some 2) (.exact (.bool true)))) (σ' := []) _ rfl ?_ ⟨rfl, rfl⟩)
                    exact Sub.of_le (AF.le_put (AV.le_eq rfl) (AF.le_top _))
                  · replace h := ite_f h hc
                    refine k_join1_0 h (fun (x113_j67 : Bool) => (AF.put (AF.put (AF.put AF0 (some 0) (ndA a0)) (some 3) (.exact (.int .i64 (List.length y1.2.2 : Int)))) (some 113) (.exact (.bool x113_j67)))) (fun (x113_j67 : Bool) => []) (fun k67 h => ?_) (fun x113_j67 h => ?_)
                    · refine k_seq ?_
                      refine k_reg .free hmixP (by kernel_rfl) ?_
                      refine G_q rfl (op_eql rfl rfl ?_)
                      refine G_q rfl (op_assign (av := .exact (.bool (decide (y37.1 = 39)))) rfl ?_)
                      refine G_nil ?_
                      refine kC_normal ?_
                      refine k_cond_d (p := y37.1 = 39) rfl (fun hc => ?_) (fun hc => ?_)
                      · replace h := ite_t h hc
                        refine k_skip ?_
                        refine kI_normal ⟨_, h, ?_⟩
                        exact Sub.of_le (AF.le_put (AV.le_eq rfl) (AF.le_put (AV.le_eq rfl) (AF.le_put (AV.le_eq rfl) (AF.le_top _))))
                      · replace h := ite_f h hc
                        refine k_reg .free hmixP (by kernel_rfl) ?_
                        refine G_q rfl (op_eql rfl rfl ?_)
                        refine G_q rfl (op_assign (av := .exact (.bool (decide (y37.1 = 40)))) rfl ?_)
                        refine G_nil ?_
                        refine kI_normal ⟨_, h, ?_⟩
                        exact Sub.of_le (AF.le_put (AV.le_eq rfl) (AF.le_put (AV.le_eq rfl) (AF.le_put (AV.le_eq rfl) (AF.le_top _))))
                    · refine k_cond_b (c := x113_j67) rfl (fun hc => ?_) (fun hc => ?_)
                      · replace h := ite_t h hc
                        refine k_join1_0 h (fun (x2_j68 : Bool) => (AF.put AF0 (some 2) (.exact (.bool x2_j68)))) (fun (x2_j68 : Bool) => []) (fun k68 h => ?_) (fun x2_j68 h => ?_)
                        · refine k_reg .free hmixP (by kernel_rfl) ?_
                          refine G_q rfl (op_move (av := .exact (.int .i64 (List.length y1.2.2 : Int))) rfl ?_)
                          refine G_q rfl (op_eql rfl rfl ?_)
                          refine G_q rfl (op_move (av := .exact (.bool (decide ((List.length y1.2.2 : Int) = 2)))) rfl ?_)
                          refine G_split (p := (List.length y1.2.2 : Int) = 2) 118 rfl (fun hc => ?_) (fun hc => ?_)
                          · replace h := ite_t h hc
                            refine Gy_q rfl rfl rfl (op_move (av := ndA a0) rfl ?_)
                            obtain ⟨y70, hy70, h⟩ := bnd1_some h
                            refine Gy_q rfl rfl rfl (op_nilCheck_ptr (c := c_pattern_node y70) (ndA_un hy70) ?_)
                            refine Gy_q rfl rfl rfl (op_fieldAddr_ptr (o := 1) (c' := (List.drop 1 (c_pattern_node y70))) (by kernel_rfl) rfl rfl ?_)
                            refine Gy_q rfl rfl rfl (op_load1p (a := .exact (.int .i64 y70.2.1)) (by kernel_rfl) rfl rfl ?_)
                            refine Gy_q rfl rfl rfl (op_eql rfl rfl ?_)
                            refine G_q rfl (op_pick_t rfl (av := .exact (.bool (decide (y70.2.1 = 0)))) rfl ?_)
                            refine G_q rfl (op_assign (av := .exact (.bool (decide (y70.2.1 = 0)))) rfl ?_)
                            refine G_nil ?_
                            refine kI_normal ⟨_, h, ?_⟩
                            exact Sub.of_le (AF.le_put (AV.le_eq rfl) (AF.le_top _))
                          · replace h := ite_f h hc
                            refine G_n rfl rfl ?_
                            refine G_n rfl rfl ?_
                            refine G_n rfl rfl ?_
                            refine G_n rfl rfl ?_
                            refine G_n rfl rfl ?_
                            refine G_q rfl (op_pick_f rfl (av := .exact (.bool false)) rfl ?_)
                            refine G_q rfl (op_assign (av := .exact (.bool false)) rfl ?_)
                            refine G_nil ?_
                            refine kI_normal ⟨_, h, ?_⟩
                            exact Sub.of_le (AF.le_put (AV.le_eq rfl) (AF.le_top _))
                        · refine k_ret ?_
                          refine kB_ret ?_
                          refine kC_ret ?_
                          obtain rfl := Option.some.inj h
                          refine kP_any (endN (af' := (AF.put AF0 (some 2) (.exact (.bool x2_j68)))) (σ' := []) _ rfl ?_ ⟨rfl, rfl⟩)
                          exact Sub.of_le (AF.le_put (AV.le_eq rfl) (AF.le_top _))
                      · replace h := ite_f h hc
                        refine k_skip ?_
                        refine kB_normal ?_
                        refine kC_normal ?_
                        refine k_seq ?_
                        refine k_reg .free hmixP (by kernel_rfl) ?_
                        refine G_q rfl (op_assign (av := .exact (.bool false)) rfl ?_)
                        refine G_nil ?_
                        refine kC_normal ?_
                        refine k_ret ?_
                        obtain rfl := Option.some.inj h
                        refine kP_any (endN (af' := (AF.put AF0 (some 2) (.exact (.bool false)))) (σ' := []) _ rfl ?_ ⟨rfl, rfl⟩)
                        exact Sub.of_le (AF.le_put (AV.le_eq rfl) (AF.le_top _))
set_option maxHeartbeats 4000000 in
theorem m_pattern_read_F_ok (self_pattern_read : (List (Int × Int × Int)) → Int → Option (Nd × (List (Int × Int × Int)) × Bool)) (hself_pattern_read : ∀ (a0 : List (Int × Int × Int)) (a1 : Int) (r : Nd × (List (Int × Int × Int)) × Bool), self_pattern_read a0 a1 = some r → Pure Try.prog 20 [(.row 3 c_api_Code a0), (.exact (.int .i64 a1))] (.tup [ndA r.1, .row 3 c_api_Code r.2.1, .exact (.bool r.2.2)])) (a0 : List (Int × Int × Int)) (a1 : Int) (r : Nd × (List (Int × Int × Int)) × Bool) (h : m_pattern_read_F self_pattern_read a0 a1 = some r) : Pure Try.prog 20 [(.row 3 c_api_Code a0), (.exact (.int .i64 a1))] (.tup [ndA r.1, .row 3 c_api_Code r.2.1, .exact (.bool r.2.2)]) := by
  unfold m_pattern_read_F at h
  refine Pure.ofFun (fun_of_awp Try.func20 rfl Try.ntmps20 (by simp) rfl (res3 rfl) fun E hE => k_end ?_)
  refine k_seq ?_
  refine k_reg .free hmixP (by kernel_rfl) ?_
  refine G_q rfl (op_assign (av := .exact (.pointer none)) rfl ?_)
  refine G_q rfl (op_assign (av := .exact (.slice none 0 0)) rfl ?_)
  refine G_q rfl (op_assign (av := .exact (.bool false)) rfl ?_)
  refine G_nil ?_
  refine kC_normal ?_
  refine k_seq ?_
  refine k_join1_0 h (fun (x34_j7 : Bool) => (AF.put (AF.put (AF.put AF0 (some 0) (.row 3 c_api_Code a0)) (some 1) (.exact (.int .i64 a1))) (some 34) (.exact (.bool x34_j7)))) (fun (x34_j7 : Bool) => []) (fun k7 h => ?_) (fun x34_j7 h => ?_)
  · refine k_reg .free hmixP (by kernel_rfl) ?_
    refine G_q rfl (op_move (av := .row 3 c_api_Code a0) rfl ?_)
    refine G_q rfl (op_len_row (by kernel_rfl) rfl ?_)
    refine G_q rfl (op_eql rfl rfl ?_)
    refine G_q rfl (op_move (av := .exact (.bool (decide ((List.length a0 : Int) = 0)))) rfl ?_)
    refine G_split (p := (List.length a0 : Int) = 0) 15 rfl (fun hc => ?_) (fun hc => ?_)
    · replace h := ite_t h hc
      refine G_n rfl rfl ?_
      refine G_n rfl rfl ?_
      refine G_q rfl (op_pick_t rfl (av := .exact (.bool true)) rfl ?_)
      refine G_q rfl (op_move (av := .exact (.bool true)) rfl ?_)
      refine G_n rfl rfl ?_
      refine G_n rfl rfl ?_
      refine G_n rfl rfl ?_
      refine G_n rfl rfl ?_
      refine G_n rfl rfl ?_
      refine G_q rfl (op_pick_t rfl (av := .exact (.bool true)) rfl ?_)
      refine G_q rfl (op_move (av := .exact (.bool true)) rfl ?_)
      refine G_n rfl rfl ?_
      refine G_n rfl rfl ?_
      refine G_n rfl rfl ?_
      refine G_n rfl rfl ?_
      refine G_n rfl rfl ?_
      refine G_n rfl rfl ?_
      refine G_n rfl rfl ?_
      refine G_q rfl (op_pick_t rfl (av := .exact (.bool true)) rfl ?_)
      refine G_nil ?_
      refine kI_normal ⟨_, h, ?_⟩
      exact Sub.of_le (AF.le_put (AV.le_eq rfl) (AF.le_put (AV.le_eq rfl) (AF.le_put (AV.le_eq rfl) (AF.le_top _))))
    · replace h := ite_f h hc
      refine Gy_q rfl rfl rfl (op_move (av := .exact (.int .i64 a1)) rfl ?_)
      refine Gy_q rfl rfl rfl (op_gtr rfl rfl ?_)
      refine G_q rfl (op_pick_f rfl (av := .exact (.bool (decide (64 < a1)))) rfl ?_)
      refine G_q rfl (op_move (av := .exact (.bool (decide (64 < a1)))) rfl ?_)
      refine G_split (p := 64 < a1) 19 rfl (fun hc => ?_) (fun hc => ?_)
      · replace h := ite_t h hc
        refine G_n rfl rfl ?_
        refine G_n rfl rfl ?_
        refine G_n rfl rfl ?_
        refine G_n rfl rfl ?_
        refine G_n rfl rfl ?_
        refine G_q rfl (op_pick_t rfl (av := .exact (.bool true)) rfl ?_)
        refine G_q rfl (op_move (av := .exact (.bool true)) rfl ?_)
        refine G_n rfl rfl ?_
        refine G_n rfl rfl ?_
        refine G_n rfl rfl ?_
        refine G_n rfl rfl ?_
        refine G_n rfl rfl ?_
        refine G_n rfl rfl ?_
        refine G_n rfl rfl ?_
        refine G_q rfl (op_pick_t rfl (av := .exact (.bool true)) rfl ?_)
        refine G_nil ?_
        refine kI_normal ⟨_, h, ?_⟩
        exact Sub.of_le (AF.le_put (AV.le_eq rfl) (AF.le_put (AV.le_eq rfl) (AF.le_put (AV.le_eq rfl) (AF.le_top _))))
      · replace h := ite_f h hc
        refine Gy_q rfl rfl rfl (op_move (av := .row 3 c_api_Code a0) rfl ?_)
        obtain ⟨n10, h⟩ := need_some h
        refine Gy_q rfl rfl rfl (op_index_row (by kernel_rfl) rfl rfl n10.1 n10.2 ?_)
        refine Gy_q rfl rfl rfl (op_fieldAddr_ptr (o := 2) (c' := (List.drop 2 (c_api_Code (gi a0 0)))) (by kernel_rfl) rfl rfl ?_)
        refine Gy_q rfl rfl rfl (op_load1p (a := .exact (.int .i64 ((gi a0 0).2.2))) (by kernel_rfl) rfl rfl ?_)
        refine Gy_q rfl rfl rfl (op_lss rfl rfl ?_)
        refine G_q rfl (op_pick_f rfl (av := .exact (.bool (decide (((gi a0 0).2.2) < 0)))) rfl ?_)
        refine G_q rfl (op_move (av := .exact (.bool (decide (((gi a0 0).2.2) < 0)))) rfl ?_)
        refine G_split (p := ((gi a0 0).2.2) < 0) 26 rfl (fun hc => ?_) (fun hc => ?_)
        · replace h := ite_t h hc
          refine G_n rfl rfl ?_
          refine G_n rfl rfl ?_
          refine G_n rfl rfl ?_
          refine G_n rfl rfl ?_
          refine G_n rfl rfl ?_
          refine G_n rfl rfl ?_
          refine G_n rfl rfl ?_
          refine G_q rfl (op_pick_t rfl (av := .exact (.bool true)) rfl ?_)
          refine G_nil ?_
          refine kI_normal ⟨_, h, ?_⟩
          exact Sub.of_le (AF.le_put (AV.le_eq rfl) (AF.le_put (AV.le_eq rfl) (AF.le_put (AV.le_eq rfl) (AF.le_top _))))
        · replace h := ite_f h hc
          refine Gy_q rfl rfl rfl (op_move (av := .row 3 c_api_Code a0) rfl ?_)
          obtain ⟨n11, h⟩ := need_some h
          refine Gy_q rfl rfl rfl (op_index_row (by kernel_rfl) rfl rfl n11.1 n11.2 ?_)
          refine Gy_q rfl rfl rfl (op_fieldAddr_ptr (o := 2) (c' := (List.drop 2 (c_api_Code (gi a0 0)))) (by kernel_rfl) rfl rfl ?_)
          refine Gy_q rfl rfl rfl (op_load1p (a := .exact (.int .i64 ((gi a0 0).2.2))) (by kernel_rfl) rfl rfl ?_)
          refine Gy_q rfl rfl rfl (op_move (av := .row 3 c_api_Code a0) rfl ?_)
          refine Gy_q rfl rfl rfl (op_len_row (by kernel_rfl) rfl ?_)
          refine Gy_q rfl rfl rfl (op_geq rfl rfl ?_)
          refine G_q rfl (op_pick_f rfl (av := .exact (.bool (decide ((List.length a0 : Int) ≤ ((gi a0 0).2.2))))) rfl ?_)
          refine G_nil ?_
          refine kI_normal ⟨_, h, ?_⟩
          exact Sub.of_le (AF.le_put (AV.le_eq rfl) (AF.le_put (AV.le_eq rfl) (AF.le_put (AV.le_eq rfl) (AF.le_top _))))
  · refine k_cond_b (c := x34_j7) rfl (fun hc => ?_) (fun hc => ?_)
    · replace h := ite_t h hc
      refine k_seq ?_
      refine k_reg .free hmixP (by kernel_rfl) ?_
      refine G_q rfl (op_assign (av := .exact (.pointer none)) rfl ?_)
      refine G_q rfl (op_assign (av := .exact (.slice none 0 0)) rfl ?_)
      refine G_q rfl (op_assign (av := .exact (.bool false)) rfl ?_)
      refine G_nil ?_
      refine kC_normal ?_
      refine k_ret ?_
      refine kC_ret ?_
      obtain rfl := Option.some.inj h
      refine kP_any (endN (af' := (AF.put (AF.put (AF.put AF0 (some 4) (ndA Nd.nil)) (some 5) (.row 3 c_api_Code [])) (some 6) (.exact (.bool false)))) (σ' := []) _ rfl ?_ ⟨rfl, rfl⟩)
      exact Sub.of_le (AF.le_put (AV.le_eq rfl) (AF.le_put (row_nil (by decide)) (AF.le_put (AV.le_eq ndA_nil.symm) (AF.le_top _))))
    · replace h := ite_f h hc
      refine k_skip ?_
      refine kC_normal ?_
      refine k_seq ?_
      refine k_plan [] [(0, 0), (0, 1), (0, 2), (0, 3), (0, 4), (0, 5), (0, 6), (0, 7), (0, 8), (2, 9), (0, 10)] hmixP (by kernel_rfl) ?_
      refine P_q no34_0 rfl (op_move (av := .row 3 c_api_Code a0) rfl ?_)
      obtain ⟨n12, h⟩ := need_some h
      refine P_q no34_0 rfl (op_index_row (by kernel_rfl) rfl rfl n12.1 n12.2 ?_)
      refine P_q no34_0 rfl (op_fieldAddr_ptr (o := 0) (c' := (List.drop 0 (c_api_Code (gi a0 0)))) (by kernel_rfl) rfl rfl ?_)
      refine P_q no34_0 rfl (op_load1p (a := .exact (.int .i64 ((gi a0 0).1))) (by kernel_rfl) rfl rfl ?_)
      refine P_q no34_0 rfl (op_move (av := .row 3 c_api_Code a0) rfl ?_)
      obtain ⟨n13, h⟩ := need_some h
      refine P_q no34_0 rfl (op_index_row (by kernel_rfl) rfl rfl n13.1 n13.2 ?_)
      refine P_q no34_0 rfl (op_fieldAddr_ptr (o := 1) (c' := (List.drop 1 (c_api_Code (gi a0 0)))) (by kernel_rfl) rfl rfl ?_)
      refine P_q no34_0 rfl (op_load1p (a := .exact (.int .i64 ((gi a0 0).2.1))) (by kernel_rfl) rfl rfl ?_)
      refine P_q no34_0 rfl (op_bld (c' := [.exact (.int .i64 ((gi a0 0).1)), .exact (.int .i64 ((gi a0 0).2.1)), .exact (.slice none 0 0)]) (CellsAll.cons rfl CellsOf.int (CellsAll.cons rfl CellsOf.int CellsAll.nil)) rfl (LEs.cons (AV.le_eq rfl) (LEs.cons (AV.le_eq rfl) (LEs.cons (AV.le_eq rfl) LEs.nil))) ?_)
      refine P_l rfl (op_boxI (c := [.exact (.int .i64 ((gi a0 0).1)), .exact (.int .i64 ((gi a0 0).2.1)), .exact (.slice none 0 0)]) rfl CellsOf.agg (LEs.cons (AV.le_eq rfl) (LEs.cons (AV.le_eq rfl) (LEs.cons (AV.le_eq rfl) LEs.nil))) (fun b14 => ?_))
      refine P_q no34_0 rfl (op_assign (av := pA b14 0) rfl ?_)
      refine P_nil ?_
      refine kC_normal ?_
      refine k_seq ?_
      refine k_reg .free hmixP (by kernel_rfl) ?_
      refine G_q rfl (op_move (av := .row 3 c_api_Code a0) rfl ?_)
      obtain ⟨n15, h⟩ := need_some h
      refine G_q rfl (op_index_row (by kernel_rfl) rfl rfl n15.1 n15.2 ?_)
      refine G_q rfl (op_fieldAddr_ptr (o := 2) (c' := (List.drop 2 (c_api_Code (gi a0 0)))) (by kernel_rfl) rfl rfl ?_)
      refine G_q rfl (op_load1p (a := .exact (.int .i64 ((gi a0 0).2.2))) (by kernel_rfl) rfl rfl ?_)
      refine G_q rfl (op_assign (av := .exact (.int .i64 ((gi a0 0).2.2))) rfl ?_)
      refine G_nil ?_
      refine kC_normal ?_
      refine k_seq ?_
      refine k_reg .free hmixP (by kernel_rfl) ?_
      refine G_q rfl (op_move (av := .row 3 c_api_Code a0) rfl ?_)
      obtain ⟨n16, h⟩ := need_some h
      refine G_q rfl (op_slice_rowd (by kernel_rfl) rfl (bnd_some rfl) bnd_none (by decide) n16 (Int.le_refl _) ?_)
      refine G_q rfl (op_assign (av := .row 3 c_api_Code (List.drop (Int.toNat 1) a0)) rfl ?_)
      refine G_nil ?_
      refine kC_normal ?_
      refine k_join2_1 h (fun (x0_j17 : List (Int × Int × Int)) (x7_2_j17 : List Nd) (v7_2_j17 : Value) => (AF.put (AF.put AF0 (some 0) (.row 3 c_api_Code x0_j17)) (some 7) (pA b14 0))) (fun (x0_j17 : List (Int × Int × Int)) (x7_2_j17 : List Nd) (v7_2_j17 : Value) => [vecT Try.prog 56 1 c_P_pattern_node v7_2_j17 x7_2_j17, boxI 58 b14 [.exact (.int .i64 ((gi a0 0).1)), .exact (.int .i64 ((gi a0 0).2.1)), .exact v7_2_j17]]) (fun k17 h => ?_) (fun x0_j17 x7_2_j17 v7_2_j17 h => ?_)
      · refine k_seq ?_
        refine k_reg .free hmixP (by kernel_rfl) ?_
        refine G_q rfl (op_move (av := .exact (.int .i64 ((gi a0 0).2.2))) rfl ?_)
        refine G_q rfl (op_move (av := .exact (.int .i64 0)) rfl ?_)
        refine G_nil ?_
        refine kC_normal ?_
        refine k_block ?_
        refine k_loop3_1 (m_pattern_read_L2 self_pattern_read a0 a1 k17) (m_pattern_read_B2 self_pattern_read a0 a1 k17) (fun _ _ _ => rfl) (fun m _ _ _ => rfl) h (fun (x0_l2 : List (Int × Int × Int)) (x7_2_l2 : List Nd) (x52_l2 : Int) (v7_2_l2 : Value) => (AF.put (AF.put (AF.put (AF.put (AF.put AF0 (some 0) (.row 3 c_api_Code x0_l2)) (some 1) (.exact (.int .i64 a1))) (some 7) (pA b14 0)) (some 51) (.exact (.int .i64 ((gi a0 0).2.2)))) (some 52) (.exact (.int .i64 x52_l2)))) (fun (x0_l2 : List (Int × Int × Int)) (x7_2_l2 : List Nd) (x52_l2 : Int) (v7_2_l2 : Value) => [vecT Try.prog 56 1 c_P_pattern_node v7_2_l2 x7_2_l2, boxI 58 b14 [.exact (.int .i64 ((gi a0 0).1)), .exact (.int .i64 ((gi a0 0).2.1)), .exact v7_2_l2]]) (.slice none 0 0) ?_ (fun rec2 x0_l2 x7_2_l2 x52_l2 v7_2_l2 h => ?_)
        · refine Sub.trans (SubU.to (SubU.nilT (P := Try.prog) (t := 56) (n := 1) (enc := c_P_pattern_node))) ?_
          exact Sub.of_le (AF.le_put (AV.le_eq rfl) (AF.le_put (AV.le_eq rfl) (AF.le_put (AV.le_eq rfl) (AF.le_put (AV.le_eq rfl) (AF.le_put (AV.le_eq rfl) (AF.le_top _))))))
        · unfold m_pattern_read_B2 at h
          refine k_seq ?_
          refine k_reg .free hmixP (by kernel_rfl) ?_
          refine G_q rfl (op_lss rfl rfl ?_)
          refine G_nil ?_
          refine kC_normal ?_
          refine k_seq ?_
          refine k_cond_d (p := x52_l2 < ((gi a0 0).2.2)) rfl (fun hc => ?_) (fun hc => ?_)
          · replace h := ite_t h hc
            refine k_skip ?_
            refine kC_normal ?_
            refine k_seq ?_
            refine k_block ?_
            refine k_seq ?_
            refine k_reg .free hmixP (by kernel_rfl) ?_
            refine G_q rfl (op_move (av := .row 3 c_api_Code x0_l2) rfl ?_)
            refine G_q rfl (op_move (av := .exact (.int .i64 a1)) rfl ?_)
            refine G_q rfl (op_add rfl rfl rfl ?_)
            obtain ⟨y34, hy34, h⟩ := bnd1_some h
            refine G_q rfl (op_pure (hself_pattern_read _ _ _ hy34) Try.func20 (by kernel_rfl) (LEs.cons (AV.le_eq rfl) (LEs.cons (AV.le_eq rfl) LEs.nil)) ?_)
            refine G_q rfl (op_move (av := .tup [ndA y34.1, .row 3 c_api_Code y34.2.1, .exact (.bool y34.2.2)]) rfl ?_)
            refine G_q rfl (op_extract (av := ndA y34.1) rfl rfl ?_)
            refine G_q rfl (op_extract (av := .row 3 c_api_Code y34.2.1) rfl rfl ?_)
            refine G_q rfl (op_extract (av := .exact (.bool y34.2.2)) rfl rfl ?_)
            refine G_q rfl (op_assign (av := ndA y34.1) rfl ?_)
            refine G_q rfl (op_assign (av := .row 3 c_api_Code y34.2.1) rfl ?_)
            refine G_q rfl (op_assign (av := .exact (.bool y34.2.2)) rfl ?_)
            refine G_nil ?_
            refine kC_normal ?_
            refine k_seq ?_
            refine k_seq ?_
            refine k_reg .free hmixP (by kernel_rfl) ?_
            refine G_q rfl (op_move (av := .exact (.bool y34.2.2)) rfl ?_)
            refine G_q rfl (op_not rfl ?_)
            refine G_nil ?_
            refine kC_normal ?_
            refine k_cond_b (c := !y34.2.2) rfl (fun hc => ?_) (fun hc => ?_)
            · replace h := ite_t h hc
              refine k_seq ?_
              refine k_reg .free hmixP (by kernel_rfl) ?_
              refine G_q rfl (op_assign (av := .exact (.pointer none)) rfl ?_)
              refine G_q rfl (op_assign (av := .exact (.slice none 0 0)) rfl ?_)
              refine G_q rfl (op_assign (av := .exact (.bool false)) rfl ?_)
              refine G_nil ?_
              refine kC_normal ?_
              refine k_ret ?_
              refine kC_ret ?_
              refine kB_ret ?_
              refine kC_ret ?_
              refine kI_ret ?_
              refine kB_ret ?_
              refine kI_ret ?_
              obtain rfl := Option.some.inj h
              refine kP_any (endN (af' := (AF.put (AF.put (AF.put AF0 (some 4) (ndA Nd.nil)) (some 5) (.row 3 c_api_Code [])) (some 6) (.exact (.bool false)))) (σ' := []) _ rfl ?_ ⟨rfl, rfl⟩)
              refine Sub.trans (SubU.to SubU.drop) ?_
              refine Sub.trans (SubU.to SubU.drop) ?_
              exact Sub.of_le (AF.le_put (AV.le_eq rfl) (AF.le_put (row_nil (by decide)) (AF.le_put (AV.le_eq ndA_nil.symm) (AF.le_top _))))
            · replace h := ite_f h hc
              refine k_skip ?_
              refine kC_normal ?_
              refine k_seq ?_
              refine k_reg .free hmixP (by kernel_rfl) ?_
              refine G_q rfl (op_move (av := pA b14 0) rfl ?_)
              refine G_q rfl (op_move (av := pA b14 0) rfl ?_)
              refine G_q rfl (op_nilCheck rfl ?_)
              refine G_q rfl (op_fieldAddr (o := 2) (by kernel_rfl) rfl ?_)
              refine G_r rfl (opR_f1 (op_load_box1 (a := .exact v7_2_l2) (by kernel_rfl) rfl rfl ?_))
              refine G_q rfl (op_move (av := ndA y34.1) rfl ?_)
              refine G_q rfl (op_litT (n := 1) (enc := c_P_pattern_node) [y34.1] (CellsAll.cons rfl CellsOf.tree CellsAll.nil) rfl (by kernel_rfl) (LEss.cons (LEs.cons (AV.le_eq rfl) LEs.nil) LEss.nil) ?_)
              obtain ⟨n35, h⟩ := need_some h
              refine G_l rfl (op_appT (by kernel_rfl) rfl rfl oc_c_P_pattern_node n35 (fun v36 => ?_))
              refine G_q rfl (op_nilCheck rfl ?_)
              refine G_q rfl (op_fieldAddr (o := 2) (by kernel_rfl) rfl ?_)
              refine G_l rfl (opB_sl (List.Mem.head _) (fun hsl => (opB_f1 (op_store_box (c' := [.exact v36]) (c3 := [.exact (.int .i64 ((gi a0 0).1)), .exact (.int .i64 ((gi a0 0).2.1)), .exact v36]) rfl rfl (CellsOf.sl hsl) (LEs.cons (AV.le_eq rfl) LEs.nil) (OneC.sl hsl OneC.nil) (by kernel_rfl) (Nat.le_of_ble_eq_true rfl) rfl ?_))))
              refine G_nil ?_
              refine kC_normal ?_
              refine k_reg .free hmixP (by kernel_rfl) ?_
              refine G_q rfl (op_move (av := .row 3 c_api_Code y34.2.1) rfl ?_)
              refine G_q rfl (op_assign (av := .row 3 c_api_Code y34.2.1) rfl ?_)
              refine G_nil ?_
              refine kB_normal ?_
              refine kC_normal ?_
              refine k_reg .free hmixP (by kernel_rfl) ?_
              refine G_q rfl (op_add rfl rfl rfl ?_)
              refine G_q rfl (op_move (av := .exact (.int .i64 (i64 (x52_l2 + 1)))) rfl ?_)
              refine G_nil ?_
              refine kI_normal ⟨_, _, _, v36, h, ?_⟩
              refine Sub.trans (SubU.to SubU.f1) ?_
              exact Sub.of_le (AF.le_put (AV.le_eq rfl) (AF.le_put (AV.le_eq rfl) (AF.le_put (AV.le_eq rfl) (AF.le_put (AV.le_eq rfl) (AF.le_put (AV.le_eq rfl) (AF.le_top _))))))
          · replace h := ite_f h hc
            refine k_exit ?_
            refine kC_exit ?_
            refine kI_exit ?_
            refine kB_exit ?_
            refine kI_normal ⟨_, _, v7_2_l2, h, ?_⟩
            exact Sub.of_le (AF.le_put (AV.le_eq rfl) (AF.le_put (AV.le_eq rfl) (AF.le_top _)))
      · refine k_seq ?_
        refine k_reg .free hmixP (by kernel_rfl) ?_
        refine G_q rfl (op_move (av := pA b14 0) rfl ?_)
        refine G_q rfl (op_move (av := .row 3 c_api_Code x0_j17) rfl ?_)
        refine G_q rfl (op_move (av := pA b14 0) rfl ?_)
        refine G_sub rfl (SubU.trans ((SubU.trans (SubU.know len_c_P_pattern_node) (SubU.trans (SubU.knowC (j := 2) (c' := [.exact (.int .i64 ((gi a0 0).1)), .exact (.int .i64 ((gi a0 0).2.1)), .row 1 c_P_pattern_node x7_2_j17]) rfl rfl) (SubU.drop)))) (SubU.trans (SubU.knowB (a := ndA (mkN ((gi a0 0).1, (gi a0 0).2.1, x7_2_j17))) (ndA_mk ((gi a0 0).1, (gi a0 0).2.1, x7_2_j17))) (SubU.trans (SubU.knowS (s := 7) rfl) (SubU.trans (SubU.knowS (s := 76) rfl) (SubU.trans (SubU.knowS (s := 78) rfl) (SubU.drop)))))) ?_
        obtain ⟨y37, hy37, h⟩ := bnd1_some h
        refine G_q rfl (op_pure (m_pattern_node_formed_ok _ _ hy37) Try.func37 (by kernel_rfl) (LEs.cons (AV.le_eq rfl) LEs.nil) ?_)
        refine G_q rfl (op_assign (av := ndA (mkN ((gi a0 0).1, (gi a0 0).2.1, x7_2_j17))) rfl ?_)
        refine G_q rfl (op_assign (av := .row 3 c_api_Code x0_j17) rfl ?_)
        refine G_q rfl (op_assign (av := .exact (.bool y37)) rfl ?_)
        refine G_nil ?_
        refine kC_normal ?_
        refine k_ret ?_
        obtain rfl := Option.some.inj h
        refine kP_any (endN (af' := (AF.put (AF.put (AF.put AF0 (some 4) (ndA (mkN ((gi a0 0).1, (gi a0 0).2.1, x7_2_j17)))) (some 5) (.row 3 c_api_Code x0_j17)) (some 6) (.exact (.bool y37)))) (σ' := []) _ rfl ?_ ⟨rfl, rfl⟩)
        exact Sub.of_le (AF.le_put (AV.le_eq rfl) (AF.le_put (AV.le_eq rfl) (AF.le_put (AV.le_eq rfl) (AF.le_top _))))
set_option maxHeartbeats 4000000 in
theorem m_pattern_read_S_ok : ∀ n : Nat, (∀ (a0 : List (Int × Int × Int)) (a1 : Int) (r : Nd × (List (Int × Int × Int)) × Bool), m_pattern_read_S n a0 a1 = some r → Pure Try.prog 20 [(.row 3 c_api_Code a0), (.exact (.int .i64 a1))] (.tup [ndA r.1, .row 3 c_api_Code r.2.1, .exact (.bool r.2.2)]))
  | 0 => (fun _ _ _ h => by have h' : (none : Option _) = some _ := h; cases h')
  | n + 1 => by
    have ih := m_pattern_read_S_ok n
    exact fun a0 a1 r h => m_pattern_read_F_ok (m_pattern_read_S n) ih a0 a1 r h
theorem m_pattern_read_ok (a0 : List (Int × Int × Int)) (a1 : Int) (r : Nd × (List (Int × Int × Int)) × Bool) (h : m_pattern_read a0 a1 = some r) : Pure Try.prog 20 [(.row 3 c_api_Code a0), (.exact (.int .i64 a1))] (.tup [ndA r.1, .row 3 c_api_Code r.2.1, .exact (.bool r.2.2)]) := (m_pattern_read_S_ok FU) a0 a1 r h
set_option maxHeartbeats 4000000 in
theorem m_pattern_whole_ok (a0 : List (Int × Int × Int)) (r : Nd × Bool) (h : m_pattern_whole a0 = some r) : Pure Try.prog 11 [(.row 3 c_api_Code a0)] (.tup [ndA r.1, .exact (.bool r.2)]) := by
  unfold m_pattern_whole at h
  refine Pure.ofFun (fun_of_awp Try.func11 rfl Try.ntmps11 (by simp) rfl (res2 rfl) fun E hE => k_end ?_)
  refine k_seq ?_
  refine k_reg .free hmixP (by kernel_rfl) ?_
  refine G_q rfl (op_assign (av := .exact (.pointer none)) rfl ?_)
  refine G_q rfl (op_assign (av := .exact (.bool false)) rfl ?_)
  refine G_nil ?_
  refine kC_normal ?_
  refine k_seq ?_
  refine k_reg .free hmixP (by kernel_rfl) ?_
  refine G_q rfl (op_move (av := .row 3 c_api_Code a0) rfl ?_)
  obtain ⟨y1, hy1, h⟩ := bnd1_some h
  refine G_q rfl (op_pure (m_pattern_read_ok _ _ _ hy1) Try.func20 (by kernel_rfl) (LEs.cons (AV.le_eq rfl) (LEs.cons (AV.le_eq rfl) LEs.nil)) ?_)
  refine G_q rfl (op_move (av := .tup [ndA y1.1, .row 3 c_api_Code y1.2.1, .exact (.bool y1.2.2)]) rfl ?_)
  refine G_q rfl (op_extract (av := ndA y1.1) rfl rfl ?_)
  refine G_q rfl (op_extract (av := .row 3 c_api_Code y1.2.1) rfl rfl ?_)
  refine G_q rfl (op_extract (av := .exact (.bool y1.2.2)) rfl rfl ?_)
  refine G_q rfl (op_assign (av := ndA y1.1) rfl ?_)
  refine G_q rfl (op_assign (av := .row 3 c_api_Code y1.2.1) rfl ?_)
  refine G_q rfl (op_assign (av := .exact (.bool y1.2.2)) rfl ?_)
  refine G_nil ?_
  refine kC_normal ?_
  refine k_join1_0 h (fun (x3_j2 : Bool) => (AF.put (AF.put AF0 (some 2) (ndA y1.1)) (some 3) (.exact (.bool x3_j2)))) (fun (x3_j2 : Bool) => []) (fun k2 h => ?_) (fun x3_j2 h => ?_)
  · refine k_reg .free hmixP (by kernel_rfl) ?_
    refine G_q rfl (op_move (av := ndA y1.1) rfl ?_)
    refine G_q rfl (op_move (av := .exact (.bool y1.2.2)) rfl ?_)
    refine G_q rfl (op_move (av := .exact (.bool y1.2.2)) rfl ?_)
    refine G_splitB (c := y1.2.2) 15 rfl (fun hc => ?_) (fun hc => ?_)
    · replace h := ite_t h hc
      refine Gy_q rfl rfl rfl (op_move (av := .row 3 c_api_Code y1.2.1) rfl ?_)
      refine Gy_q rfl rfl rfl (op_len_row (by kernel_rfl) rfl ?_)
      refine Gy_q rfl rfl rfl (op_eql rfl rfl ?_)
      refine G_q rfl (op_pick_t rfl (av := .exact (.bool (decide ((List.length y1.2.1 : Int) = 0)))) rfl ?_)
      refine G_q rfl (op_move (av := .exact (.bool (decide ((List.length y1.2.1 : Int) = 0)))) rfl ?_)
      refine G_split (p := (List.length y1.2.1 : Int) = 0) 20 rfl (fun hc => ?_) (fun hc => ?_)
      · replace h := ite_t h hc
        refine Gy_q rfl rfl rfl (op_move (av := .row 3 c_api_Code a0) rfl ?_)
        refine Gy_q rfl rfl rfl (op_len_row (by kernel_rfl) rfl ?_)
        refine Gy_q rfl rfl rfl (op_leq rfl rfl ?_)
        refine G_q rfl (op_pick_t rfl (av := .exact (.bool (decide ((List.length a0 : Int) ≤ 8192)))) rfl ?_)
        refine G_q rfl (op_assign (av := ndA y1.1) rfl ?_)
        refine G_q rfl (op_assign (av := .exact (.bool (decide ((List.length a0 : Int) ≤ 8192)))) rfl ?_)
        refine G_nil ?_
        refine kI_normal ⟨_, h, ?_⟩
        exact Sub.of_le (AF.le_put (AV.le_eq rfl) (AF.le_put (AV.le_eq rfl) (AF.le_top _)))
      · replace h := ite_f h hc
        refine G_n rfl rfl ?_
        refine G_n rfl rfl ?_
        refine G_n rfl rfl ?_
        refine G_q rfl (op_pick_f rfl (av := .exact (.bool false)) rfl ?_)
        refine G_q rfl (op_assign (av := ndA y1.1) rfl ?_)
        refine G_q rfl (op_assign (av := .exact (.bool false)) rfl ?_)
        refine G_nil ?_
        refine kI_normal ⟨_, h, ?_⟩
        exact Sub.of_le (AF.le_put (AV.le_eq rfl) (AF.le_put (AV.le_eq rfl) (AF.le_top _)))
    · replace h := ite_f h hc
      refine G_n rfl rfl ?_
      refine G_n rfl rfl ?_
      refine G_n rfl rfl ?_
      refine G_q rfl (op_pick_f rfl (av := .exact (.bool false)) rfl ?_)
      refine G_q rfl (op_move (av := .exact (.bool false)) rfl ?_)
      refine G_n rfl rfl ?_
      refine G_n rfl rfl ?_
      refine G_n rfl rfl ?_
      refine G_q rfl (op_pick_f rfl (av := .exact (.bool false)) rfl ?_)
      refine G_q rfl (op_assign (av := ndA y1.1) rfl ?_)
      refine G_q rfl (op_assign (av := .exact (.bool false)) rfl ?_)
      refine G_nil ?_
      refine kI_normal ⟨_, h, ?_⟩
      exact Sub.of_le (AF.le_put (AV.le_eq rfl) (AF.le_put (AV.le_eq rfl) (AF.le_top _)))
  · refine k_ret ?_
    obtain rfl := Option.some.inj h
    refine kP_any (endN (af' := (AF.put (AF.put AF0 (some 2) (ndA y1.1)) (some 3) (.exact (.bool x3_j2)))) (σ' := []) _ rfl ?_ ⟨rfl, rfl⟩)
    exact Sub.of_le (AF.le_put (AV.le_eq rfl) (AF.le_put (AV.le_eq rfl) (AF.le_top _)))
set_option maxHeartbeats 4000000 in
theorem m_cmp_isNaN_byte_ok (a0 : UInt8) (r : Bool) (h : m_cmp_isNaN_byte a0 = some r) : Pure Try.prog 94 [(.exact (.int .u8 (UInt8.toNat a0 : Int)))] (.exact (.bool r)) := by
  unfold m_cmp_isNaN_byte at h
  refine Pure.ofFun (fun_of_awp Try.func94 rfl Try.ntmps94 (by simp) rfl (res1 rfl) fun E hE => k_end ?_)
  refine k_seq ?_
  refine k_reg .free hmixP (by kernel_rfl) ?_
  refine G_q rfl (op_assign (av := .exact (.bool false)) rfl ?_)
  refine G_nil ?_
  refine kC_normal ?_
  refine k_seq ?_
  refine k_reg .free hmixP (by kernel_rfl) ?_
  refine G_q rfl (op_move (av := .exact (.int .u8 (UInt8.toNat a0 : Int))) rfl ?_)
  refine G_q rfl (op_move (av := .exact (.int .u8 (UInt8.toNat a0 : Int))) rfl ?_)
  refine G_q rfl (op_neqU (a := a0) (b := a0) rfl rfl ?_)
  refine G_q rfl (op_assign (av := .exact (.bool (decide (¬ a0 = a0)))) rfl ?_)
  refine G_nil ?_
  refine kC_normal ?_
  refine k_ret ?_
  obtain rfl := Option.some.inj h
  refine kP_any (endN (af' := (AF.put AF0 (some 2) (.exact (.bool (decide (¬ a0 = a0)))))) (σ' := []) _ rfl ?_ ⟨rfl, rfl⟩)
  exact Sub.of_le (AF.le_put (AV.le_eq rfl) (AF.le_top _))
end Go.Proofs.Ytpfdeahcjlfijaa
