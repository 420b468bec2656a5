/- Types and their cells, by program. -/
import Derived.Test.YtpfdeahcjlfijaaGreatQC4
import Derived.Test.YtpfdeahcjlfijaaGreatQC1
namespace Go.Proofs.YtpfdeahcjlfijaaGreat
open Go.RowKit
abbrev c_int (x : Int) : List AV := [.exact (.int .i64 x)]
abbrev c_cspcheckgen_Choices (x : (List Int) × Int) : List AV := [.row 1 c_int x.1, .exact (.int .i64 x.2)]
abbrev zan (x : Int × Int × Int) : List AV := [.exact (.int .i64 x.1), .exact (.int .i64 x.2.1), .exact (.int .i64 x.2.2)]
theorem len_c_api_Code (x : Int × Int × Int) : (zan x).length = 3 := rfl
theorem oc_c_api_Code (x : Int × Int × Int) : OneC (zan x) := (OneC.int (OneC.int (OneC.int OneC.nil)))
abbrev c_L_api_Code (x : List (Int × Int × Int)) : List AV := [.row 3 zan x]
abbrev c_uint8 (x : UInt8) : List AV := [.exact (.int .u8 (UInt8.toNat x : Int))]
theorem len_c_uint8 (x : UInt8) : (c_uint8 x).length = 1 := rfl
theorem oc_c_uint8 (x : UInt8) : OneC (c_uint8 x) := (OneC.int OneC.nil)
abbrev zad (x : List UInt8) : List AV := [.exact (.string (bs x))]
theorem len_c_api_Value (x : List UInt8) : (zad x).length = 1 := rfl
theorem oc_c_api_Value (x : List UInt8) : OneC (zad x) := (OneC.str OneC.nil)
abbrev c_P_pattern_node (x : Nd) : List AV := [ndA x]
theorem len_c_P_pattern_node (x : Nd) : (c_P_pattern_node x).length = 1 := rfl
theorem oc_c_P_pattern_node (x : Nd) : OneC (c_P_pattern_node x) := (OneC.tree OneC.nil)
abbrev zah (x : Int × Int × (List Nd)) : List AV := [.exact (.int .i64 x.1), .exact (.int .i64 x.2.1), .row 1 c_P_pattern_node x.2.2]
abbrev c_L_api_Value (x : List (List UInt8)) : List AV := [.row 1 zad x]
end Go.Proofs.YtpfdeahcjlfijaaGreat
/- The sorts' contracts, laid by program. -/
namespace Go.Proofs.YtpfdeahcjlfijaaGreat
open Go.RowKit Go.Sort
set_option maxRecDepth 100000
def lay0_ren : Go.Shelf.Ren := ⟨fun | 6 => 101 | 14 => 109 | 15 => 110 | 20 => 115 | 21 => 116 | 22 => 117 | 23 => 118 | 24 => 119 | 25 => 120 | 26 => 121 | 27 => 122 | 28 => 123 | 29 => 124 | 46 => 129 | 47 => 130 | 48 => 131 | 49 => 132 | 50 => 133 | 57 => 136 | n => n, fun | 0 => 0 | 3 => 3 | 4 => 4 | 5 => 5 | 9 => 9 | 22 => 27 | 24 => 30 | 25 => 83 | 39 => 79 | 45 => 123 | 46 => 124 | 50 => 128 | 53 => 131 | 55 => 102 | 66 => 136 | 70 => 140 | 76 => 144 | 77 => 145 | n => n, fun n => n⟩
theorem lay0 : Go.Proofs.SlLaysF.n6 Tryz.prog lay0_ren where
  mixed := by kernel_rfl
  f6 := ⟨Tryz.f101.name, by kernel_rfl, Tryz.func101.trans (congrArg some (by kernel_rfl))⟩
  f14 := ⟨Tryz.f109.name, by kernel_rfl, Tryz.func109.trans (congrArg some (by kernel_rfl))⟩
  f15 := Tryz.func110.trans (congrArg some (by kernel_rfl))
  f20 := ⟨Tryz.f115.name, by kernel_rfl, Tryz.func115.trans (congrArg some (by kernel_rfl))⟩
  f21 := ⟨Tryz.f116.name, by kernel_rfl, Tryz.func116.trans (congrArg some (by kernel_rfl))⟩
  f22 := ⟨Tryz.f117.name, by kernel_rfl, Tryz.func117.trans (congrArg some (by kernel_rfl))⟩
  f23 := ⟨Tryz.f118.name, by kernel_rfl, Tryz.func118.trans (congrArg some (by kernel_rfl))⟩
  f24 := ⟨Tryz.f119.name, by kernel_rfl, Tryz.func119.trans (congrArg some (by kernel_rfl))⟩
  f25 := ⟨Tryz.f120.name, by kernel_rfl, Tryz.func120.trans (congrArg some (by kernel_rfl))⟩
  f26 := ⟨Tryz.f121.name, by kernel_rfl, Tryz.func121.trans (congrArg some (by kernel_rfl))⟩
  f27 := ⟨Tryz.f122.name, by kernel_rfl, Tryz.func122.trans (congrArg some (by kernel_rfl))⟩
  f28 := Tryz.func123.trans (congrArg some (by kernel_rfl))
  f29 := Tryz.func124.trans (congrArg some (by kernel_rfl))
  f46 := ⟨Tryz.f129.name, by kernel_rfl, Tryz.func129.trans (congrArg some (by kernel_rfl))⟩
  f47 := Tryz.func130.trans (congrArg some (by kernel_rfl))
  f48 := Tryz.func131.trans (congrArg some (by kernel_rfl))
  f49 := ⟨Tryz.f132.name, by kernel_rfl, Tryz.func132.trans (congrArg some (by kernel_rfl))⟩
  f50 := ⟨Tryz.f133.name, by kernel_rfl, Tryz.func133.trans (congrArg some (by kernel_rfl))⟩
  f57 := ⟨Tryz.f136.name, by kernel_rfl, Tryz.func136.trans (congrArg some (by kernel_rfl))⟩
  t0 := Tryz.underlying0
  a0 := Tryz.isAgg0
  z0 := Tryz.sizeOf0
  v0 := Tryz.zeroValue0
  t3 := Tryz.underlying3
  a3 := Tryz.isAgg3
  z3 := Tryz.sizeOf3
  v3 := Tryz.zeroValue3
  t4 := Tryz.underlying4
  a4 := Tryz.isAgg4
  z4 := Tryz.sizeOf4
  v4 := Tryz.zeroValue4
  t5 := Tryz.underlying5
  a5 := Tryz.isAgg5
  z5 := Tryz.sizeOf5
  v5 := Tryz.zeroValue5
  t9 := Tryz.underlying9
  a9 := Tryz.isAgg9
  z9 := Tryz.sizeOf9
  v9 := Tryz.zeroValue9
  t22 := Tryz.underlying27
  a22 := Tryz.isAgg27
  z22 := Tryz.sizeOf27
  v22 := Tryz.zeroValue27
  a24 := Tryz.isAgg30
  z24 := Tryz.sizeOf30
  t25 := Tryz.underlying83
  a25 := Tryz.isAgg83
  z25 := Tryz.sizeOf83
  v25 := Tryz.zeroValue83
  t39 := Tryz.underlying79
  a39 := Tryz.isAgg79
  z39 := Tryz.sizeOf79
  v39 := Tryz.zeroValue79
  t45 := Tryz.underlying123
  a45 := Tryz.isAgg123
  z45 := Tryz.sizeOf123
  v45 := Tryz.zeroValue123
  t46 := Tryz.underlying124
  a46 := Tryz.isAgg124
  z46 := Tryz.sizeOf124
  v46 := Tryz.zeroValue124
  t50 := Tryz.underlying128
  a50 := Tryz.isAgg128
  z50 := Tryz.sizeOf128
  v50 := Tryz.zeroValue128
  t53 := Tryz.underlying131
  a53 := Tryz.isAgg131
  z53 := Tryz.sizeOf131
  v53 := Tryz.zeroValue131
  t55 := Tryz.underlying102
  a55 := Tryz.isAgg102
  z55 := Tryz.sizeOf102
  v55 := Tryz.zeroValue102
  t66 := Tryz.underlying136
  a66 := Tryz.isAgg136
  z66 := Tryz.sizeOf136
  v66 := Tryz.zeroValue136
  t70 := Tryz.underlying140
  a70 := Tryz.isAgg140
  z70 := Tryz.sizeOf140
  v70 := Tryz.zeroValue140
  t76 := Tryz.underlying144
  a76 := Tryz.isAgg144
  z76 := Tryz.sizeOf144
  v76 := Tryz.zeroValue144
  t77 := Tryz.underlying145
  a77 := Tryz.isAgg145
  z77 := Tryz.sizeOf145
  v77 := Tryz.zeroValue145
theorem m_sort_api_Value_ok (hc : ∀ (x y : List UInt8) (r : Int), m_value_Compare x y = some r → Pure Tryz.prog 102 [(.exact (.string (bs x))), (.exact (.string (bs y)))] (.exact (.int .i64 r))) {w0 : Value} (a0 r : List (List UInt8)) (h : m_sortby m_value_Compare a0 = some r) : Fun Tryz.prog 101 [.exact w0, .exact (.func (.func 102) #[] #[])] [vecT Tryz.prog 27 1 zad w0 a0] (fun a s => a = .tup [] ∧ s = [vecT Tryz.prog 27 1 zad w0 r]) :=
  m_sortby1_ok (e := fun x : List UInt8 => (.string (bs x))) lay0 { lay0 with } (fun _ => rfl) (fun _ => rfl) 102 (fun args w => by exact enters_of Tryz.func102 (by kernel_rfl) rfl args w) 27 hc a0 r h
end Go.Proofs.YtpfdeahcjlfijaaGreat
/- The functions compute their models, by program. -/
namespace Go.Proofs.YtpfdeahcjlfijaaGreat
open Go.RowKit
attribute [local irreducible] AV.exact AV.top AV.row AV.ptr AV.agg AV.tup AV.eptr AV.fn AV.nilq AV.nilqn opA opB opM opR Quiet Loud Reads wpG awp den Sub SubU Pure Fun vecI vecT boxI CellsAll CellsOf OneC LEs LEss
set_option maxRecDepth 100000

theorem lq {x y : AF} {d : Nat} {av : AV} (h1 : x d = av) (h2 : AF.le x y) : AF.le x (y.put (some d) av) := AF.le_put (AV.le_eq h1) h2
abbrev AV.xi (n : Int) : AV := .exact (.int .i64 n)
abbrev AV.xb (b : Bool) : AV := .exact (.bool b)
abbrev AV.xs (s : List UInt8) : AV := .exact (.string (bs s))
theorem lt0 {x : AF} : AF.le x (fun _ => .top) := AF.le_top x

set_option maxHeartbeats 4000000 in
theorem m_gen_New_ok (a0 : List Int) (r : ((List Int) × Int)) (h : m_gen_New a0 = some r) : Fun Tryz.prog 7 [(.row 1 c_int a0)] [] (fun a s => ∃ z0, a = pA z0 0 ∧ s = [boxI 53 z0 [.row 1 c_int r.1, .exact (.int .i64 r.2)]]) := by
 unfold m_gen_New at h
 refine fun_of_awp Tryz.func7 rfl Tryz.ntmps7 (by simp) rfl (res1 rfl) fun E hE => k_end ?_
 refine zae (zag .free hmixP (by kernel_rfl) ?_)
 refine G_q rfl (zab (av := .exact (.pointer none)) rfl ?_)
 refine G_nil (zaa (zae (zag .free hmixP (by kernel_rfl) ?_)))
 refine G_q rfl (zac (av := .row 1 c_int a0) rfl ?_)
 refine G_q rfl (op_bld (c' := c_cspcheckgen_Choices (a0, 0)) (CellsAll.cons rfl CellsOf.row CellsAll.nil) rfl (LEs.cons (AV.le_eq rfl) (LEs.cons (AV.le_eq rfl) LEs.nil)) ?_)
 refine G_l rfl (op_boxI (c := [.row 1 c_int ((a0, 0).1), .xi ((a0, 0).2)]) rfl CellsOf.agg (LEs.cons (AV.le_eq rfl) (LEs.cons (AV.le_eq rfl) LEs.nil)) (fun b1 => ?_))
 refine G_q rfl (zab (av := pA b1 0) rfl ?_)
 refine G_nil (zaa (k_ret ?_))
 obtain rfl := Option.some.inj h
 refine zaj (endN (af' := (AF.put AF0 (some 2) (pA b1 0))) (σ' := [boxI 53 b1 [.row 1 c_int ((a0, 0).1), .xi ((a0, 0).2)]]) _ rfl ?_ ⟨b1, rfl, rfl⟩)
 exact Sub.of_le (lq rfl lt0)
set_option maxHeartbeats 4000000 in
theorem m_help_Mod_ok (a0 : Int) (a1 : Int) (r : Int) (h : m_help_Mod a0 a1 = some r) : Pure Tryz.prog 22 [(.exact (.int .i64 a0)), (.exact (.int .i64 a1))] (.exact (.int .i64 r)) := by
 unfold m_help_Mod at h
 refine Pure.ofFun (fun_of_awp Tryz.func22 rfl Tryz.ntmps22 (by simp) rfl (res1 rfl) fun E hE => k_end ?_)
 refine zae (zag .free hmixP (by kernel_rfl) ?_)
 refine G_q rfl (zab (av := .xi 0) rfl ?_)
 refine G_nil (zaa (zae (zag .free hmixP (by kernel_rfl) ?_)))
 refine G_q rfl (zac (av := .xi a0) rfl ?_)
 refine G_q rfl (op_convInt (k := .u64) (by kernel_rfl) rfl rfl ?_)
 refine G_q rfl (zac (av := .xi a1) rfl ?_)
 refine G_q rfl (op_convInt (k := .u64) (by kernel_rfl) rfl rfl ?_)
 obtain ⟨n1, h⟩ := need_some h
 refine G_q rfl (op_rem rfl rfl n1 rfl ?_)
 refine G_q rfl (op_convInt (k := .i64) (by kernel_rfl) rfl rfl ?_)
 refine G_q rfl (zab (av := .xi (i64 (Int.tmod (IntKind.u64.wrap (a0)) (IntKind.u64.wrap (a1))))) rfl ?_)
 refine G_nil (zaa (k_ret ?_))
 obtain rfl := Option.some.inj h
 refine zaj (endN (af' := (AF.put AF0 (some 4) (.xi (i64 (Int.tmod (IntKind.u64.wrap (a0)) (IntKind.u64.wrap (a1))))))) (σ' := []) _ rfl ?_ ⟨rfl, rfl⟩)
 exact Sub.of_le (lq rfl lt0)
set_option maxHeartbeats 4000000 in
theorem m_gen_Choices_Next_ok {w0 : Nat} (a0 : (List Int) × Int) (a1 : Int) (r : Int × ((List Int) × Int)) (h : m_gen_Choices_Next a0 a1 = some r) : Fun Tryz.prog 18 [(pA w0 0), (.exact (.int .i64 a1))] [boxI 53 w0 [.row 1 c_int a0.1, .exact (.int .i64 a0.2)]] (fun a s => a = .exact (.int .i64 r.1) ∧ s = [boxI 53 w0 [.row 1 c_int r.2.1, .exact (.int .i64 r.2.2)]]) := by
 unfold m_gen_Choices_Next at h
 refine fun_of_awp Tryz.func18 rfl Tryz.ntmps18 (by simp) rfl (res1 rfl) fun E hE => k_end ?_
 refine zae (zag .free hmixP (by kernel_rfl) ?_)
 refine G_q rfl (zab (av := .xi 0) rfl ?_)
 refine G_nil (zaa (zae (zae ?_)))
 refine k_plan [] [(0, 0), (0, 1), (0, 2), (0, 4), (0, 5), (0, 6), (1, 3), (1, 7), (0, 8), (0, 9)] hmixP (by kernel_rfl) ?_
 refine P_q no34_0 rfl (zac (av := pA w0 0) rfl ?_)
 refine P_q no34_0 rfl (op_nilCheck rfl ?_)
 refine P_q no34_0 rfl (op_fieldAddr (o := 1) (by kernel_rfl) rfl ?_)
 refine P_q no34_0 rfl (zac (av := pA w0 0) rfl ?_)
 refine P_q no34_0 rfl (op_nilCheck rfl ?_)
 refine P_q no34_0 rfl (op_fieldAddr (o := 0) (by kernel_rfl) rfl ?_)
 refine P_r rfl (op_load_box1 (a := .xi a0.2) (by kernel_rfl) rfl rfl ?_)
 refine P_r rfl (op_load_box1 (a := .row 1 c_int a0.1) (by kernel_rfl) rfl rfl ?_)
 refine P_q no34_0 rfl (op_len_row (by kernel_rfl) rfl ?_)
 refine P_q no34_0 rfl (op_geq rfl rfl ?_)
 refine P_nil (zaa ?_)
 refine zak (p := (List.length a0.1 : Int) ≤ a0.2) rfl (fun hc => ?_) (fun hc => ?_)
 ·replace h := ite_t h hc
  refine zae (zag .free hmixP (by kernel_rfl) ?_)
  refine G_q rfl (zab (av := .xi 0) rfl ?_)
  refine G_nil (zaa (k_ret (kC_ret ?_)))
  obtain rfl := Option.some.inj h
  refine zaj (endN (af' := (AF.put AF0 (some 4) (.xi 0))) (σ' := [boxI 53 w0 [.row 1 c_int a0.1, .xi a0.2]]) _ rfl ?_ ⟨rfl, rfl⟩)
  exact Sub.of_le (lq rfl lt0)
 ·replace h := ite_f h hc
  refine k_skip (zaa (zae (zag .free hmixP (by kernel_rfl) ?_)))
  refine G_q rfl (zac (av := pA w0 0) rfl ?_)
  refine G_q rfl (op_nilCheck rfl ?_)
  refine G_q rfl (op_fieldAddr (o := 1) (by kernel_rfl) rfl ?_)
  refine G_r rfl (op_load_box1 (a := .xi a0.2) (by kernel_rfl) rfl rfl ?_)
  refine G_q rfl (op_add rfl rfl rfl ?_)
  refine G_q rfl (op_nilCheck rfl ?_)
  refine G_q rfl (op_fieldAddr (o := 1) (by kernel_rfl) rfl ?_)
  refine G_l rfl (op_store_box (c' := [.xi (i64 (a0.2 + 1))]) (c3 := [.row 1 c_int a0.1, .xi (i64 (a0.2 + 1))]) rfl rfl CellsOf.int (LEs.cons (AV.le_eq rfl) LEs.nil) (OneC.int OneC.nil) (by kernel_rfl) (Nat.le_of_ble_eq_true rfl) rfl ?_)
  refine G_nil (zaa (zae ?_))
  refine k_plan [] [(0, 0), (0, 1), (0, 2), (0, 4), (0, 5), (0, 6), (0, 11), (1, 3), (1, 7), (0, 8), (0, 9), (0, 10), (0, 12), (0, 13)] hmixP (by kernel_rfl) ?_
  refine P_q no34_0 rfl (zac (av := pA w0 0) rfl ?_)
  refine P_q no34_0 rfl (op_nilCheck rfl ?_)
  refine P_q no34_0 rfl (op_fieldAddr (o := 0) (by kernel_rfl) rfl ?_)
  refine P_q no34_0 rfl (zac (av := pA w0 0) rfl ?_)
  refine P_q no34_0 rfl (op_nilCheck rfl ?_)
  refine P_q no34_0 rfl (op_fieldAddr (o := 1) (by kernel_rfl) rfl ?_)
  refine P_q no34_0 rfl (zac (av := .xi a1) rfl ?_)
  refine P_r rfl (op_load_box1 (a := .row 1 c_int a0.1) (by kernel_rfl) rfl rfl ?_)
  refine P_r rfl (op_load_box1 (a := .xi (i64 (a0.2 + 1))) (by kernel_rfl) rfl rfl ?_)
  refine P_q no34_0 rfl (op_sub rfl rfl rfl ?_)
  obtain ⟨n1, h⟩ := need_some h
  refine P_q no34_0 rfl (op_index_row (by kernel_rfl) rfl rfl n1.1 n1.2 ?_)
  refine P_q no34_0 rfl (zaq (a := .xi (gi a0.1 (i64 ((i64 (a0.2 + 1)) - 1)))) (by kernel_rfl) rfl rfl ?_)
  obtain ⟨y2, hy2, h⟩ := bnd1_some h
  refine P_q no34_0 rfl (zal (m_help_Mod_ok _ _ _ hy2) Tryz.func22 (by kernel_rfl) (LEs.cons (AV.le_eq rfl) (LEs.cons (AV.le_eq rfl) LEs.nil)) ?_)
  refine P_q no34_0 rfl (zab (av := .xi y2) rfl ?_)
  refine P_nil (zaa (k_ret ?_))
  obtain rfl := Option.some.inj h
  refine zaj (endN (af' := (AF.put AF0 (some 4) (.xi y2))) (σ' := [boxI 53 w0 [.row 1 c_int a0.1, .xi (i64 (a0.2 + 1))]]) _ rfl ?_ ⟨rfl, rfl⟩)
  exact Sub.of_le (lq rfl lt0)
set_option maxHeartbeats 4000000 in
theorem m_law12_node_ok (a0 : Int) (a1 : Int) (a2 : List (List (Int × Int × Int))) (r : (List (Int × Int × Int))) (h : m_law12_node a0 a1 a2 = some r) : Pure Tryz.prog 17 [(.exact (.int .i64 a0)), (.exact (.int .i64 a1)), (.row 1 c_L_api_Code a2)] (.row 3 zan r) := by
 unfold m_law12_node at h
 refine Pure.ofFun (fun_of_awp Tryz.func17 rfl Tryz.ntmps17 (by simp) rfl (res1 rfl) fun E hE => k_end ?_)
 refine zae (zag .free hmixP (by kernel_rfl) ?_)
 refine G_q rfl (zab (av := .exact (.slice none 0 0)) rfl ?_)
 refine G_nil (zaa (zae (zag .free hmixP (by kernel_rfl) ?_)))
 refine G_q rfl (zac (av := .xi a0) rfl ?_)
 refine G_q rfl (zac (av := .xi a1) rfl ?_)
 refine G_q rfl (zac (av := .row 1 c_L_api_Code a2) rfl ?_)
 refine G_q rfl (op_len_row (by kernel_rfl) rfl ?_)
 refine G_q rfl (op_bld (c' := zan (a0, a1, (List.length a2 : Int))) (CellsAll.cons rfl CellsOf.int (CellsAll.cons rfl CellsOf.int (CellsAll.cons rfl CellsOf.int CellsAll.nil))) rfl (LEs.cons (AV.le_eq rfl) (LEs.cons (AV.le_eq rfl) (LEs.cons (AV.le_eq rfl) LEs.nil))) ?_)
 refine G_l rfl (op_litI (n := 3) (enc := zan) [(a0, a1, (List.length a2 : Int))] (by kernel_rfl) (CellsAll.cons rfl CellsOf.agg CellsAll.nil) rfl (by kernel_rfl) (LEss.cons (LEs.cons (AV.le_eq rfl) (LEs.cons (AV.le_eq rfl) (LEs.cons (AV.le_eq rfl) LEs.nil))) LEss.nil) (fun v1 => ?_))
 refine G_q rfl (zab (av := .exact v1) rfl ?_)
 refine G_nil (zaa ?_)
 refine k_join1_1 h (fun (x7_j2 : List (Int × Int × Int)) (v7_j2 : Value) => (AF.put AF0 (some 7) (.exact v7_j2))) (fun (x7_j2 : List (Int × Int × Int)) (v7_j2 : Value) => [vecT Tryz.prog 25 3 zan v7_j2 x7_j2]) (fun k2 h => ?_) (fun x7_j2 v7_j2 h => ?_)
 ·refine zae (zag .free hmixP (by kernel_rfl) ?_)
  refine G_q rfl (zab (av := .xi 0) rfl ?_)
  refine G_nil (zaa (k_block ?_))
  refine k_loop2_1 (m_law12_node_L2 a2 k2) (m_law12_node_B2 a2 k2) (fun _ _ => rfl) (fun m _ _ => rfl) h (fun (x7_l2 : List (Int × Int × Int)) (x8_l2 : Int) (v7_l2 : Value) => (AF.put (AF.put (AF.put AF0 (some 2) (.row 1 c_L_api_Code a2)) (some 7) (.exact v7_l2)) (some 8) (.xi x8_l2))) (fun (x7_l2 : List (Int × Int × Int)) (x8_l2 : Int) (v7_l2 : Value) => [vecT Tryz.prog 25 3 zan v7_l2 x7_l2]) v1 ?_ (fun rec2 x7_l2 x8_l2 v7_l2 h => ?_)
  ·exact Sub.of_le (lq rfl (lq rfl (lq rfl lt0)))
  ·unfold m_law12_node_B2 at h
   refine zae (zae (zag .free hmixP (by kernel_rfl) ?_))
   refine G_q rfl (zac (av := .xi x8_l2) rfl ?_)
   refine G_q rfl (zac (av := .row 1 c_L_api_Code a2) rfl ?_)
   refine G_q rfl (op_len_row (by kernel_rfl) rfl ?_)
   refine G_q rfl (op_lss rfl rfl ?_)
   refine G_nil (zaa ?_)
   refine zak (p := x8_l2 < (List.length a2 : Int)) rfl (fun hc => ?_) (fun hc => ?_)
   ·replace h := ite_t h hc
    refine k_skip (zaa (zae (k_block (zag .free hmixP (by kernel_rfl) ?_))))
    refine G_q rfl (zac (av := .exact v7_l2) rfl ?_)
    refine G_q rfl (zac (av := .row 1 c_L_api_Code a2) rfl ?_)
    refine G_q rfl (zac (av := .xi x8_l2) rfl ?_)
    obtain ⟨n19, h⟩ := need_some h
    refine G_q rfl (op_index_row (by kernel_rfl) rfl rfl n19.1 n19.2 ?_)
    refine G_q rfl (zaq (a := .row 3 zan (gi a2 x8_l2)) (by kernel_rfl) rfl rfl ?_)
    obtain ⟨n20, h⟩ := need_some h
    refine G_l rfl (op_appT (by kernel_rfl) rfl rfl oc_c_api_Code n20 (fun v21 => ?_))
    refine G_q rfl (zab (av := .exact v21) rfl ?_)
    refine G_nil (kB_normal (zaa (zag .free hmixP (by kernel_rfl) ?_)))
    refine G_q rfl (zac (av := .xi x8_l2) rfl ?_)
    refine G_q rfl (op_add rfl rfl rfl ?_)
    refine G_q rfl (zab (av := .xi (i64 (x8_l2 + 1))) rfl ?_)
    refine G_nil ?_
    refine zaf ⟨_, _, v21, h, ?_⟩
    exact Sub.of_le (lq rfl (lq rfl (lq rfl lt0)))
   ·replace h := ite_f h hc
    refine k_exit (kC_exit (kI_exit (kB_exit ?_)))
    refine zaf ⟨_, v7_l2, h, ?_⟩
    exact Sub.of_le (lq rfl lt0)
 ·refine zae (zag .free hmixP (by kernel_rfl) ?_)
  refine G_q rfl (zac (av := .exact v7_j2) rfl ?_)
  refine G_q rfl (zab (av := .exact v7_j2) rfl ?_)
  refine G_nil (zaa (k_ret ?_))
  obtain rfl := Option.some.inj h
  refine zaj (endN (af' := (AF.put AF0 (some 6) (.row 3 zan x7_j2))) (σ' := []) _ rfl ?_ ⟨rfl, rfl⟩)
  refine Sub.trans (SubU.to (SubU.freezeT (s := 6) rfl len_c_api_Code)) ?_
  exact Sub.of_le (lq rfl lt0)
set_option maxHeartbeats 4000000 in
theorem m_gen_Choices_Number_ok {w0 : Nat} (a0 : (List Int) × Int) (r : Int × ((List Int) × Int)) (h : m_gen_Choices_Number a0 = some r) : Fun Tryz.prog 24 [(pA w0 0)] [boxI 53 w0 [.row 1 c_int a0.1, .exact (.int .i64 a0.2)]] (fun a s => a = .exact (.int .i64 r.1) ∧ s = [boxI 53 w0 [.row 1 c_int r.2.1, .exact (.int .i64 r.2.2)]]) := by
 unfold m_gen_Choices_Number at h
 refine fun_of_awp Tryz.func24 rfl Tryz.ntmps24 (by simp) rfl (res1 rfl) fun E hE => k_end ?_
 refine zae (zag .free hmixP (by kernel_rfl) ?_)
 refine G_q rfl (zab (av := .xi 0) rfl ?_)
 refine G_nil (zaa (zae (zae (zag .free hmixP (by kernel_rfl) ?_))))
 refine G_q rfl (zac (av := pA w0 0) rfl ?_)
 obtain ⟨y1, hy1, h⟩ := bnd1_some h
 refine G_l rfl (op_fun_1_0_1 (m_gen_Choices_Next_ok _ _ _ hy1) Tryz.func18 (by kernel_rfl) (LEs.cons (AV.le_eq rfl) (LEs.cons (AV.le_eq rfl) LEs.nil)) ?_)
 refine G_nil (zaa (k_block (zae (zag .free hmixP (by kernel_rfl) ?_))))
 refine G_q rfl (op_eql rfl rfl ?_)
 refine G_q rfl (zab (av := .xb (decide (y1.1 = 6))) rfl ?_)
 refine G_nil (zaa ?_)
 refine zak (p := y1.1 = 6) rfl (fun hc => ?_) (fun hc => ?_)
 ·replace h := ite_t h hc
  refine zae (zag .free hmixP (by kernel_rfl) ?_)
  refine G_q rfl (zab (av := .xi (-1)) rfl ?_)
  refine G_nil (zaa (k_ret (kB_ret (kC_ret ?_))))
  obtain rfl := Option.some.inj h
  refine zaj (endN (af' := (AF.put AF0 (some 2) (.xi (-1)))) (σ' := [boxI 53 w0 [.row 1 c_int y1.2.1, .xi y1.2.2]]) _ rfl ?_ ⟨rfl, rfl⟩)
  exact Sub.of_le (lq rfl lt0)
 ·replace h := ite_f h hc
  refine zae (zag .free hmixP (by kernel_rfl) ?_)
  refine G_q rfl (op_eql rfl rfl ?_)
  refine G_q rfl (zab (av := .xb (decide (y1.1 = 7))) rfl ?_)
  refine G_nil (zaa ?_)
  refine zak (p := y1.1 = 7) rfl (fun hc => ?_) (fun hc => ?_)
  ·replace h := ite_t h hc
   refine zae (zag .free hmixP (by kernel_rfl) ?_)
   refine G_q rfl (zac (av := pA w0 0) rfl ?_)
   obtain ⟨y2, hy2, h⟩ := bnd1_some h
   refine G_l rfl (op_fun_1_0_1 (m_gen_Choices_Next_ok _ _ _ hy2) Tryz.func18 (by kernel_rfl) (LEs.cons (AV.le_eq rfl) (LEs.cons (AV.le_eq rfl) LEs.nil)) ?_)
   refine G_q rfl (op_sub rfl rfl rfl ?_)
   refine G_q rfl (zab (av := .xi (i64 (9223372036854775807 - y2.1))) rfl ?_)
   refine G_nil (zaa (k_ret (kB_ret (kC_ret ?_))))
   obtain rfl := Option.some.inj h
   refine zaj (endN (af' := (AF.put AF0 (some 2) (.xi (i64 (9223372036854775807 - y2.1))))) (σ' := [boxI 53 w0 [.row 1 c_int y2.2.1, .xi y2.2.2]]) _ rfl ?_ ⟨rfl, rfl⟩)
   exact Sub.of_le (lq rfl lt0)
  ·replace h := ite_f h hc
   refine zae (zag .free hmixP (by kernel_rfl) ?_)
   refine G_q rfl (op_eql rfl rfl ?_)
   refine G_q rfl (zab (av := .xb (decide (y1.1 = 8))) rfl ?_)
   refine G_nil (zaa ?_)
   refine zak (p := y1.1 = 8) rfl (fun hc => ?_) (fun hc => ?_)
   ·replace h := ite_t h hc
    refine zae (zag .free hmixP (by kernel_rfl) ?_)
    refine G_q rfl (zac (av := pA w0 0) rfl ?_)
    obtain ⟨y3, hy3, h⟩ := bnd1_some h
    refine G_l rfl (op_fun_1_0_1 (m_gen_Choices_Next_ok _ _ _ hy3) Tryz.func18 (by kernel_rfl) (LEs.cons (AV.le_eq rfl) (LEs.cons (AV.le_eq rfl) LEs.nil)) ?_)
    refine G_q rfl (op_add rfl rfl rfl ?_)
    refine G_q rfl (zab (av := .xi (i64 ((-9223372036854775808) + y3.1))) rfl ?_)
    refine G_nil (zaa (k_ret (kB_ret (kC_ret ?_))))
    obtain rfl := Option.some.inj h
    refine zaj (endN (af' := (AF.put AF0 (some 2) (.xi (i64 ((-9223372036854775808) + y3.1))))) (σ' := [boxI 53 w0 [.row 1 c_int y3.2.1, .xi y3.2.2]]) _ rfl ?_ ⟨rfl, rfl⟩)
    exact Sub.of_le (lq rfl lt0)
   ·replace h := ite_f h hc
    refine k_skip (kB_normal (zaa (zae (zag .free hmixP (by kernel_rfl) ?_))))
    refine G_q rfl (zac (av := pA w0 0) rfl ?_)
    obtain ⟨y4, hy4, h⟩ := bnd1_some h
    refine G_l rfl (op_fun_1_0_1 (m_gen_Choices_Next_ok _ _ _ hy4) Tryz.func18 (by kernel_rfl) (LEs.cons (AV.le_eq rfl) (LEs.cons (AV.le_eq rfl) LEs.nil)) ?_)
    refine G_q rfl (op_sub rfl rfl rfl ?_)
    refine G_q rfl (zab (av := .xi (i64 (y4.1 - 2))) rfl ?_)
    refine G_nil (zaa (k_ret ?_))
    obtain rfl := Option.some.inj h
    refine zaj (endN (af' := (AF.put AF0 (some 2) (.xi (i64 (y4.1 - 2))))) (σ' := [boxI 53 w0 [.row 1 c_int y4.2.1, .xi y4.2.2]]) _ rfl ?_ ⟨rfl, rfl⟩)
    exact Sub.of_le (lq rfl lt0)
set_option maxHeartbeats 4000000 in
theorem m_ref9_Bool_ok (a0 : Bool) (r : (List UInt8)) (h : m_ref9_Bool a0 = some r) : Pure Tryz.prog 25 [(.exact (.bool a0))] (.exact (.string (bs r))) := by
 unfold m_ref9_Bool at h
 refine Pure.ofFun (fun_of_awp Tryz.func25 rfl Tryz.ntmps25 (by simp) rfl (res1 rfl) fun E hE => k_end ?_)
 refine zae (zag .free hmixP (by kernel_rfl) ?_)
 refine G_q rfl (zab (av := .xs ([] : List UInt8)) rfl ?_)
 refine G_nil (zaa (zae (zae (zag .free hmixP (by kernel_rfl) ?_))))
 refine G_q rfl (zac (av := .xb a0) rfl ?_)
 refine G_nil (zaa ?_)
 refine k_cond_b (c := a0) rfl (fun hc => ?_) (fun hc => ?_)
 ·replace h := ite_t h hc
  refine zae (zag .free hmixP (by kernel_rfl) ?_)
  refine G_q rfl (op_litT (n := 1) (enc := c_uint8) [2, 1] (CellsAll.cons rfl CellsOf.int (CellsAll.cons rfl CellsOf.int CellsAll.nil)) rfl (by kernel_rfl) (LEss.cons (LEs.cons (AV.le_eq rfl) LEs.nil) (LEss.cons (LEs.cons (AV.le_eq rfl) LEs.nil) LEss.nil)) ?_)
  refine G_q rfl (op_bytesS rfl (by kernel_rfl) rfl ?_)
  refine G_q rfl (zab (av := .exact (.string (bs [2, 1]))) rfl ?_)
  refine G_nil (zaa (k_ret (kC_ret ?_)))
  obtain rfl := Option.some.inj h
  refine zaj (endN (af' := (AF.put AF0 (some 2) (.exact (.string (bs [2, 1]))))) (σ' := []) _ rfl ?_ ⟨rfl, rfl⟩)
  exact Sub.of_le (lq rfl lt0)
 ·replace h := ite_f h hc
  refine k_skip (zaa (zae (zag .free hmixP (by kernel_rfl) ?_)))
  refine G_q rfl (op_litT (n := 1) (enc := c_uint8) [2, 0] (CellsAll.cons rfl CellsOf.int (CellsAll.cons rfl CellsOf.int CellsAll.nil)) rfl (by kernel_rfl) (LEss.cons (LEs.cons (AV.le_eq rfl) LEs.nil) (LEss.cons (LEs.cons (AV.le_eq rfl) LEs.nil) LEss.nil)) ?_)
  refine G_q rfl (op_bytesS rfl (by kernel_rfl) rfl ?_)
  refine G_q rfl (zab (av := .exact (.string (bs [2, 0]))) rfl ?_)
  refine G_nil (zaa (k_ret ?_))
  obtain rfl := Option.some.inj h
  refine zaj (endN (af' := (AF.put AF0 (some 2) (.exact (.string (bs [2, 0]))))) (σ' := []) _ rfl ?_ ⟨rfl, rfl⟩)
  exact Sub.of_le (lq rfl lt0)
set_option maxHeartbeats 4000000 in
theorem m_ref9_two_ok (a0 : Int) (r : (List UInt8)) (h : m_ref9_two a0 = some r) : Pure Tryz.prog 51 [(.exact (.int .i64 a0))] (.exact (.string (bs r))) := by
 unfold m_ref9_two at h
 refine Pure.ofFun (fun_of_awp Tryz.func51 rfl Tryz.ntmps51 (by simp) rfl (res1 rfl) fun E hE => k_end ?_)
 refine zae (zag .free hmixP (by kernel_rfl) ?_)
 refine G_q rfl (zab (av := .xs ([] : List UInt8)) rfl ?_)
 refine G_nil (zaa (zae (zag .free hmixP (by kernel_rfl) ?_)))
 refine G_q rfl (zac (av := .xi a0) rfl ?_)
 refine G_q rfl (op_shr rfl rfl (by decide) rfl ?_)
 refine G_q rfl (op_convInt (k := .u8) (r := (UInt8.toNat (u8i (Int.fdiv a0 (2 ^ min (Int.toNat 8) IntKind.i64.bits))) : Int)) (by kernel_rfl) rfl (u8i_eq _) ?_)
 refine G_q rfl (zac (av := .xi a0) rfl ?_)
 refine G_q rfl (op_convInt (k := .u8) (r := (UInt8.toNat (u8i a0) : Int)) (by kernel_rfl) rfl (u8i_eq _) ?_)
 refine G_q rfl (op_litT (n := 1) (enc := c_uint8) [u8i (Int.fdiv a0 (2 ^ min (Int.toNat 8) IntKind.i64.bits)), u8i a0] (CellsAll.cons rfl CellsOf.int (CellsAll.cons rfl CellsOf.int CellsAll.nil)) rfl (by kernel_rfl) (LEss.cons (LEs.cons (AV.le_eq rfl) LEs.nil) (LEss.cons (LEs.cons (AV.le_eq rfl) LEs.nil) LEss.nil)) ?_)
 refine G_q rfl (op_bytesS rfl (by kernel_rfl) rfl ?_)
 refine G_q rfl (zab (av := .exact (.string (bs [u8i (Int.fdiv a0 (2 ^ min (Int.toNat 8) IntKind.i64.bits)), u8i a0]))) rfl ?_)
 refine G_nil (zaa (k_ret ?_))
 obtain rfl := Option.some.inj h
 refine zaj (endN (af' := (AF.put AF0 (some 2) (.exact (.string (bs [u8i (Int.fdiv a0 (2 ^ min (Int.toNat 8) IntKind.i64.bits)), u8i a0]))))) (σ' := []) _ rfl ?_ ⟨rfl, rfl⟩)
 exact Sub.of_le (lq rfl lt0)
set_option maxHeartbeats 4000000 in
theorem m_ref9_Name_ok (a0 : Int) (r : (List UInt8)) (h : m_ref9_Name a0 = some r) : Pure Tryz.prog 26 [(.exact (.int .i64 a0))] (.exact (.string (bs r))) := by
 unfold m_ref9_Name at h
 refine Pure.ofFun (fun_of_awp Tryz.func26 rfl Tryz.ntmps26 (by simp) rfl (res1 rfl) fun E hE => k_end ?_)
 refine zae (zag .free hmixP (by kernel_rfl) ?_)
 refine G_q rfl (zab (av := .xs ([] : List UInt8)) rfl ?_)
 refine G_nil (zaa (zae ?_))
 refine k_join1_0 h (fun (x8_j3 : Bool) => (AF.put (AF.put AF0 (some 0) (.xi a0)) (some 8) (.xb x8_j3))) (fun (x8_j3 : Bool) => []) (fun k3 h => ?_) (fun x8_j3 h => ?_)
 ·refine zag .free hmixP (by kernel_rfl) ?_
  refine G_q rfl (zac (av := .xi a0) rfl ?_)
  refine G_q rfl (op_lss rfl rfl ?_)
  refine G_q rfl (zac (av := .xb (decide (a0 < 0))) rfl ?_)
  refine G_split (p := a0 < 0) 5 rfl (fun hc => ?_) (fun hc => ?_)
  ·replace h := ite_t h hc
   refine G_n rfl rfl (G_n rfl rfl ?_)
   refine G_q rfl (zao rfl (av := .xb true) rfl ?_)
   refine G_nil ?_
   refine zaf ⟨_, h, ?_⟩
   exact Sub.of_le (lq rfl (lq rfl lt0))
  ·replace h := ite_f h hc
   refine Gy_q rfl rfl rfl (zac (av := .xi a0) rfl ?_)
   refine Gy_q rfl rfl rfl (op_gtr rfl rfl ?_)
   refine G_q rfl (zai rfl (av := .xb (decide (65535 < a0))) rfl ?_)
   refine G_nil ?_
   refine zaf ⟨_, h, ?_⟩
   exact Sub.of_le (lq rfl (lq rfl lt0))
 ·refine k_cond_b (c := x8_j3) rfl (fun hc => ?_) (fun hc => ?_)
  ·replace h := ite_t h hc
   refine zae (zag .free hmixP (by kernel_rfl) ?_)
   refine G_q rfl (zab (av := .xs ([] : List UInt8)) rfl ?_)
   refine G_nil (zaa (k_ret (kC_ret ?_)))
   obtain rfl := Option.some.inj h
   refine zaj (endN (af' := (AF.put AF0 (some 2) (.xs ([] : List UInt8)))) (σ' := []) _ rfl ?_ ⟨rfl, rfl⟩)
   exact Sub.of_le (lq rfl lt0)
  ·replace h := ite_f h hc
   refine k_skip (zaa (zae ?_))
   refine k_plan [] [(0, 0), (0, 1), (0, 2), (0, 3), (0, 4), (0, 5)] hmixP (by kernel_rfl) ?_
   refine P_q no34_0 rfl (op_litT (n := 1) (enc := c_uint8) [10] (CellsAll.cons rfl CellsOf.int CellsAll.nil) rfl (by kernel_rfl) (LEss.cons (LEs.cons (AV.le_eq rfl) LEs.nil) LEss.nil) ?_)
   refine P_q no34_0 rfl (op_bytesS rfl (by kernel_rfl) rfl ?_)
   refine P_q no34_0 rfl (zac (av := .xi a0) rfl ?_)
   obtain ⟨y4, hy4, h⟩ := bnd1_some h
   refine P_q no34_0 rfl (zal (m_ref9_two_ok _ _ hy4) Tryz.func51 (by kernel_rfl) (LEs.cons (AV.le_eq rfl) LEs.nil) ?_)
   obtain ⟨n5, h⟩ := need_some h
   refine P_q no34_0 rfl (op_addS n5 rfl rfl ?_)
   refine P_q no34_0 rfl (zab (av := .xs ([10] ++ y4)) rfl ?_)
   refine P_nil (zaa (k_ret ?_))
   obtain rfl := Option.some.inj h
   refine zaj (endN (af' := (AF.put AF0 (some 2) (.xs ([10] ++ y4)))) (σ' := []) _ rfl ?_ ⟨rfl, rfl⟩)
   exact Sub.of_le (lq rfl lt0)
set_option maxHeartbeats 4000000 in
theorem m_ref9_ascending_ok (self_ref9_walk : (List UInt8) → Int → Bool → Option (Int × (List (List UInt8)) × Int)) (hself_ref9_walk : ∀ (a0 : List UInt8) (a1 : Int) (a2 : Bool) (r : Int × (List (List UInt8)) × Int), self_ref9_walk a0 a1 a2 = some r → Pure Tryz.prog 76 [(.exact (.string (bs a0))), (.exact (.int .i64 a1)), (.exact (.bool a2))] (.tup [.exact (.int .i64 r.1), .row 1 zad r.2.1, .exact (.int .i64 r.2.2)])) (self_ref9_order : (List UInt8) → (List UInt8) → Option Int) (hself_ref9_order : ∀ (a0 : List UInt8) (a1 : List UInt8) (r : Int), self_ref9_order a0 a1 = some r → Pure Tryz.prog 79 [(.exact (.string (bs a0))), (.exact (.string (bs a1)))] (.exact (.int .i64 r))) (a0 : List (List UInt8)) (a1 : Int) (r : Bool) (h : m_ref9_ascending self_ref9_walk self_ref9_order a0 a1 = some r) : Pure Tryz.prog 106 [(.row 1 zad a0), (.exact (.int .i64 a1))] (.exact (.bool r)) := by
 unfold m_ref9_ascending at h
 refine Pure.ofFun (fun_of_awp Tryz.func106 rfl Tryz.ntmps106 (by simp) rfl (res1 rfl) fun E hE => k_end ?_)
 refine zae (zag .free hmixP (by kernel_rfl) ?_)
 refine G_q rfl (zab (av := .xb false) rfl ?_)
 refine G_nil (zaa ?_)
 refine k_join0_0 h (AF0) ([]) (fun k1 h => ?_) (fun  h => ?_)
 ·refine zae (zag .free hmixP (by kernel_rfl) ?_)
  refine G_q rfl (zac (av := .xi a1) rfl ?_)
  refine G_q rfl (zab (av := .xi a1) rfl ?_)
  refine G_nil (zaa (k_block ?_))
  refine k_loop1_0 (m_ref9_ascending_L2 self_ref9_order a0 a1 k1) (m_ref9_ascending_B2 self_ref9_order a0 a1 k1) (fun _ => rfl) (fun m _ => rfl) h (fun (x5_l2 : Int) => (AF.put (AF.put (AF.put AF0 (some 0) (.row 1 zad a0)) (some 1) (.xi a1)) (some 5) (.xi x5_l2))) (fun (x5_l2 : Int) => []) ?_ (fun rec2 x5_l2 h => ?_)
  ·exact Sub.of_le (lq rfl (lq rfl (lq rfl lt0)))
  ·unfold m_ref9_ascending_B2 at h
   refine zae (zae (zag .free hmixP (by kernel_rfl) ?_))
   refine G_q rfl (zac (av := .xi x5_l2) rfl ?_)
   refine G_q rfl (zac (av := .row 1 zad a0) rfl ?_)
   refine G_q rfl (op_len_row (by kernel_rfl) rfl ?_)
   refine G_q rfl (op_lss rfl rfl ?_)
   refine G_nil (zaa ?_)
   refine zak (p := x5_l2 < (List.length a0 : Int)) rfl (fun hc => ?_) (fun hc => ?_)
   ·replace h := ite_t h hc
    refine k_skip (zaa (zae (k_block (zae ?_))))
    refine k_plan [] [(0, 0), (0, 1), (0, 2), (0, 3), (0, 4), (0, 5), (0, 6), (0, 7), (0, 8), (0, 9), (0, 10), (0, 11)] hmixP (by kernel_rfl) ?_
    refine P_q no34_0 rfl (zac (av := .row 1 zad a0) rfl ?_)
    refine P_q no34_0 rfl (zac (av := .xi x5_l2) rfl ?_)
    refine P_q no34_0 rfl (zac (av := .xi a1) rfl ?_)
    refine P_q no34_0 rfl (op_sub rfl rfl rfl ?_)
    obtain ⟨n18, h⟩ := need_some h
    refine P_q no34_0 rfl (op_index_row (by kernel_rfl) rfl rfl n18.1 n18.2 ?_)
    refine P_q no34_0 rfl (zaq (a := .xs (gi a0 (i64 (x5_l2 - a1)))) (by kernel_rfl) rfl rfl ?_)
    refine P_q no34_0 rfl (zac (av := .row 1 zad a0) rfl ?_)
    refine P_q no34_0 rfl (zac (av := .xi x5_l2) rfl ?_)
    obtain ⟨n19, h⟩ := need_some h
    refine P_q no34_0 rfl (op_index_row (by kernel_rfl) rfl rfl n19.1 n19.2 ?_)
    refine P_q no34_0 rfl (zaq (a := .xs (gi a0 x5_l2)) (by kernel_rfl) rfl rfl ?_)
    obtain ⟨y20, hy20, h⟩ := bnd1_some h
    refine P_q no34_0 rfl (zal (hself_ref9_order _ _ _ hy20) Tryz.func79 (by kernel_rfl) (LEs.cons (AV.le_eq rfl) (LEs.cons (AV.le_eq rfl) LEs.nil)) ?_)
    refine P_q no34_0 rfl (op_geq rfl rfl ?_)
    refine P_nil (zaa ?_)
    refine zak (p := 0 ≤ y20) rfl (fun hc => ?_) (fun hc => ?_)
    ·replace h := ite_t h hc
     refine zae (zag .free hmixP (by kernel_rfl) ?_)
     refine G_q rfl (zab (av := .xb false) rfl ?_)
     refine G_nil (zaa (k_ret (kB_ret (kC_ret (kI_ret (kB_ret (kI_ret ?_)))))))
     obtain rfl := Option.some.inj h
     refine zaj (endN (af' := (AF.put AF0 (some 4) (.xb false))) (σ' := []) _ rfl ?_ ⟨rfl, rfl⟩)
     exact Sub.of_le (lq rfl lt0)
    ·replace h := ite_f h hc
     refine k_skip (kB_normal (zaa (zag .free hmixP (by kernel_rfl) ?_)))
     refine G_q rfl (zac (av := .xi x5_l2) rfl ?_)
     refine G_q rfl (zac (av := .xi a1) rfl ?_)
     refine G_q rfl (op_add rfl rfl rfl ?_)
     refine G_q rfl (zab (av := .xi (i64 (x5_l2 + a1))) rfl ?_)
     refine G_nil ?_
     refine zaf ⟨_, h, ?_⟩
     exact Sub.of_le (lq rfl (lq rfl (lq rfl lt0)))
   ·replace h := ite_f h hc
    refine k_exit (kC_exit (kI_exit (kB_exit ?_)))
    refine zaf ⟨h, ?_⟩
    exact Sub.of_le lt0
 ·refine zae (zag .free hmixP (by kernel_rfl) ?_)
  refine G_q rfl (zab (av := .xb true) rfl ?_)
  refine G_nil (zaa (k_ret ?_))
  obtain rfl := Option.some.inj h
  refine zaj (endN (af' := (AF.put AF0 (some 4) (.xb true))) (σ' := []) _ rfl ?_ ⟨rfl, rfl⟩)
  exact Sub.of_le (lq rfl lt0)
set_option maxHeartbeats 4000000 in
theorem m_ref9_number_ok (a0 : List UInt8) (r : Int) (h : m_ref9_number a0 = some r) : Pure Tryz.prog 94 [(.exact (.string (bs a0)))] (.exact (.int .i64 r)) := by
 unfold m_ref9_number at h
 refine Pure.ofFun (fun_of_awp Tryz.func94 rfl Tryz.ntmps94 (by simp) rfl (res1 rfl) fun E hE => k_end ?_)
 refine zae (zag .free hmixP (by kernel_rfl) ?_)
 refine G_q rfl (zab (av := .xi 0) rfl ?_)
 refine G_nil (zaa (zae (zag .free hmixP (by kernel_rfl) ?_)))
 refine G_q rfl (zab (av := .exact (.int .u64 0)) rfl ?_)
 refine G_nil (zaa ?_)
 refine k_join1_0 h (fun (x3_j1 : Int) => (AF.put AF0 (some 3) (.exact (.int .u64 x3_j1)))) (fun (x3_j1 : Int) => []) (fun k1 h => ?_) (fun x3_j1 h => ?_)
 ·refine zae (zag .free hmixP (by kernel_rfl) ?_)
  refine G_q rfl (zab (av := .xi 0) rfl ?_)
  refine G_nil (zaa (k_block ?_))
  refine k_loop2_0 (m_ref9_number_L2 a0 k1) (m_ref9_number_B2 a0 k1) (fun _ _ => rfl) (fun m _ _ => rfl) h (fun (x3_l2 : Int) (x4_l2 : Int) => (AF.put (AF.put (AF.put AF0 (some 0) (.xs a0)) (some 3) (.exact (.int .u64 x3_l2))) (some 4) (.xi x4_l2))) (fun (x3_l2 : Int) (x4_l2 : Int) => []) ?_ (fun rec2 x3_l2 x4_l2 h => ?_)
  ·exact Sub.of_le (lq rfl (lq rfl (lq rfl lt0)))
  ·unfold m_ref9_number_B2 at h
   refine zae (zae (zag .free hmixP (by kernel_rfl) ?_))
   refine G_q rfl (zac (av := .xi x4_l2) rfl ?_)
   refine G_q rfl (op_lss rfl rfl ?_)
   refine G_nil (zaa ?_)
   refine zak (p := x4_l2 < 8) rfl (fun hc => ?_) (fun hc => ?_)
   ·replace h := ite_t h hc
    refine k_skip (zaa (zae (k_block (zag .free hmixP (by kernel_rfl) ?_))))
    refine G_q rfl (zac (av := .exact (.int .u64 x3_l2)) rfl ?_)
    refine G_q rfl (op_shl rfl rfl (by decide) rfl ?_)
    refine G_q rfl (zac (av := .xs a0) rfl ?_)
    refine G_q rfl (zac (av := .xi x4_l2) rfl ?_)
    obtain ⟨n8, h⟩ := need_some h
    refine G_q rfl (op_index_str (by kernel_rfl) rfl rfl n8.1 n8.2 ?_)
    refine G_q rfl (op_convInt (k := .u64) (r := (UInt8.toNat (gi a0 x4_l2) : Int)) (by kernel_rfl) rfl (wrap_u8 rfl _) ?_)
    refine G_q rfl (op_or rfl rfl rfl ?_)
    refine G_q rfl (zab (av := .exact (.int .u64 (bOr .u64 (IntKind.u64.wrap (x3_l2 * 2 ^ min (Int.toNat 8) IntKind.u64.bits)) (UInt8.toNat (gi a0 x4_l2) : Int)))) rfl ?_)
    refine G_nil (kB_normal (zaa (zag .free hmixP (by kernel_rfl) ?_)))
    refine G_q rfl (zac (av := .xi x4_l2) rfl ?_)
    refine G_q rfl (op_add rfl rfl rfl ?_)
    refine G_q rfl (zab (av := .xi (i64 (x4_l2 + 1))) rfl ?_)
    refine G_nil ?_
    refine zaf ⟨_, _, h, ?_⟩
    exact Sub.of_le (lq rfl (lq rfl (lq rfl lt0)))
   ·replace h := ite_f h hc
    refine k_exit (kC_exit (kI_exit (kB_exit ?_)))
    refine zaf ⟨_, h, ?_⟩
    exact Sub.of_le (lq rfl lt0)
 ·refine zae (zag .free hmixP (by kernel_rfl) ?_)
  refine G_q rfl (zac (av := .exact (.int .u64 x3_j1)) rfl ?_)
  refine G_q rfl (op_convInt (k := .i64) (by kernel_rfl) rfl rfl ?_)
  refine G_q rfl (zab (av := .xi (i64 (x3_j1))) rfl ?_)
  refine G_nil (zaa (k_ret ?_))
  obtain rfl := Option.some.inj h
  refine zaj (endN (af' := (AF.put AF0 (some 2) (.xi (i64 (x3_j1))))) (σ' := []) _ rfl ?_ ⟨rfl, rfl⟩)
  exact Sub.of_le (lq rfl lt0)
end Go.Proofs.YtpfdeahcjlfijaaGreat
/- The functions compute their models, by program. -/
namespace Go.Proofs.YtpfdeahcjlfijaaGreat
open Go.RowKit
attribute [local irreducible] AV.exact AV.top AV.row AV.ptr AV.agg AV.tup AV.eptr AV.fn AV.nilq AV.nilqn opA opB opM opR Quiet Loud Reads wpG awp den Sub SubU Pure Fun vecI vecT boxI CellsAll CellsOf OneC LEs LEss
set_option maxRecDepth 100000

set_option maxHeartbeats 4000000 in
theorem m_ref9_small_ok (a0 : List UInt8) (a1 : Int) (a2 : Int) (r : Bool) (h : m_ref9_small a0 a1 a2 = some r) : Pure Tryz.prog 107 [(.exact (.string (bs a0))), (.exact (.int .i64 a1)), (.exact (.int .i64 a2))] (.exact (.bool r)) := by
 unfold m_ref9_small at h
 refine Pure.ofFun (fun_of_awp Tryz.func107 rfl Tryz.ntmps107 (by simp) rfl (res1 rfl) fun E hE => k_end ?_)
 refine zae (zag .free hmixP (by kernel_rfl) ?_)
 refine G_q rfl (zab (av := .xb false) rfl ?_)
 refine G_nil (zaa ?_)
 refine k_join1_0 h (fun (x6_j1 : Bool) => (AF.put AF0 (some 6) (.xb x6_j1))) (fun (x6_j1 : Bool) => []) (fun k1 h => ?_) (fun x6_j1 h => ?_)
 ·refine zag .free hmixP (by kernel_rfl) ?_
  refine G_q rfl (zac (av := .xs a0) rfl ?_)
  obtain ⟨n7, h⟩ := need_some h
  refine G_q rfl (op_index_str (by kernel_rfl) rfl rfl n7.1 n7.2 ?_)
  refine G_q rfl (op_convInt (k := .i64) (r := (UInt8.toNat (gi a0 0) : Int)) (by kernel_rfl) rfl (wrap_u8 rfl _) ?_)
  refine G_q rfl (op_eql rfl rfl ?_)
  refine G_q rfl (zac (av := .xb (decide ((UInt8.toNat (gi a0 0) : Int) = 1))) rfl ?_)
  refine G_split (p := (UInt8.toNat (gi a0 0) : Int) = 1) 11 rfl (fun hc => ?_) (fun hc => ?_)
  ·replace h := ite_t h hc
   refine Gy_q rfl rfl rfl (zac (av := .xs a0) rfl ?_)
   obtain ⟨n8, h⟩ := need_some h
   refine Gy_q rfl rfl rfl (op_slice_strd (by kernel_rfl) rfl (bnd_some rfl) bnd_none (by decide) n8 (Int.le_refl _) ?_)
   obtain ⟨y9, hy9, h⟩ := bnd1_some h
   refine Gy_q rfl rfl rfl (zal (m_ref9_number_ok _ _ hy9) Tryz.func94 (by kernel_rfl) (LEs.cons (AV.le_eq rfl) LEs.nil) ?_)
   refine Gy_q rfl rfl rfl (zac (av := .xi a1) rfl ?_)
   refine Gy_q rfl rfl rfl (op_geq rfl rfl ?_)
   refine G_q rfl (zao rfl (av := .xb (decide (a1 ≤ y9))) rfl ?_)
   refine G_q rfl (zac (av := .xb (decide (a1 ≤ y9))) rfl ?_)
   refine G_split (p := a1 ≤ y9) 18 rfl (fun hc => ?_) (fun hc => ?_)
   ·replace h := ite_t h hc
    refine Gy_q rfl rfl rfl (zac (av := .xs a0) rfl ?_)
    obtain ⟨n10, h⟩ := need_some h
    refine Gy_q rfl rfl rfl (op_slice_strd (by kernel_rfl) rfl (bnd_some rfl) bnd_none (by decide) n10 (Int.le_refl _) ?_)
    obtain ⟨y11, hy11, h⟩ := bnd1_some h
    refine Gy_q rfl rfl rfl (zal (m_ref9_number_ok _ _ hy11) Tryz.func94 (by kernel_rfl) (LEs.cons (AV.le_eq rfl) LEs.nil) ?_)
    refine Gy_q rfl rfl rfl (zac (av := .xi a2) rfl ?_)
    refine Gy_q rfl rfl rfl (op_leq rfl rfl ?_)
    refine G_q rfl (zao rfl (av := .xb (decide (y11 ≤ a2))) rfl ?_)
    refine G_q rfl (zab (av := .xb (decide (y11 ≤ a2))) rfl ?_)
    refine G_nil ?_
    refine zaf ⟨_, h, ?_⟩
    exact Sub.of_le (lq rfl lt0)
   ·replace h := ite_f h hc
    refine G_n rfl rfl (G_n rfl rfl (G_n rfl rfl (G_n rfl rfl (G_n rfl rfl ?_))))
    refine G_q rfl (zai rfl (av := .xb false) rfl ?_)
    refine G_q rfl (zab (av := .xb false) rfl ?_)
    refine G_nil ?_
    refine zaf ⟨_, h, ?_⟩
    exact Sub.of_le (lq rfl lt0)
  ·replace h := ite_f h hc
   refine G_n rfl rfl (G_n rfl rfl (G_n rfl rfl (G_n rfl rfl (G_n rfl rfl ?_))))
   refine G_q rfl (zai rfl (av := .xb false) rfl ?_)
   refine G_q rfl (zac (av := .xb false) rfl ?_)
   refine G_n rfl rfl (G_n rfl rfl (G_n rfl rfl (G_n rfl rfl (G_n rfl rfl ?_))))
   refine G_q rfl (zai rfl (av := .xb false) rfl ?_)
   refine G_q rfl (zab (av := .xb false) rfl ?_)
   refine G_nil ?_
   refine zaf ⟨_, h, ?_⟩
   exact Sub.of_le (lq rfl lt0)
 ·refine k_ret ?_
  obtain rfl := Option.some.inj h
  refine zaj (endN (af' := (AF.put AF0 (some 6) (.xb x6_j1))) (σ' := []) _ rfl ?_ ⟨rfl, rfl⟩)
  exact Sub.of_le (lq rfl lt0)
set_option maxHeartbeats 4000000 in
theorem m_ref9_parted_ok (self_ref9_walk : (List UInt8) → Int → Bool → Option (Int × (List (List UInt8)) × Int)) (hself_ref9_walk : ∀ (a0 : List UInt8) (a1 : Int) (a2 : Bool) (r : Int × (List (List UInt8)) × Int), self_ref9_walk a0 a1 a2 = some r → Pure Tryz.prog 76 [(.exact (.string (bs a0))), (.exact (.int .i64 a1)), (.exact (.bool a2))] (.tup [.exact (.int .i64 r.1), .row 1 zad r.2.1, .exact (.int .i64 r.2.2)])) (self_ref9_order : (List UInt8) → (List UInt8) → Option Int) (hself_ref9_order : ∀ (a0 : List UInt8) (a1 : List UInt8) (r : Int), self_ref9_order a0 a1 = some r → Pure Tryz.prog 79 [(.exact (.string (bs a0))), (.exact (.string (bs a1)))] (.exact (.int .i64 r))) (a0 : Int) (a1 : List (List UInt8)) (r : Bool) (h : m_ref9_parted self_ref9_walk self_ref9_order a0 a1 = some r) : Pure Tryz.prog 92 [(.exact (.int .i64 a0)), (.row 1 zad a1)] (.exact (.bool r)) := by
 unfold m_ref9_parted at h
 refine Pure.ofFun (fun_of_awp Tryz.func92 rfl Tryz.ntmps92 (by simp) rfl (res1 rfl) fun E hE => k_end ?_)
 refine zae (zag .free hmixP (by kernel_rfl) ?_)
 refine G_q rfl (zab (av := .xb false) rfl ?_)
 refine G_nil (zaa (zae (zae (zag .free hmixP (by kernel_rfl) ?_))))
 refine G_q rfl (zac (av := .xi a0) rfl ?_)
 refine G_nil (zaa (k_block (zae (zag .free hmixP (by kernel_rfl) ?_))))
 refine G_q rfl (op_eql rfl rfl ?_)
 refine G_q rfl (zab (av := .xb (decide (a0 = 3))) rfl ?_)
 refine G_nil (zaa ?_)
 refine zak (p := a0 = 3) rfl (fun hc => ?_) (fun hc => ?_)
 ·replace h := ite_t h hc
  refine k_join1_0 h (fun (x4_j1 : Bool) => (AF.put AF0 (some 4) (.xb x4_j1))) (fun (x4_j1 : Bool) => []) (fun k1 h => ?_) (fun x4_j1 h => ?_)
  ·refine zag .free hmixP (by kernel_rfl) ?_
   refine G_q rfl (zac (av := .row 1 zad a1) rfl ?_)
   refine G_q rfl (op_len_row (by kernel_rfl) rfl ?_)
   refine G_q rfl (op_geq rfl rfl ?_)
   refine G_q rfl (zac (av := .xb (decide (2 ≤ (List.length a1 : Int)))) rfl ?_)
   refine G_split (p := 2 ≤ (List.length a1 : Int)) 11 rfl (fun hc => ?_) (fun hc => ?_)
   ·replace h := ite_t h hc
    refine Gy_q rfl rfl rfl (zac (av := .row 1 zad a1) rfl ?_)
    refine Gy_q rfl rfl rfl (op_len_row (by kernel_rfl) rfl ?_)
    refine Gy_q rfl rfl rfl (op_leq rfl rfl ?_)
    refine G_q rfl (zao rfl (av := .xb (decide ((List.length a1 : Int) ≤ 8))) rfl ?_)
    refine G_q rfl (zab (av := .xb (decide ((List.length a1 : Int) ≤ 8))) rfl ?_)
    refine G_nil ?_
    refine zaf ⟨_, h, ?_⟩
    exact Sub.of_le (lq rfl lt0)
   ·replace h := ite_f h hc
    refine G_n rfl rfl (G_n rfl rfl (G_n rfl rfl ?_))
    refine G_q rfl (zai rfl (av := .xb false) rfl ?_)
    refine G_q rfl (zab (av := .xb false) rfl ?_)
    refine G_nil ?_
    refine zaf ⟨_, h, ?_⟩
    exact Sub.of_le (lq rfl lt0)
  ·refine k_ret (kB_ret (kC_ret ?_))
   obtain rfl := Option.some.inj h
   refine zaj (endN (af' := (AF.put AF0 (some 4) (.xb x4_j1))) (σ' := []) _ rfl ?_ ⟨rfl, rfl⟩)
   exact Sub.of_le (lq rfl lt0)
 ·replace h := ite_f h hc
  refine zae (zag .free hmixP (by kernel_rfl) ?_)
  refine G_q rfl (op_eql rfl rfl ?_)
  refine G_q rfl (zab (av := .xb (decide (a0 = 5))) rfl ?_)
  refine G_nil (zaa ?_)
  refine zak (p := a0 = 5) rfl (fun hc => ?_) (fun hc => ?_)
  ·replace h := ite_t h hc
   refine zae (zag .free hmixP (by kernel_rfl) ?_)
   refine G_q rfl (zac (av := .row 1 zad a1) rfl ?_)
   obtain ⟨y2, hy2, h⟩ := bnd1_some h
   refine G_q rfl (zal (m_ref9_ascending_ok self_ref9_walk hself_ref9_walk self_ref9_order hself_ref9_order _ _ _ hy2) Tryz.func106 (by kernel_rfl) (LEs.cons (AV.le_eq rfl) (LEs.cons (AV.le_eq rfl) LEs.nil)) ?_)
   refine G_q rfl (zab (av := .xb y2) rfl ?_)
   refine G_nil (zaa (k_ret (kB_ret (kC_ret ?_))))
   obtain rfl := Option.some.inj h
   refine zaj (endN (af' := (AF.put AF0 (some 4) (.xb y2))) (σ' := []) _ rfl ?_ ⟨rfl, rfl⟩)
   exact Sub.of_le (lq rfl lt0)
  ·replace h := ite_f h hc
   refine zae (zag .free hmixP (by kernel_rfl) ?_)
   refine G_q rfl (op_eql rfl rfl ?_)
   refine G_q rfl (zab (av := .xb (decide (a0 = 6))) rfl ?_)
   refine G_nil (zaa ?_)
   refine zak (p := a0 = 6) rfl (fun hc => ?_) (fun hc => ?_)
   ·replace h := ite_t h hc
    refine k_join1_0 h (fun (x4_j3 : Bool) => (AF.put AF0 (some 4) (.xb x4_j3))) (fun (x4_j3 : Bool) => []) (fun k3 h => ?_) (fun x4_j3 h => ?_)
    ·refine zag .free hmixP (by kernel_rfl) ?_
     refine G_q rfl (zac (av := .row 1 zad a1) rfl ?_)
     refine G_q rfl (op_len_row (by kernel_rfl) rfl ?_)
     refine G_q rfl (op_rem rfl rfl (by decide) rfl ?_)
     refine G_q rfl (op_eql rfl rfl ?_)
     refine G_q rfl (zac (av := .xb (decide ((Int.tmod (List.length a1 : Int) 2) = 0))) rfl ?_)
     refine G_split (p := (Int.tmod (List.length a1 : Int) 2) = 0) 26 rfl (fun hc => ?_) (fun hc => ?_)
     ·replace h := ite_t h hc
      refine Gy_q rfl rfl rfl (zac (av := .row 1 zad a1) rfl ?_)
      obtain ⟨y5, hy5, h⟩ := bnd1_some h
      refine Gy_q rfl rfl rfl (zal (m_ref9_ascending_ok self_ref9_walk hself_ref9_walk self_ref9_order hself_ref9_order _ _ _ hy5) Tryz.func106 (by kernel_rfl) (LEs.cons (AV.le_eq rfl) (LEs.cons (AV.le_eq rfl) LEs.nil)) ?_)
      refine G_q rfl (zao rfl (av := .xb y5) rfl ?_)
      refine G_q rfl (zab (av := .xb y5) rfl ?_)
      refine G_nil ?_
      refine zaf ⟨_, h, ?_⟩
      exact Sub.of_le (lq rfl lt0)
     ·replace h := ite_f h hc
      refine G_n rfl rfl (G_n rfl rfl ?_)
      refine G_q rfl (zai rfl (av := .xb false) rfl ?_)
      refine G_q rfl (zab (av := .xb false) rfl ?_)
      refine G_nil ?_
      refine zaf ⟨_, h, ?_⟩
      exact Sub.of_le (lq rfl lt0)
    ·refine k_ret (kB_ret (kC_ret ?_))
     obtain rfl := Option.some.inj h
     refine zaj (endN (af' := (AF.put AF0 (some 4) (.xb x4_j3))) (σ' := []) _ rfl ?_ ⟨rfl, rfl⟩)
     exact Sub.of_le (lq rfl lt0)
   ·replace h := ite_f h hc
    refine zae (zag .free hmixP (by kernel_rfl) ?_)
    refine G_q rfl (op_eql rfl rfl ?_)
    refine G_q rfl (zab (av := .xb (decide (a0 = 7))) rfl ?_)
    refine G_nil (zaa ?_)
    refine zak (p := a0 = 7) rfl (fun hc => ?_) (fun hc => ?_)
    ·replace h := ite_t h hc
     refine k_join1_0 h (fun (x4_j6 : Bool) => (AF.put AF0 (some 4) (.xb x4_j6))) (fun (x4_j6 : Bool) => []) (fun k6 h => ?_) (fun x4_j6 h => ?_)
     ·refine zag .free hmixP (by kernel_rfl) ?_
      refine G_q rfl (zac (av := .row 1 zad a1) rfl ?_)
      refine G_q rfl (op_len_row (by kernel_rfl) rfl ?_)
      refine G_q rfl (op_geq rfl rfl ?_)
      refine G_q rfl (zac (av := .xb (decide (1 ≤ (List.length a1 : Int)))) rfl ?_)
      refine G_split (p := 1 ≤ (List.length a1 : Int)) 35 rfl (fun hc => ?_) (fun hc => ?_)
      ·replace h := ite_t h hc
       refine Gy_q rfl rfl rfl (zac (av := .row 1 zad a1) rfl ?_)
       refine Gy_q rfl rfl rfl (op_len_row (by kernel_rfl) rfl ?_)
       refine Gy_q rfl rfl rfl (op_leq rfl rfl ?_)
       refine G_q rfl (zao rfl (av := .xb (decide ((List.length a1 : Int) ≤ 9))) rfl ?_)
       refine G_q rfl (zac (av := .xb (decide ((List.length a1 : Int) ≤ 9))) rfl ?_)
       refine G_split (p := (List.length a1 : Int) ≤ 9) 40 rfl (fun hc => ?_) (fun hc => ?_)
       ·replace h := ite_t h hc
        refine Gy_q rfl rfl rfl (zac (av := .row 1 zad a1) rfl ?_)
        obtain ⟨n9, h⟩ := need_some h
        refine Gy_q rfl rfl rfl (op_index_row (by kernel_rfl) rfl rfl n9.1 n9.2 ?_)
        refine Gy_q rfl rfl rfl (zaq (a := .xs (gi a1 0)) (by kernel_rfl) rfl rfl ?_)
        obtain ⟨n10, h⟩ := need_some h
        refine Gy_q rfl rfl rfl (op_index_str (by kernel_rfl) rfl rfl n10.1 n10.2 ?_)
        refine Gy_q rfl rfl rfl (op_convInt (k := .i64) (r := (UInt8.toNat (gi (gi a1 0) 0) : Int)) (by kernel_rfl) rfl (wrap_u8 rfl _) ?_)
        refine Gy_q rfl rfl rfl (op_eql rfl rfl ?_)
        refine G_q rfl (zao rfl (av := .xb (decide ((UInt8.toNat (gi (gi a1 0) 0) : Int) = 10))) rfl ?_)
        refine G_q rfl (zab (av := .xb (decide ((UInt8.toNat (gi (gi a1 0) 0) : Int) = 10))) rfl ?_)
        refine G_nil ?_
        refine zaf ⟨_, h, ?_⟩
        exact Sub.of_le (lq rfl lt0)
       ·replace h := ite_f h hc
        refine G_n rfl rfl (G_n rfl rfl (G_n rfl rfl (G_n rfl rfl (G_n rfl rfl (G_n rfl rfl ?_)))))
        refine G_q rfl (zai rfl (av := .xb false) rfl ?_)
        refine G_q rfl (zab (av := .xb false) rfl ?_)
        refine G_nil ?_
        refine zaf ⟨_, h, ?_⟩
        exact Sub.of_le (lq rfl lt0)
      ·replace h := ite_f h hc
       refine G_n rfl rfl (G_n rfl rfl (G_n rfl rfl ?_))
       refine G_q rfl (zai rfl (av := .xb false) rfl ?_)
       refine G_q rfl (zac (av := .xb false) rfl ?_)
       refine G_n rfl rfl (G_n rfl rfl (G_n rfl rfl (G_n rfl rfl (G_n rfl rfl (G_n rfl rfl ?_)))))
       refine G_q rfl (zai rfl (av := .xb false) rfl ?_)
       refine G_q rfl (zab (av := .xb false) rfl ?_)
       refine G_nil ?_
       refine zaf ⟨_, h, ?_⟩
       exact Sub.of_le (lq rfl lt0)
     ·refine k_ret (kB_ret (kC_ret ?_))
      obtain rfl := Option.some.inj h
      refine zaj (endN (af' := (AF.put AF0 (some 4) (.xb x4_j6))) (σ' := []) _ rfl ?_ ⟨rfl, rfl⟩)
      exact Sub.of_le (lq rfl lt0)
    ·replace h := ite_f h hc
     refine zae (zag .free hmixP (by kernel_rfl) ?_)
     refine G_q rfl (op_eql rfl rfl ?_)
     refine G_q rfl (zab (av := .xb (decide (a0 = 8))) rfl ?_)
     refine G_nil (zaa ?_)
     refine zak (p := a0 = 8) rfl (fun hc => ?_) (fun hc => ?_)
     ·replace h := ite_t h hc
      refine k_join1_0 h (fun (x4_j11 : Bool) => (AF.put AF0 (some 4) (.xb x4_j11))) (fun (x4_j11 : Bool) => []) (fun k11 h => ?_) (fun x4_j11 h => ?_)
      ·refine zag .free hmixP (by kernel_rfl) ?_
       refine G_q rfl (zac (av := .row 1 zad a1) rfl ?_)
       refine G_q rfl (op_len_row (by kernel_rfl) rfl ?_)
       refine G_q rfl (op_geq rfl rfl ?_)
       refine G_q rfl (zac (av := .xb (decide (1 ≤ (List.length a1 : Int)))) rfl ?_)
       refine G_split (p := 1 ≤ (List.length a1 : Int)) 53 rfl (fun hc => ?_) (fun hc => ?_)
       ·replace h := ite_t h hc
        refine Gy_q rfl rfl rfl (zac (av := .row 1 zad a1) rfl ?_)
        refine Gy_q rfl rfl rfl (op_len_row (by kernel_rfl) rfl ?_)
        refine Gy_q rfl rfl rfl (op_leq rfl rfl ?_)
        refine G_q rfl (zao rfl (av := .xb (decide ((List.length a1 : Int) ≤ 33))) rfl ?_)
        refine G_q rfl (zac (av := .xb (decide ((List.length a1 : Int) ≤ 33))) rfl ?_)
        refine G_split (p := (List.length a1 : Int) ≤ 33) 58 rfl (fun hc => ?_) (fun hc => ?_)
        ·replace h := ite_t h hc
         refine Gy_q rfl rfl rfl (zac (av := .row 1 zad a1) rfl ?_)
         obtain ⟨n14, h⟩ := need_some h
         refine Gy_q rfl rfl rfl (op_index_row (by kernel_rfl) rfl rfl n14.1 n14.2 ?_)
         refine Gy_q rfl rfl rfl (zaq (a := .xs (gi a1 0)) (by kernel_rfl) rfl rfl ?_)
         obtain ⟨y15, hy15, h⟩ := bnd1_some h
         refine Gy_q rfl rfl rfl (zal (m_ref9_small_ok _ _ _ _ hy15) Tryz.func107 (by kernel_rfl) (LEs.cons (AV.le_eq rfl) (LEs.cons (AV.le_eq rfl) (LEs.cons (AV.le_eq rfl) LEs.nil))) ?_)
         refine G_q rfl (zao rfl (av := .xb y15) rfl ?_)
         refine G_q rfl (zab (av := .xb y15) rfl ?_)
         refine G_nil ?_
         refine zaf ⟨_, h, ?_⟩
         exact Sub.of_le (lq rfl lt0)
        ·replace h := ite_f h hc
         refine G_n rfl rfl (G_n rfl rfl (G_n rfl rfl (G_n rfl rfl ?_)))
         refine G_q rfl (zai rfl (av := .xb false) rfl ?_)
         refine G_q rfl (zab (av := .xb false) rfl ?_)
         refine G_nil ?_
         refine zaf ⟨_, h, ?_⟩
         exact Sub.of_le (lq rfl lt0)
       ·replace h := ite_f h hc
        refine G_n rfl rfl (G_n rfl rfl (G_n rfl rfl ?_))
        refine G_q rfl (zai rfl (av := .xb false) rfl ?_)
        refine G_q rfl (zac (av := .xb false) rfl ?_)
        refine G_n rfl rfl (G_n rfl rfl (G_n rfl rfl (G_n rfl rfl ?_)))
        refine G_q rfl (zai rfl (av := .xb false) rfl ?_)
        refine G_q rfl (zab (av := .xb false) rfl ?_)
        refine G_nil ?_
        refine zaf ⟨_, h, ?_⟩
        exact Sub.of_le (lq rfl lt0)
      ·refine k_ret (kB_ret (kC_ret ?_))
       obtain rfl := Option.some.inj h
       refine zaj (endN (af' := (AF.put AF0 (some 4) (.xb x4_j11))) (σ' := []) _ rfl ?_ ⟨rfl, rfl⟩)
       exact Sub.of_le (lq rfl lt0)
     ·replace h := ite_f h hc
      refine zae (zag .free hmixP (by kernel_rfl) ?_)
      refine G_q rfl (op_eql rfl rfl ?_)
      refine G_q rfl (zab (av := .xb (decide (a0 = 9))) rfl ?_)
      refine G_nil (zaa ?_)
      refine zak (p := a0 = 9) rfl (fun hc => ?_) (fun hc => ?_)
      ·replace h := ite_t h hc
       refine k_join1_0 h (fun (x4_j16 : Bool) => (AF.put AF0 (some 4) (.xb x4_j16))) (fun (x4_j16 : Bool) => []) (fun k16 h => ?_) (fun x4_j16 h => ?_)
       ·refine zag .free hmixP (by kernel_rfl) ?_
        refine G_q rfl (zac (av := .row 1 zad a1) rfl ?_)
        refine G_q rfl (op_len_row (by kernel_rfl) rfl ?_)
        refine G_q rfl (op_geq rfl rfl ?_)
        refine G_q rfl (zac (av := .xb (decide (1 ≤ (List.length a1 : Int)))) rfl ?_)
        refine G_split (p := 1 ≤ (List.length a1 : Int)) 69 rfl (fun hc => ?_) (fun hc => ?_)
        ·replace h := ite_t h hc
         refine Gy_q rfl rfl rfl (zac (av := .row 1 zad a1) rfl ?_)
         obtain ⟨n19, h⟩ := need_some h
         refine Gy_q rfl rfl rfl (op_index_row (by kernel_rfl) rfl rfl n19.1 n19.2 ?_)
         refine Gy_q rfl rfl rfl (zaq (a := .xs (gi a1 0)) (by kernel_rfl) rfl rfl ?_)
         obtain ⟨y20, hy20, h⟩ := bnd1_some h
         refine Gy_q rfl rfl rfl (zal (m_ref9_small_ok _ _ _ _ hy20) Tryz.func107 (by kernel_rfl) (LEs.cons (AV.le_eq rfl) (LEs.cons (AV.le_eq rfl) (LEs.cons (AV.le_eq rfl) LEs.nil))) ?_)
         refine G_q rfl (zao rfl (av := .xb y20) rfl ?_)
         refine G_q rfl (zab (av := .xb y20) rfl ?_)
         refine G_nil ?_
         refine zaf ⟨_, h, ?_⟩
         exact Sub.of_le (lq rfl lt0)
        ·replace h := ite_f h hc
         refine G_n rfl rfl (G_n rfl rfl (G_n rfl rfl (G_n rfl rfl ?_)))
         refine G_q rfl (zai rfl (av := .xb false) rfl ?_)
         refine G_q rfl (zab (av := .xb false) rfl ?_)
         refine G_nil ?_
         refine zaf ⟨_, h, ?_⟩
         exact Sub.of_le (lq rfl lt0)
       ·refine k_ret (kB_ret (kC_ret ?_))
        obtain rfl := Option.some.inj h
        refine zaj (endN (af' := (AF.put AF0 (some 4) (.xb x4_j16))) (σ' := []) _ rfl ?_ ⟨rfl, rfl⟩)
        exact Sub.of_le (lq rfl lt0)
      ·replace h := ite_f h hc
       refine k_skip (kB_normal (zaa (zae (zag .free hmixP (by kernel_rfl) ?_))))
       refine G_q rfl (zab (av := .xb true) rfl ?_)
       refine G_nil (zaa (k_ret ?_))
       obtain rfl := Option.some.inj h
       refine zaj (endN (af' := (AF.put AF0 (some 4) (.xb true))) (σ' := []) _ rfl ?_ ⟨rfl, rfl⟩)
       exact Sub.of_le (lq rfl lt0)
set_option maxHeartbeats 4000000 in
theorem m_ref9_walk_F_ok (self_ref9_walk : (List UInt8) → Int → Bool → Option (Int × (List (List UInt8)) × Int)) (hself_ref9_walk : ∀ (a0 : List UInt8) (a1 : Int) (a2 : Bool) (r : Int × (List (List UInt8)) × Int), self_ref9_walk a0 a1 a2 = some r → Pure Tryz.prog 76 [(.exact (.string (bs a0))), (.exact (.int .i64 a1)), (.exact (.bool a2))] (.tup [.exact (.int .i64 r.1), .row 1 zad r.2.1, .exact (.int .i64 r.2.2)])) (self_ref9_order : (List UInt8) → (List UInt8) → Option Int) (hself_ref9_order : ∀ (a0 : List UInt8) (a1 : List UInt8) (r : Int), self_ref9_order a0 a1 = some r → Pure Tryz.prog 79 [(.exact (.string (bs a0))), (.exact (.string (bs a1)))] (.exact (.int .i64 r))) (a0 : List UInt8) (a1 : Int) (a2 : Bool) (r : Int × (List (List UInt8)) × Int) (h : m_ref9_walk_F self_ref9_walk self_ref9_order a0 a1 a2 = some r) : Pure Tryz.prog 76 [(.exact (.string (bs a0))), (.exact (.int .i64 a1)), (.exact (.bool a2))] (.tup [.exact (.int .i64 r.1), .row 1 zad r.2.1, .exact (.int .i64 r.2.2)]) := by
 unfold m_ref9_walk_F at h
 refine Pure.ofFun (fun_of_awp Tryz.func76 rfl Tryz.ntmps76 (by simp) rfl (res3 rfl) fun E hE => k_end ?_)
 refine zae (zag .free hmixP (by kernel_rfl) ?_)
 refine G_q rfl (zab (av := .xi 0) rfl ?_)
 refine G_q rfl (zab (av := .exact (.slice none 0 0)) rfl ?_)
 refine G_q rfl (zab (av := .xi 0) rfl ?_)
 refine G_nil (zaa (zae ?_))
 refine k_join1_0 h (fun (x24_j3 : Bool) => (AF.put (AF.put (AF.put (AF.put AF0 (some 0) (.xs a0)) (some 1) (.xi a1)) (some 2) (.xb a2)) (some 24) (.xb x24_j3))) (fun (x24_j3 : Bool) => []) (fun k3 h => ?_) (fun x24_j3 h => ?_)
 ·refine zag .free hmixP (by kernel_rfl) ?_
  refine G_q rfl (zac (av := .xs a0) rfl ?_)
  refine G_q rfl (op_lenS (by kernel_rfl) rfl ?_)
  refine G_q rfl (op_lss rfl rfl ?_)
  refine G_q rfl (zac (av := .xb (decide ((List.length a0 : Int) < 2))) rfl ?_)
  refine G_split (p := (List.length a0 : Int) < 2) 21 rfl (fun hc => ?_) (fun hc => ?_)
  ·replace h := ite_t h hc
   refine G_n rfl rfl (G_n rfl rfl ?_)
   refine G_q rfl (zao rfl (av := .xb true) rfl ?_)
   refine G_nil ?_
   refine zaf ⟨_, h, ?_⟩
   exact Sub.of_le (lq rfl (lq rfl (lq rfl (lq rfl lt0))))
  ·replace h := ite_f h hc
   refine Gy_q rfl rfl rfl (zac (av := .xi a1) rfl ?_)
   refine Gy_q rfl rfl rfl (op_eql rfl rfl ?_)
   refine G_q rfl (zai rfl (av := .xb (decide (a1 = 0))) rfl ?_)
   refine G_nil ?_
   refine zaf ⟨_, h, ?_⟩
   exact Sub.of_le (lq rfl (lq rfl (lq rfl (lq rfl lt0))))
 ·refine k_cond_b (c := x24_j3) rfl (fun hc => ?_) (fun hc => ?_)
  ·replace h := ite_t h hc
   refine zae (zag .free hmixP (by kernel_rfl) ?_)
   refine G_q rfl (zab (av := .xi 0) rfl ?_)
   refine G_q rfl (zab (av := .exact (.slice none 0 0)) rfl ?_)
   refine G_q rfl (zab (av := .xi 0) rfl ?_)
   refine G_nil (zaa (k_ret (kC_ret ?_)))
   obtain rfl := Option.some.inj h
   refine zaj (endN (af' := (AF.put (AF.put (AF.put AF0 (some 6) (.xi 0)) (some 7) (.row 1 zad [])) (some 8) (.xi 0))) (σ' := []) _ rfl ?_ ⟨rfl, rfl⟩)
   exact Sub.of_le (lq rfl (AF.le_put (row_nil (by decide)) (lq rfl lt0)))
  ·replace h := ite_f h hc
   refine k_skip (zaa (zae (zae (zag .free hmixP (by kernel_rfl) ?_))))
   refine G_q rfl (zac (av := .xs a0) rfl ?_)
   obtain ⟨n8, h⟩ := need_some h
   refine G_q rfl (op_index_str (by kernel_rfl) rfl rfl n8.1 n8.2 ?_)
   refine G_q rfl (op_convInt (k := .i64) (r := (UInt8.toNat (gi a0 0) : Int)) (by kernel_rfl) rfl (wrap_u8 rfl _) ?_)
   refine G_q rfl (zab (av := .xi (UInt8.toNat (gi a0 0) : Int)) rfl ?_)
   refine G_nil (zaa (k_block (zae (zag .free hmixP (by kernel_rfl) ?_))))
   refine G_q rfl (zac (av := .xi (UInt8.toNat (gi a0 0) : Int)) rfl ?_)
   refine G_q rfl (op_eql rfl rfl ?_)
   refine G_q rfl (zab (av := .xb (decide ((UInt8.toNat (gi a0 0) : Int) = 1))) rfl ?_)
   refine G_nil (zaa ?_)
   refine zak (p := (UInt8.toNat (gi a0 0) : Int) = 1) rfl (fun hc => ?_) (fun hc => ?_)
   ·replace h := ite_t h hc
    refine zae (zae (zag .free hmixP (by kernel_rfl) ?_))
    refine G_q rfl (zac (av := .xs a0) rfl ?_)
    refine G_q rfl (op_lenS (by kernel_rfl) rfl ?_)
    refine G_q rfl (op_lss rfl rfl ?_)
    refine G_nil (zaa ?_)
    refine zak (p := (List.length a0 : Int) < 9) rfl (fun hc => ?_) (fun hc => ?_)
    ·replace h := ite_t h hc
     refine zae (zag .free hmixP (by kernel_rfl) ?_)
     refine G_q rfl (zab (av := .xi 0) rfl ?_)
     refine G_q rfl (zab (av := .exact (.slice none 0 0)) rfl ?_)
     refine G_q rfl (zab (av := .xi 0) rfl ?_)
     refine G_nil (zaa (k_ret (kC_ret (kB_ret (kC_ret ?_)))))
     obtain rfl := Option.some.inj h
     refine zaj (endN (af' := (AF.put (AF.put (AF.put AF0 (some 6) (.xi 0)) (some 7) (.row 1 zad [])) (some 8) (.xi 0))) (σ' := []) _ rfl ?_ ⟨rfl, rfl⟩)
     exact Sub.of_le (lq rfl (AF.le_put (row_nil (by decide)) (lq rfl lt0)))
    ·replace h := ite_f h hc
     refine k_skip (zaa (zae (zag .free hmixP (by kernel_rfl) ?_)))
     refine G_q rfl (zab (av := .xi 9) rfl ?_)
     refine G_q rfl (zab (av := .exact (.slice none 0 0)) rfl ?_)
     refine G_q rfl (zab (av := .xi 1) rfl ?_)
     refine G_nil (zaa (k_ret (kB_ret (kC_ret ?_))))
     obtain rfl := Option.some.inj h
     refine zaj (endN (af' := (AF.put (AF.put (AF.put AF0 (some 6) (.xi 9)) (some 7) (.row 1 zad [])) (some 8) (.xi 1))) (σ' := []) _ rfl ?_ ⟨rfl, rfl⟩)
     exact Sub.of_le (lq rfl (AF.le_put (row_nil (by decide)) (lq rfl lt0)))
   ·replace h := ite_f h hc
    refine zae (zag .free hmixP (by kernel_rfl) ?_)
    refine G_q rfl (zac (av := .xi (UInt8.toNat (gi a0 0) : Int)) rfl ?_)
    refine G_q rfl (op_eql rfl rfl ?_)
    refine G_q rfl (zab (av := .xb (decide ((UInt8.toNat (gi a0 0) : Int) = 2))) rfl ?_)
    refine G_nil (zaa ?_)
    refine zak (p := (UInt8.toNat (gi a0 0) : Int) = 2) rfl (fun hc => ?_) (fun hc => ?_)
    ·replace h := ite_t h hc
     refine zae (zae (zag .free hmixP (by kernel_rfl) ?_))
     refine G_q rfl (zac (av := .xs a0) rfl ?_)
     obtain ⟨n9, h⟩ := need_some h
     refine G_q rfl (op_index_str (by kernel_rfl) rfl rfl n9.1 n9.2 ?_)
     refine G_q rfl (op_gtrU (a := (gi a0 1)) (b := 1) rfl rfl ?_)
     refine G_nil (zaa ?_)
     refine zak (p := 1 < (gi a0 1)) rfl (fun hc => ?_) (fun hc => ?_)
     ·replace h := ite_t h hc
      refine zae (zag .free hmixP (by kernel_rfl) ?_)
      refine G_q rfl (zab (av := .xi 0) rfl ?_)
      refine G_q rfl (zab (av := .exact (.slice none 0 0)) rfl ?_)
      refine G_q rfl (zab (av := .xi 0) rfl ?_)
      refine G_nil (zaa (k_ret (kC_ret (kB_ret (kC_ret ?_)))))
      obtain rfl := Option.some.inj h
      refine zaj (endN (af' := (AF.put (AF.put (AF.put AF0 (some 6) (.xi 0)) (some 7) (.row 1 zad [])) (some 8) (.xi 0))) (σ' := []) _ rfl ?_ ⟨rfl, rfl⟩)
      exact Sub.of_le (lq rfl (AF.le_put (row_nil (by decide)) (lq rfl lt0)))
     ·replace h := ite_f h hc
      refine k_skip (zaa (zae (zag .free hmixP (by kernel_rfl) ?_)))
      refine G_q rfl (zab (av := .xi 2) rfl ?_)
      refine G_q rfl (zab (av := .exact (.slice none 0 0)) rfl ?_)
      refine G_q rfl (zab (av := .xi 1) rfl ?_)
      refine G_nil (zaa (k_ret (kB_ret (kC_ret ?_))))
      obtain rfl := Option.some.inj h
      refine zaj (endN (af' := (AF.put (AF.put (AF.put AF0 (some 6) (.xi 2)) (some 7) (.row 1 zad [])) (some 8) (.xi 1))) (σ' := []) _ rfl ?_ ⟨rfl, rfl⟩)
      exact Sub.of_le (lq rfl (AF.le_put (row_nil (by decide)) (lq rfl lt0)))
    ·replace h := ite_f h hc
     refine k_join1_0 h (fun (x40_j10 : Bool) => (AF.put (AF.put (AF.put (AF.put (AF.put AF0 (some 0) (.xs a0)) (some 1) (.xi a1)) (some 2) (.xb a2)) (some 9) (.xi (UInt8.toNat (gi a0 0) : Int))) (some 40) (.xb x40_j10))) (fun (x40_j10 : Bool) => []) (fun k10 h => ?_) (fun x40_j10 h => ?_)
     ·refine zag .free hmixP (by kernel_rfl) ?_
      refine G_q rfl (zac (av := .xs a0) rfl ?_)
      refine G_q rfl (op_lenS (by kernel_rfl) rfl ?_)
      refine G_q rfl (op_lss rfl rfl ?_)
      refine G_q rfl (zac (av := .xb (decide ((List.length a0 : Int) < 3))) rfl ?_)
      refine G_split (p := (List.length a0 : Int) < 3) 44 rfl (fun hc => ?_) (fun hc => ?_)
      ·replace h := ite_t h hc
       refine G_n rfl rfl (G_n rfl rfl ?_)
       refine G_q rfl (zao rfl (av := .xb true) rfl ?_)
       refine G_q rfl (zac (av := .xb true) rfl ?_)
       refine G_n rfl rfl (G_n rfl rfl ?_)
       refine G_q rfl (zao rfl (av := .xb true) rfl ?_)
       refine G_q rfl (zab (av := .xb true) rfl ?_)
       refine G_nil ?_
       refine zaf ⟨_, h, ?_⟩
       exact Sub.of_le (lq rfl (lq rfl (lq rfl (lq rfl (lq rfl lt0)))))
      ·replace h := ite_f h hc
       refine Gy_q rfl rfl rfl (zac (av := .xi (UInt8.toNat (gi a0 0) : Int)) rfl ?_)
       refine Gy_q rfl rfl rfl (op_lss rfl rfl ?_)
       refine G_q rfl (zai rfl (av := .xb (decide ((UInt8.toNat (gi a0 0) : Int) < 3))) rfl ?_)
       refine G_q rfl (zac (av := .xb (decide ((UInt8.toNat (gi a0 0) : Int) < 3))) rfl ?_)
       refine G_split (p := (UInt8.toNat (gi a0 0) : Int) < 3) 48 rfl (fun hc => ?_) (fun hc => ?_)
       ·replace h := ite_t h hc
        refine G_n rfl rfl (G_n rfl rfl ?_)
        refine G_q rfl (zao rfl (av := .xb true) rfl ?_)
        refine G_q rfl (zab (av := .xb true) rfl ?_)
        refine G_nil ?_
        refine zaf ⟨_, h, ?_⟩
        exact Sub.of_le (lq rfl (lq rfl (lq rfl (lq rfl (lq rfl lt0)))))
       ·replace h := ite_f h hc
        refine Gy_q rfl rfl rfl (zac (av := .xi (UInt8.toNat (gi a0 0) : Int)) rfl ?_)
        refine Gy_q rfl rfl rfl (op_gtr rfl rfl ?_)
        refine G_q rfl (zai rfl (av := .xb (decide (10 < (UInt8.toNat (gi a0 0) : Int)))) rfl ?_)
        refine G_q rfl (zab (av := .xb (decide (10 < (UInt8.toNat (gi a0 0) : Int)))) rfl ?_)
        refine G_nil ?_
        refine zaf ⟨_, h, ?_⟩
        exact Sub.of_le (lq rfl (lq rfl (lq rfl (lq rfl (lq rfl lt0)))))
     ·refine k_cond_b (c := x40_j10) rfl (fun hc => ?_) (fun hc => ?_)
      ·replace h := ite_t h hc
       refine zae (zag .free hmixP (by kernel_rfl) ?_)
       refine G_q rfl (zab (av := .xi 0) rfl ?_)
       refine G_q rfl (zab (av := .exact (.slice none 0 0)) rfl ?_)
       refine G_q rfl (zab (av := .xi 0) rfl ?_)
       refine G_nil (zaa (k_ret (kB_ret (kC_ret ?_))))
       obtain rfl := Option.some.inj h
       refine zaj (endN (af' := (AF.put (AF.put (AF.put AF0 (some 6) (.xi 0)) (some 7) (.row 1 zad [])) (some 8) (.xi 0))) (σ' := []) _ rfl ?_ ⟨rfl, rfl⟩)
       exact Sub.of_le (lq rfl (AF.le_put (row_nil (by decide)) (lq rfl lt0)))
      ·replace h := ite_f h hc
       refine zae (zag .free hmixP (by kernel_rfl) ?_)
       refine G_q rfl (zac (av := .xi (UInt8.toNat (gi a0 0) : Int)) rfl ?_)
       refine G_q rfl (op_eql rfl rfl ?_)
       refine G_q rfl (zab (av := .xb (decide ((UInt8.toNat (gi a0 0) : Int) = 10))) rfl ?_)
       refine G_nil (zaa ?_)
       refine zak (p := (UInt8.toNat (gi a0 0) : Int) = 10) rfl (fun hc => ?_) (fun hc => ?_)
       ·replace h := ite_t h hc
        refine zae (zag .free hmixP (by kernel_rfl) ?_)
        refine G_q rfl (zab (av := .xi 3) rfl ?_)
        refine G_q rfl (zab (av := .exact (.slice none 0 0)) rfl ?_)
        refine G_q rfl (zab (av := .xi 1) rfl ?_)
        refine G_nil (zaa (k_ret (kB_ret (kC_ret ?_))))
        obtain rfl := Option.some.inj h
        refine zaj (endN (af' := (AF.put (AF.put (AF.put AF0 (some 6) (.xi 3)) (some 7) (.row 1 zad [])) (some 8) (.xi 1))) (σ' := []) _ rfl ?_ ⟨rfl, rfl⟩)
        exact Sub.of_le (lq rfl (AF.le_put (row_nil (by decide)) (lq rfl lt0)))
       ·replace h := ite_f h hc
        refine k_skip (kB_normal (zaa (zae ?_)))
        refine k_plan [] [(0, 0), (0, 1), (0, 2), (0, 3), (0, 4), (0, 5), (0, 6), (0, 7), (0, 8)] hmixP (by kernel_rfl) ?_
        refine P_q no34_0 rfl (zac (av := .xs a0) rfl ?_)
        obtain ⟨n11, h⟩ := need_some h
        refine P_q no34_0 rfl (op_index_str (by kernel_rfl) rfl rfl n11.1 n11.2 ?_)
        refine P_q no34_0 rfl (op_convInt (k := .i64) (r := (UInt8.toNat (gi a0 1) : Int)) (by kernel_rfl) rfl (wrap_u8 rfl _) ?_)
        refine P_q no34_0 rfl (op_shl rfl rfl (by decide) rfl ?_)
        refine P_q no34_0 rfl (zac (av := .xs a0) rfl ?_)
        obtain ⟨n12, h⟩ := need_some h
        refine P_q no34_0 rfl (op_index_str (by kernel_rfl) rfl rfl n12.1 n12.2 ?_)
        refine P_q no34_0 rfl (op_convInt (k := .i64) (r := (UInt8.toNat (gi a0 2) : Int)) (by kernel_rfl) rfl (wrap_u8 rfl _) ?_)
        refine P_q no34_0 rfl (op_or rfl rfl rfl ?_)
        refine P_q no34_0 rfl (zab (av := .xi (bOr .i64 (i64 ((UInt8.toNat (gi a0 1) : Int) * 2 ^ min (Int.toNat 8) IntKind.i64.bits)) (UInt8.toNat (gi a0 2) : Int))) rfl ?_)
        refine P_nil (zaa (zae (zag .free hmixP (by kernel_rfl) ?_)))
        refine G_q rfl (zab (av := .xi 3) rfl ?_)
        refine G_q rfl (zab (av := .xi 0) rfl ?_)
        refine G_nil (zaa (zae (zag .free hmixP (by kernel_rfl) ?_)))
        refine G_q rfl (zab (av := .exact (.slice none 0 0)) rfl ?_)
        refine G_nil (zaa ?_)
        refine k_join3_1 h (fun (x11_j13 : Int) (x12_j13 : Int) (x13_j13 : List (List UInt8)) (v13_j13 : Value) => (AF.put (AF.put (AF.put (AF.put (AF.put AF0 (some 0) (.xs a0)) (some 2) (.xb a2)) (some 11) (.xi x11_j13)) (some 12) (.xi x12_j13)) (some 13) (.exact v13_j13))) (fun (x11_j13 : Int) (x12_j13 : Int) (x13_j13 : List (List UInt8)) (v13_j13 : Value) => [vecT Tryz.prog 27 1 zad v13_j13 x13_j13]) (fun k13 h => ?_) (fun x11_j13 x12_j13 x13_j13 v13_j13 h => ?_)
        ·refine zae (zag .free hmixP (by kernel_rfl) ?_)
         refine G_q rfl (zab (av := .xi 0) rfl ?_)
         refine G_nil (zaa (k_block ?_))
         refine k_loop4_1 (m_ref9_walk_L2 self_ref9_walk a0 a1 a2 k13) (m_ref9_walk_B2 self_ref9_walk a0 a1 a2 k13) (fun _ _ _ _ => rfl) (fun m _ _ _ _ => rfl) h (fun (x11_l2 : Int) (x12_l2 : Int) (x13_l2 : List (List UInt8)) (x14_l2 : Int) (v13_l2 : Value) => (AF.put (AF.put (AF.put (AF.put (AF.put (AF.put (AF.put (AF.put AF0 (some 0) (.xs a0)) (some 1) (.xi a1)) (some 2) (.xb a2)) (some 10) (.xi (bOr .i64 (i64 ((UInt8.toNat (gi a0 1) : Int) * 2 ^ min (Int.toNat 8) IntKind.i64.bits)) (UInt8.toNat (gi a0 2) : Int)))) (some 11) (.xi x11_l2)) (some 12) (.xi x12_l2)) (some 13) (.exact v13_l2)) (some 14) (.xi x14_l2))) (fun (x11_l2 : Int) (x12_l2 : Int) (x13_l2 : List (List UInt8)) (x14_l2 : Int) (v13_l2 : Value) => [vecT Tryz.prog 27 1 zad v13_l2 x13_l2]) (.slice none 0 0) ?_ (fun rec2 x11_l2 x12_l2 x13_l2 x14_l2 v13_l2 h => ?_)
         ·refine Sub.trans (SubU.to (SubU.nilT (P := Tryz.prog) (t := 27) (n := 1) (enc := zad))) ?_
          exact Sub.of_le (lq rfl (lq rfl (lq rfl (lq rfl (lq rfl (lq rfl (lq rfl (lq rfl lt0))))))))
         ·unfold m_ref9_walk_B2 at h
          refine zae (zae (zag .free hmixP (by kernel_rfl) ?_))
          refine G_q rfl (zac (av := .xi x14_l2) rfl ?_)
          refine G_q rfl (zac (av := .xi (bOr .i64 (i64 ((UInt8.toNat (gi a0 1) : Int) * 2 ^ min (Int.toNat 8) IntKind.i64.bits)) (UInt8.toNat (gi a0 2) : Int))) rfl ?_)
          refine G_q rfl (op_lss rfl rfl ?_)
          refine G_nil (zaa ?_)
          refine zak (p := x14_l2 < (bOr .i64 (i64 ((UInt8.toNat (gi a0 1) : Int) * 2 ^ min (Int.toNat 8) IntKind.i64.bits)) (UInt8.toNat (gi a0 2) : Int))) rfl (fun hc => ?_) (fun hc => ?_)
          ·replace h := ite_t h hc
           refine k_skip (zaa (zae (k_block (zae (zag .free hmixP (by kernel_rfl) ?_)))))
           refine G_q rfl (zac (av := .xs a0) rfl ?_)
           refine G_q rfl (zac (av := .xi x11_l2) rfl ?_)
           obtain ⟨n40, h⟩ := need_some h
           refine G_q rfl (op_slice_strd (by kernel_rfl) rfl (bnd_some rfl) bnd_none n40.1 n40.2 (Int.le_refl _) ?_)
           refine G_q rfl (zac (av := .xi a1) rfl ?_)
           refine G_q rfl (op_sub rfl rfl rfl ?_)
           refine G_q rfl (zac (av := .xb a2) rfl ?_)
           obtain ⟨y41, hy41, h⟩ := bnd1_some h
           refine G_q rfl (zal (hself_ref9_walk _ _ _ _ hy41) Tryz.func76 (by kernel_rfl) (LEs.cons (AV.le_eq rfl) (LEs.cons (AV.le_eq rfl) (LEs.cons (AV.le_eq rfl) LEs.nil))) ?_)
           refine G_q rfl (zac (av := .tup [.xi y41.1, .row 1 zad y41.2.1, .xi y41.2.2]) rfl ?_)
           refine G_q rfl (op_extract (av := .xi y41.1) rfl rfl ?_)
           refine G_q rfl (op_extract (av := .row 1 zad y41.2.1) rfl rfl ?_)
           refine G_q rfl (op_extract (av := .xi y41.2.2) rfl rfl ?_)
           refine G_q rfl (zab (av := .xi y41.1) rfl ?_)
           refine G_q rfl (zab (av := .row 1 zad y41.2.1) rfl ?_)
           refine G_q rfl (zab (av := .xi y41.2.2) rfl ?_)
           refine G_nil (zaa (zae (zae (zag .free hmixP (by kernel_rfl) ?_))))
           refine G_q rfl (zac (av := .xi y41.1) rfl ?_)
           refine G_q rfl (op_eql rfl rfl ?_)
           refine G_nil (zaa ?_)
           refine zak (p := y41.1 = 0) rfl (fun hc => ?_) (fun hc => ?_)
           ·replace h := ite_t h hc
            refine zae (zag .free hmixP (by kernel_rfl) ?_)
            refine G_q rfl (zab (av := .xi 0) rfl ?_)
            refine G_q rfl (zab (av := .exact (.slice none 0 0)) rfl ?_)
            refine G_q rfl (zab (av := .xi 0) rfl ?_)
            refine G_nil (zaa (k_ret (kC_ret (kB_ret (kC_ret (kI_ret (kB_ret (kI_ret ?_))))))))
            obtain rfl := Option.some.inj h
            refine zaj (endN (af' := (AF.put (AF.put (AF.put AF0 (some 6) (.xi 0)) (some 7) (.row 1 zad [])) (some 8) (.xi 0))) (σ' := []) _ rfl ?_ ⟨rfl, rfl⟩)
            refine Sub.trans (SubU.to SubU.drop) ?_
            exact Sub.of_le (lq rfl (AF.le_put (row_nil (by decide)) (lq rfl lt0)))
           ·replace h := ite_f h hc
            refine k_skip (zaa (zae (zag .free hmixP (by kernel_rfl) ?_)))
            refine G_q rfl (zac (av := .exact v13_l2) rfl ?_)
            refine G_q rfl (zac (av := .xs a0) rfl ?_)
            refine G_q rfl (zac (av := .xi x11_l2) rfl ?_)
            refine G_q rfl (zac (av := .xi x11_l2) rfl ?_)
            refine G_q rfl (zac (av := .xi y41.1) rfl ?_)
            refine G_q rfl (op_add rfl rfl rfl ?_)
            obtain ⟨n42, h⟩ := need_some h
            refine G_q rfl (op_slice_str (by kernel_rfl) rfl (bnd_some rfl) (bnd_some rfl) n42.1 n42.2.1 n42.2.2 ?_)
            refine G_q rfl (op_litT (n := 1) (enc := zad) [List.take (Int.toNat (i64 (x11_l2 + y41.1)) - Int.toNat x11_l2) (List.drop (Int.toNat x11_l2) a0)] (CellsAll.cons rfl CellsOf.str CellsAll.nil) rfl (by kernel_rfl) (LEss.cons (LEs.cons (AV.le_eq rfl) LEs.nil) LEss.nil) ?_)
            obtain ⟨n43, h⟩ := need_some h
            refine G_l rfl (op_appT (by kernel_rfl) rfl rfl oc_c_api_Value n43 (fun v44 => ?_))
            refine G_q rfl (zab (av := .exact v44) rfl ?_)
            refine G_nil (zaa (zae (zag .free hmixP (by kernel_rfl) ?_)))
            refine G_q rfl (zac (av := .xi x11_l2) rfl ?_)
            refine G_q rfl (zac (av := .xi y41.1) rfl ?_)
            refine G_q rfl (op_add rfl rfl rfl ?_)
            refine G_q rfl (zab (av := .xi (i64 (x11_l2 + y41.1))) rfl ?_)
            refine G_nil (zaa (zag .free hmixP (by kernel_rfl) ?_))
            refine G_q rfl (zac (av := .xi x12_l2) rfl ?_)
            refine G_q rfl (zac (av := .xi y41.2.2) rfl ?_)
            refine G_q rfl (op_max rfl rfl ?_)
            refine G_q rfl (zab (av := .xi (max x12_l2 y41.2.2)) rfl ?_)
            refine G_nil (kB_normal (zaa (zag .free hmixP (by kernel_rfl) ?_)))
            refine G_q rfl (zac (av := .xi x14_l2) rfl ?_)
            refine G_q rfl (op_add rfl rfl rfl ?_)
            refine G_q rfl (zab (av := .xi (i64 (x14_l2 + 1))) rfl ?_)
            refine G_nil ?_
            refine zaf ⟨_, _, _, _, v44, h, ?_⟩
            exact Sub.of_le (lq rfl (lq rfl (lq rfl (lq rfl (lq rfl (lq rfl (lq rfl (lq rfl lt0))))))))
          ·replace h := ite_f h hc
           refine k_exit (kC_exit (kI_exit (kB_exit ?_)))
           refine zaf ⟨_, _, _, v13_l2, h, ?_⟩
           exact Sub.of_le (lq rfl (lq rfl (lq rfl (lq rfl (lq rfl lt0)))))
        ·refine zae ?_
         refine k_join2_0 h (fun (x13_j51 : List (List UInt8)) (x104_j51 : Bool) => (AF.put (AF.put (AF.put (AF.put AF0 (some 11) (.xi x11_j13)) (some 12) (.xi x12_j13)) (some 13) (.row 1 zad x13_j51)) (some 104) (.xb x104_j51))) (fun (x13_j51 : List (List UInt8)) (x104_j51 : Bool) => []) (fun k51 h => ?_) (fun x13_j51 x104_j51 h => ?_)
         ·refine zag .free hmixP (by kernel_rfl) ?_
          refine G_q rfl (zac (av := .xb a2) rfl ?_)
          refine G_q rfl (zac (av := .xb a2) rfl ?_)
          refine G_splitB (c := a2) 97 rfl (fun hc => ?_) (fun hc => ?_)
          ·replace h := ite_t h hc
           refine Gy_q rfl rfl rfl (zac (av := .xs a0) rfl ?_)
           obtain ⟨n54, h⟩ := need_some h
           refine Gy_q rfl rfl rfl (op_index_str (by kernel_rfl) rfl rfl n54.1 n54.2 ?_)
           refine Gy_q rfl rfl rfl (op_convInt (k := .i64) (r := (UInt8.toNat (gi a0 0) : Int)) (by kernel_rfl) rfl (wrap_u8 rfl _) ?_)
           refine Gy_q rfl rfl rfl (zac (av := .exact v13_j13) rfl ?_)
           refine G_sub rfl (SubU.freezeT2 (s1 := 13) (s2 := 101) rfl rfl len_c_api_Value) ?_
           obtain ⟨y55, hy55, h⟩ := bnd1_some h
           refine Gy_q rfl rfl rfl (zal (m_ref9_parted_ok self_ref9_walk hself_ref9_walk self_ref9_order hself_ref9_order _ _ _ hy55) Tryz.func92 (by kernel_rfl) (LEs.cons (AV.le_eq rfl) (LEs.cons (AV.le_eq rfl) LEs.nil)) ?_)
           refine Gy_q rfl rfl rfl (op_not rfl ?_)
           refine G_q rfl (zao rfl (av := .xb (!y55)) rfl ?_)
           refine G_nil ?_
           refine zaf ⟨_, _, h, ?_⟩
           exact Sub.of_le (lq rfl (lq rfl (lq rfl (lq rfl lt0))))
          ·replace h := ite_f h hc
           refine G_n rfl rfl (G_n rfl rfl (G_n rfl rfl (G_n rfl rfl (G_n rfl rfl (G_n rfl rfl ?_)))))
           refine G_q rfl (zai rfl (av := .xb false) rfl ?_)
           refine G_nil ?_
           refine zaf ⟨_, _, h, ?_⟩
           refine Sub.trans (SubU.to (SubU.freezeT (s := 13) rfl len_c_api_Value)) ?_
           exact Sub.of_le (lq rfl (lq rfl (lq rfl (lq rfl lt0))))
         ·refine k_cond_b (c := x104_j51) rfl (fun hc => ?_) (fun hc => ?_)
          ·replace h := ite_t h hc
           refine zae (zag .free hmixP (by kernel_rfl) ?_)
           refine G_q rfl (zab (av := .xi 0) rfl ?_)
           refine G_q rfl (zab (av := .exact (.slice none 0 0)) rfl ?_)
           refine G_q rfl (zab (av := .xi 0) rfl ?_)
           refine G_nil (zaa (k_ret (kC_ret ?_)))
           obtain rfl := Option.some.inj h
           refine zaj (endN (af' := (AF.put (AF.put (AF.put AF0 (some 6) (.xi 0)) (some 7) (.row 1 zad [])) (some 8) (.xi 0))) (σ' := []) _ rfl ?_ ⟨rfl, rfl⟩)
           exact Sub.of_le (lq rfl (AF.le_put (row_nil (by decide)) (lq rfl lt0)))
          ·replace h := ite_f h hc
           refine k_skip (zaa (zae (zag .free hmixP (by kernel_rfl) ?_)))
           refine G_q rfl (zac (av := .xi x11_j13) rfl ?_)
           refine G_q rfl (zac (av := .row 1 zad x13_j51) rfl ?_)
           refine G_q rfl (zac (av := .xi x12_j13) rfl ?_)
           refine G_q rfl (op_add rfl rfl rfl ?_)
           refine G_q rfl (zab (av := .xi x11_j13) rfl ?_)
           refine G_q rfl (zab (av := .row 1 zad x13_j51) rfl ?_)
           refine G_q rfl (zab (av := .xi (i64 (x12_j13 + 1))) rfl ?_)
           refine G_nil (zaa (k_ret ?_))
           obtain rfl := Option.some.inj h
           refine zaj (endN (af' := (AF.put (AF.put (AF.put AF0 (some 6) (.xi x11_j13)) (some 7) (.row 1 zad x13_j51)) (some 8) (.xi (i64 (x12_j13 + 1))))) (σ' := []) _ rfl ?_ ⟨rfl, rfl⟩)
           exact Sub.of_le (lq rfl (lq rfl (lq rfl lt0)))
set_option maxHeartbeats 4000000 in
theorem m_ref9_sign_ok (a0 : Bool) (a1 : Bool) (r : Int) (h : m_ref9_sign a0 a1 = some r) : Pure Tryz.prog 80 [(.exact (.bool a0)), (.exact (.bool a1))] (.exact (.int .i64 r)) := by
 unfold m_ref9_sign at h
 refine Pure.ofFun (fun_of_awp Tryz.func80 rfl Tryz.ntmps80 (by simp) rfl (res1 rfl) fun E hE => k_end ?_)
 refine zae (zag .free hmixP (by kernel_rfl) ?_)
 refine G_q rfl (zab (av := .xi 0) rfl ?_)
 refine G_nil (zaa (zae (k_block (zae (zag .free hmixP (by kernel_rfl) ?_)))))
 refine G_q rfl (zac (av := .xb a0) rfl ?_)
 refine G_q rfl (zab (av := .xb a0) rfl ?_)
 refine G_nil (zaa ?_)
 refine k_cond_b (c := a0) rfl (fun hc => ?_) (fun hc => ?_)
 ·replace h := ite_t h hc
  refine zae (zag .free hmixP (by kernel_rfl) ?_)
  refine G_q rfl (zab (av := .xi (-1)) rfl ?_)
  refine G_nil (zaa (k_ret (kB_ret (kC_ret ?_))))
  obtain rfl := Option.some.inj h
  refine zaj (endN (af' := (AF.put AF0 (some 4) (.xi (-1)))) (σ' := []) _ rfl ?_ ⟨rfl, rfl⟩)
  exact Sub.of_le (lq rfl lt0)
 ·replace h := ite_f h hc
  refine zae (zag .free hmixP (by kernel_rfl) ?_)
  refine G_q rfl (zac (av := .xb a1) rfl ?_)
  refine G_q rfl (zab (av := .xb a1) rfl ?_)
  refine G_nil (zaa ?_)
  refine k_cond_b (c := a1) rfl (fun hc => ?_) (fun hc => ?_)
  ·replace h := ite_t h hc
   refine zae (zag .free hmixP (by kernel_rfl) ?_)
   refine G_q rfl (zab (av := .xi 1) rfl ?_)
   refine G_nil (zaa (k_ret (kB_ret (kC_ret ?_))))
   obtain rfl := Option.some.inj h
   refine zaj (endN (af' := (AF.put AF0 (some 4) (.xi 1))) (σ' := []) _ rfl ?_ ⟨rfl, rfl⟩)
   exact Sub.of_le (lq rfl lt0)
  ·replace h := ite_f h hc
   refine k_skip (kB_normal (zaa (zae (zag .free hmixP (by kernel_rfl) ?_))))
   refine G_q rfl (zab (av := .xi 0) rfl ?_)
   refine G_nil (zaa (k_ret ?_))
   obtain rfl := Option.some.inj h
   refine zaj (endN (af' := (AF.put AF0 (some 4) (.xi 0))) (σ' := []) _ rfl ?_ ⟨rfl, rfl⟩)
   exact Sub.of_le (lq rfl lt0)
set_option maxHeartbeats 4000000 in
theorem m_ref9_order_F_ok (self_ref9_walk : (List UInt8) → Int → Bool → Option (Int × (List (List UInt8)) × Int)) (hself_ref9_walk : ∀ (a0 : List UInt8) (a1 : Int) (a2 : Bool) (r : Int × (List (List UInt8)) × Int), self_ref9_walk a0 a1 a2 = some r → Pure Tryz.prog 76 [(.exact (.string (bs a0))), (.exact (.int .i64 a1)), (.exact (.bool a2))] (.tup [.exact (.int .i64 r.1), .row 1 zad r.2.1, .exact (.int .i64 r.2.2)])) (self_ref9_order : (List UInt8) → (List UInt8) → Option Int) (hself_ref9_order : ∀ (a0 : List UInt8) (a1 : List UInt8) (r : Int), self_ref9_order a0 a1 = some r → Pure Tryz.prog 79 [(.exact (.string (bs a0))), (.exact (.string (bs a1)))] (.exact (.int .i64 r))) (a0 : List UInt8) (a1 : List UInt8) (r : Int) (h : m_ref9_order_F self_ref9_walk self_ref9_order a0 a1 = some r) : Pure Tryz.prog 79 [(.exact (.string (bs a0))), (.exact (.string (bs a1)))] (.exact (.int .i64 r)) := by
 unfold m_ref9_order_F at h
 refine Pure.ofFun (fun_of_awp Tryz.func79 rfl Tryz.ntmps79 (by simp) rfl (res1 rfl) fun E hE => k_end ?_)
 refine zae (zag .free hmixP (by kernel_rfl) ?_)
 refine G_q rfl (zab (av := .xi 0) rfl ?_)
 refine G_nil (zaa (zae (k_block (zae (zag .free hmixP (by kernel_rfl) ?_)))))
 refine G_q rfl (zac (av := .xs a0) rfl ?_)
 refine G_q rfl (zac (av := .xs a1) rfl ?_)
 refine G_q rfl (op_eqlS rfl rfl ?_)
 refine G_q rfl (zab (av := .xb (decide (a0 = a1))) rfl ?_)
 refine G_nil (zaa ?_)
 refine zak (p := a0 = a1) rfl (fun hc => ?_) (fun hc => ?_)
 ·replace h := ite_t h hc
  refine zae (zag .free hmixP (by kernel_rfl) ?_)
  refine G_q rfl (zab (av := .xi 0) rfl ?_)
  refine G_nil (zaa (k_ret (kB_ret (kC_ret ?_))))
  obtain rfl := Option.some.inj h
  refine zaj (endN (af' := (AF.put AF0 (some 4) (.xi 0))) (σ' := []) _ rfl ?_ ⟨rfl, rfl⟩)
  exact Sub.of_le (lq rfl lt0)
 ·replace h := ite_f h hc
  refine zae ?_
  refine k_plan [] [(0, 0), (0, 1), (0, 2), (0, 3), (0, 4), (0, 5)] hmixP (by kernel_rfl) ?_
  refine P_q no34_0 rfl (zac (av := .xs a0) rfl ?_)
  obtain ⟨n19, h⟩ := need_some h
  refine P_q no34_0 rfl (op_index_str (by kernel_rfl) rfl rfl n19.1 n19.2 ?_)
  refine P_q no34_0 rfl (zac (av := .xs a1) rfl ?_)
  obtain ⟨n20, h⟩ := need_some h
  refine P_q no34_0 rfl (op_index_str (by kernel_rfl) rfl rfl n20.1 n20.2 ?_)
  refine P_q no34_0 rfl (op_neqU (a := (gi a0 0)) (b := (gi a1 0)) rfl rfl ?_)
  refine P_q no34_0 rfl (zab (av := .xb (decide (¬ (gi a0 0) = (gi a1 0)))) rfl ?_)
  refine P_nil (zaa ?_)
  refine zak (p := ¬ (gi a0 0) = (gi a1 0)) rfl (fun hc => ?_) (fun hc => ?_)
  ·replace h := ite_t h hc
   refine zae ?_
   refine k_plan [] [(0, 0), (0, 1), (0, 2), (0, 3), (0, 4), (0, 5), (0, 6)] hmixP (by kernel_rfl) ?_
   refine P_q no34_0 rfl (zac (av := .xs a0) rfl ?_)
   obtain ⟨n21, h⟩ := need_some h
   refine P_q no34_0 rfl (op_index_str (by kernel_rfl) rfl rfl n21.1 n21.2 ?_)
   refine P_q no34_0 rfl (zac (av := .xs a1) rfl ?_)
   obtain ⟨n22, h⟩ := need_some h
   refine P_q no34_0 rfl (op_index_str (by kernel_rfl) rfl rfl n22.1 n22.2 ?_)
   refine P_q no34_0 rfl (op_lssU (a := (gi a0 0)) (b := (gi a1 0)) rfl rfl ?_)
   obtain ⟨y23, hy23, h⟩ := bnd1_some h
   refine P_q no34_0 rfl (zal (m_ref9_sign_ok _ _ _ hy23) Tryz.func80 (by kernel_rfl) (LEs.cons (AV.le_eq rfl) (LEs.cons (AV.le_eq rfl) LEs.nil)) ?_)
   refine P_q no34_0 rfl (zab (av := .xi y23) rfl ?_)
   refine P_nil (zaa (k_ret (kB_ret (kC_ret ?_))))
   obtain rfl := Option.some.inj h
   refine zaj (endN (af' := (AF.put AF0 (some 4) (.xi y23))) (σ' := []) _ rfl ?_ ⟨rfl, rfl⟩)
   exact Sub.of_le (lq rfl lt0)
  ·replace h := ite_f h hc
   refine zae (zag .free hmixP (by kernel_rfl) ?_)
   refine G_q rfl (zac (av := .xs a0) rfl ?_)
   obtain ⟨n24, h⟩ := need_some h
   refine G_q rfl (op_index_str (by kernel_rfl) rfl rfl n24.1 n24.2 ?_)
   refine G_q rfl (op_convInt (k := .i64) (r := (UInt8.toNat (gi a0 0) : Int)) (by kernel_rfl) rfl (wrap_u8 rfl _) ?_)
   refine G_q rfl (op_eql rfl rfl ?_)
   refine G_q rfl (zab (av := .xb (decide ((UInt8.toNat (gi a0 0) : Int) = 1))) rfl ?_)
   refine G_nil (zaa ?_)
   refine zak (p := (UInt8.toNat (gi a0 0) : Int) = 1) rfl (fun hc => ?_) (fun hc => ?_)
   ·replace h := ite_t h hc
    refine zae ?_
    refine k_plan [] [(0, 0), (0, 1), (0, 2), (0, 3), (0, 4), (0, 5), (0, 6), (0, 7)] hmixP (by kernel_rfl) ?_
    refine P_q no34_0 rfl (zac (av := .xs a0) rfl ?_)
    obtain ⟨n25, h⟩ := need_some h
    refine P_q no34_0 rfl (op_slice_strd (by kernel_rfl) rfl (bnd_some rfl) bnd_none (by decide) n25 (Int.le_refl _) ?_)
    obtain ⟨y26, hy26, h⟩ := bnd1_some h
    refine P_q no34_0 rfl (zal (m_ref9_number_ok _ _ hy26) Tryz.func94 (by kernel_rfl) (LEs.cons (AV.le_eq rfl) LEs.nil) ?_)
    refine P_q no34_0 rfl (zac (av := .xs a1) rfl ?_)
    obtain ⟨n27, h⟩ := need_some h
    refine P_q no34_0 rfl (op_slice_strd (by kernel_rfl) rfl (bnd_some rfl) bnd_none (by decide) n27 (Int.le_refl _) ?_)
    obtain ⟨y28, hy28, h⟩ := bnd1_some h
    refine P_q no34_0 rfl (zal (m_ref9_number_ok _ _ hy28) Tryz.func94 (by kernel_rfl) (LEs.cons (AV.le_eq rfl) LEs.nil) ?_)
    refine P_q no34_0 rfl (zab (av := .xi y26) rfl ?_)
    refine P_q no34_0 rfl (zab (av := .xi y28) rfl ?_)
    refine P_nil (zaa (zae (zag .free hmixP (by kernel_rfl) ?_)))
    refine G_q rfl (zac (av := .xi y26) rfl ?_)
    refine G_q rfl (zac (av := .xi y28) rfl ?_)
    refine G_q rfl (op_lss rfl rfl ?_)
    refine G_q rfl (zac (av := .xi y26) rfl ?_)
    refine G_q rfl (zac (av := .xi y28) rfl ?_)
    refine G_q rfl (op_gtr rfl rfl ?_)
    obtain ⟨y29, hy29, h⟩ := bnd1_some h
    refine G_q rfl (zal (m_ref9_sign_ok _ _ _ hy29) Tryz.func80 (by kernel_rfl) (LEs.cons (AV.le_eq rfl) (LEs.cons (AV.le_eq rfl) LEs.nil)) ?_)
    refine G_q rfl (zab (av := .xi y29) rfl ?_)
    refine G_nil (zaa (k_ret (kB_ret (kC_ret ?_))))
    obtain rfl := Option.some.inj h
    refine zaj (endN (af' := (AF.put AF0 (some 4) (.xi y29))) (σ' := []) _ rfl ?_ ⟨rfl, rfl⟩)
    exact Sub.of_le (lq rfl lt0)
   ·replace h := ite_f h hc
    refine k_join1_0 h (fun (x49_j30 : Bool) => (AF.put (AF.put (AF.put AF0 (some 0) (.xs a0)) (some 1) (.xs a1)) (some 49) (.xb x49_j30))) (fun (x49_j30 : Bool) => []) (fun k30 h => ?_) (fun x49_j30 h => ?_)
    ·refine zag .free hmixP (by kernel_rfl) ?_
     refine G_q rfl (zac (av := .xs a0) rfl ?_)
     obtain ⟨n33, h⟩ := need_some h
     refine G_q rfl (op_index_str (by kernel_rfl) rfl rfl n33.1 n33.2 ?_)
     refine G_q rfl (op_convInt (k := .i64) (r := (UInt8.toNat (gi a0 0) : Int)) (by kernel_rfl) rfl (wrap_u8 rfl _) ?_)
     refine G_q rfl (op_eql rfl rfl ?_)
     refine G_q rfl (zac (av := .xb (decide ((UInt8.toNat (gi a0 0) : Int) = 2))) rfl ?_)
     refine G_split (p := (UInt8.toNat (gi a0 0) : Int) = 2) 54 rfl (fun hc => ?_) (fun hc => ?_)
     ·replace h := ite_t h hc
      refine G_n rfl rfl (G_n rfl rfl (G_n rfl rfl (G_n rfl rfl ?_)))
      refine G_q rfl (zao rfl (av := .xb true) rfl ?_)
      refine G_q rfl (zab (av := .xb true) rfl ?_)
      refine G_nil ?_
      refine zaf ⟨_, h, ?_⟩
      exact Sub.of_le (lq rfl (lq rfl (lq rfl lt0)))
     ·replace h := ite_f h hc
      refine Gy_q rfl rfl rfl (zac (av := .xs a0) rfl ?_)
      obtain ⟨n34, h⟩ := need_some h
      refine Gy_q rfl rfl rfl (op_index_str (by kernel_rfl) rfl rfl n34.1 n34.2 ?_)
      refine Gy_q rfl rfl rfl (op_convInt (k := .i64) (r := (UInt8.toNat (gi a0 0) : Int)) (by kernel_rfl) rfl (wrap_u8 rfl _) ?_)
      refine Gy_q rfl rfl rfl (op_eql rfl rfl ?_)
      refine G_q rfl (zai rfl (av := .xb (decide ((UInt8.toNat (gi a0 0) : Int) = 10))) rfl ?_)
      refine G_q rfl (zab (av := .xb (decide ((UInt8.toNat (gi a0 0) : Int) = 10))) rfl ?_)
      refine G_nil ?_
      refine zaf ⟨_, h, ?_⟩
      exact Sub.of_le (lq rfl (lq rfl (lq rfl lt0)))
    ·refine k_cond_b (c := x49_j30) rfl (fun hc => ?_) (fun hc => ?_)
     ·replace h := ite_t h hc
      refine zae (zag .free hmixP (by kernel_rfl) ?_)
      refine G_q rfl (zac (av := .xs a0) rfl ?_)
      refine G_q rfl (zac (av := .xs a1) rfl ?_)
      refine G_q rfl (op_lssS rfl rfl ?_)
      refine G_q rfl (zac (av := .xs a0) rfl ?_)
      refine G_q rfl (zac (av := .xs a1) rfl ?_)
      refine G_q rfl (op_gtrS rfl rfl ?_)
      obtain ⟨y35, hy35, h⟩ := bnd1_some h
      refine G_q rfl (zal (m_ref9_sign_ok _ _ _ hy35) Tryz.func80 (by kernel_rfl) (LEs.cons (AV.le_eq rfl) (LEs.cons (AV.le_eq rfl) LEs.nil)) ?_)
      refine G_q rfl (zab (av := .xi y35) rfl ?_)
      refine G_nil (zaa (k_ret (kB_ret (kC_ret ?_))))
      obtain rfl := Option.some.inj h
      refine zaj (endN (af' := (AF.put AF0 (some 4) (.xi y35))) (σ' := []) _ rfl ?_ ⟨rfl, rfl⟩)
      exact Sub.of_le (lq rfl lt0)
     ·replace h := ite_f h hc
      refine k_skip (kB_normal (zaa (zae (zag .free hmixP (by kernel_rfl) ?_))))
      refine G_q rfl (zac (av := .xs a0) rfl ?_)
      obtain ⟨y36, hy36, h⟩ := bnd1_some h
      refine G_q rfl (zal (hself_ref9_walk _ _ _ _ hy36) Tryz.func76 (by kernel_rfl) (LEs.cons (AV.le_eq rfl) (LEs.cons (AV.le_eq rfl) (LEs.cons (AV.le_eq rfl) LEs.nil))) ?_)
      refine G_q rfl (zac (av := .tup [.xi y36.1, .row 1 zad y36.2.1, .xi y36.2.2]) rfl ?_)
      refine G_q rfl (op_extract (av := .xi y36.1) rfl rfl ?_)
      refine G_q rfl (op_extract (av := .row 1 zad y36.2.1) rfl rfl ?_)
      refine G_q rfl (op_extract (av := .xi y36.2.2) rfl rfl ?_)
      refine G_q rfl (zab (av := .xi y36.1) rfl ?_)
      refine G_q rfl (zab (av := .row 1 zad y36.2.1) rfl ?_)
      refine G_q rfl (zab (av := .xi y36.2.2) rfl ?_)
      refine G_nil (zaa (zae (zag .free hmixP (by kernel_rfl) ?_)))
      refine G_q rfl (zac (av := .xs a1) rfl ?_)
      obtain ⟨y37, hy37, h⟩ := bnd1_some h
      refine G_q rfl (zal (hself_ref9_walk _ _ _ _ hy37) Tryz.func76 (by kernel_rfl) (LEs.cons (AV.le_eq rfl) (LEs.cons (AV.le_eq rfl) (LEs.cons (AV.le_eq rfl) LEs.nil))) ?_)
      refine G_q rfl (zac (av := .tup [.xi y37.1, .row 1 zad y37.2.1, .xi y37.2.2]) rfl ?_)
      refine G_q rfl (op_extract (av := .xi y37.1) rfl rfl ?_)
      refine G_q rfl (op_extract (av := .row 1 zad y37.2.1) rfl rfl ?_)
      refine G_q rfl (op_extract (av := .xi y37.2.2) rfl rfl ?_)
      refine G_q rfl (zab (av := .xi y37.1) rfl ?_)
      refine G_q rfl (zab (av := .row 1 zad y37.2.1) rfl ?_)
      refine G_q rfl (zab (av := .xi y37.2.2) rfl ?_)
      refine G_nil (zaa ?_)
      refine k_join0_0 h ((AF.put (AF.put AF0 (some 8) (.row 1 zad y36.2.1)) (some 11) (.row 1 zad y37.2.1))) ([]) (fun k38 h => ?_) (fun  h => ?_)
      ·refine zae (zag .free hmixP (by kernel_rfl) ?_)
       refine G_q rfl (zab (av := .xi 0) rfl ?_)
       refine G_nil (zaa (k_block ?_))
       refine k_loop1_0 (m_ref9_order_L2 self_ref9_order y36 y37 k38) (m_ref9_order_B2 self_ref9_order y36 y37 k38) (fun _ => rfl) (fun m _ => rfl) h (fun (x13_l2 : Int) => (AF.put (AF.put (AF.put AF0 (some 8) (.row 1 zad y36.2.1)) (some 11) (.row 1 zad y37.2.1)) (some 13) (.xi x13_l2))) (fun (x13_l2 : Int) => []) ?_ (fun rec2 x13_l2 h => ?_)
       ·exact Sub.of_le (lq rfl (lq rfl (lq rfl lt0)))
       ·unfold m_ref9_order_B2 at h
        refine zae ?_
        refine k_join1_0 h (fun (x88_j72 : Bool) => (AF.put (AF.put (AF.put (AF.put AF0 (some 8) (.row 1 zad y36.2.1)) (some 11) (.row 1 zad y37.2.1)) (some 13) (.xi x13_l2)) (some 88) (.xb x88_j72))) (fun (x88_j72 : Bool) => []) (fun k72 h => ?_) (fun x88_j72 h => ?_)
        ·refine zag .free hmixP (by kernel_rfl) ?_
         refine G_q rfl (zac (av := .xi x13_l2) rfl ?_)
         refine G_q rfl (zac (av := .row 1 zad y36.2.1) rfl ?_)
         refine G_q rfl (op_len_row (by kernel_rfl) rfl ?_)
         refine G_q rfl (op_lss rfl rfl ?_)
         refine G_q rfl (zac (av := .xb (decide (x13_l2 < (List.length y36.2.1 : Int)))) rfl ?_)
         refine G_split (p := x13_l2 < (List.length y36.2.1 : Int)) 83 rfl (fun hc => ?_) (fun hc => ?_)
         ·replace h := ite_t h hc
          refine Gy_q rfl rfl rfl (zac (av := .xi x13_l2) rfl ?_)
          refine Gy_q rfl rfl rfl (zac (av := .row 1 zad y37.2.1) rfl ?_)
          refine Gy_q rfl rfl rfl (op_len_row (by kernel_rfl) rfl ?_)
          refine Gy_q rfl rfl rfl (op_lss rfl rfl ?_)
          refine G_q rfl (zao rfl (av := .xb (decide (x13_l2 < (List.length y37.2.1 : Int)))) rfl ?_)
          refine G_nil ?_
          refine zaf ⟨_, h, ?_⟩
          exact Sub.of_le (lq rfl (lq rfl (lq rfl (lq rfl lt0))))
         ·replace h := ite_f h hc
          refine G_n rfl rfl (G_n rfl rfl (G_n rfl rfl (G_n rfl rfl ?_)))
          refine G_q rfl (zai rfl (av := .xb false) rfl ?_)
          refine G_nil ?_
          refine zaf ⟨_, h, ?_⟩
          exact Sub.of_le (lq rfl (lq rfl (lq rfl (lq rfl lt0))))
        ·refine k_cond_b (c := x88_j72) rfl (fun hc => ?_) (fun hc => ?_)
         ·replace h := ite_t h hc
          refine k_skip (zaa (zae (k_block (zae ?_))))
          refine k_plan [] [(0, 0), (0, 1), (0, 2), (0, 3), (0, 4), (0, 5), (0, 6), (0, 7), (0, 8), (0, 9)] hmixP (by kernel_rfl) ?_
          refine P_q no34_0 rfl (zac (av := .row 1 zad y36.2.1) rfl ?_)
          refine P_q no34_0 rfl (zac (av := .xi x13_l2) rfl ?_)
          obtain ⟨n73, h⟩ := need_some h
          refine P_q no34_0 rfl (op_index_row (by kernel_rfl) rfl rfl n73.1 n73.2 ?_)
          refine P_q no34_0 rfl (zaq (a := .xs (gi y36.2.1 x13_l2)) (by kernel_rfl) rfl rfl ?_)
          refine P_q no34_0 rfl (zac (av := .row 1 zad y37.2.1) rfl ?_)
          refine P_q no34_0 rfl (zac (av := .xi x13_l2) rfl ?_)
          obtain ⟨n74, h⟩ := need_some h
          refine P_q no34_0 rfl (op_index_row (by kernel_rfl) rfl rfl n74.1 n74.2 ?_)
          refine P_q no34_0 rfl (zaq (a := .xs (gi y37.2.1 x13_l2)) (by kernel_rfl) rfl rfl ?_)
          obtain ⟨y75, hy75, h⟩ := bnd1_some h
          refine P_q no34_0 rfl (zal (hself_ref9_order _ _ _ hy75) Tryz.func79 (by kernel_rfl) (LEs.cons (AV.le_eq rfl) (LEs.cons (AV.le_eq rfl) LEs.nil)) ?_)
          refine P_q no34_0 rfl (zab (av := .xi y75) rfl ?_)
          refine P_nil (zaa (zae (zag .free hmixP (by kernel_rfl) ?_)))
          refine G_q rfl (zac (av := .xi y75) rfl ?_)
          refine G_q rfl (op_neq rfl rfl ?_)
          refine G_nil (zaa ?_)
          refine zak (p := ¬ y75 = 0) rfl (fun hc => ?_) (fun hc => ?_)
          ·replace h := ite_t h hc
           refine zae (zag .free hmixP (by kernel_rfl) ?_)
           refine G_q rfl (zac (av := .xi y75) rfl ?_)
           refine G_q rfl (zab (av := .xi y75) rfl ?_)
           refine G_nil (zaa (k_ret (kB_ret (kC_ret (kI_ret (kB_ret (kI_ret ?_)))))))
           obtain rfl := Option.some.inj h
           refine zaj (endN (af' := (AF.put AF0 (some 4) (.xi y75))) (σ' := []) _ rfl ?_ ⟨rfl, rfl⟩)
           exact Sub.of_le (lq rfl lt0)
          ·replace h := ite_f h hc
           refine k_skip (kB_normal (zaa (zag .free hmixP (by kernel_rfl) ?_)))
           refine G_q rfl (zac (av := .xi x13_l2) rfl ?_)
           refine G_q rfl (op_add rfl rfl rfl ?_)
           refine G_q rfl (zab (av := .xi (i64 (x13_l2 + 1))) rfl ?_)
           refine G_nil ?_
           refine zaf ⟨_, h, ?_⟩
           exact Sub.of_le (lq rfl (lq rfl (lq rfl lt0)))
         ·replace h := ite_f h hc
          refine k_exit (kC_exit (kI_exit (kB_exit ?_)))
          refine zaf ⟨h, ?_⟩
          exact Sub.of_le (lq rfl (lq rfl lt0))
      ·refine zae (zag .free hmixP (by kernel_rfl) ?_)
       refine G_q rfl (zac (av := .row 1 zad y36.2.1) rfl ?_)
       refine G_q rfl (op_len_row (by kernel_rfl) rfl ?_)
       refine G_q rfl (zac (av := .row 1 zad y37.2.1) rfl ?_)
       refine G_q rfl (op_len_row (by kernel_rfl) rfl ?_)
       refine G_q rfl (op_lss rfl rfl ?_)
       refine G_q rfl (zac (av := .row 1 zad y36.2.1) rfl ?_)
       refine G_q rfl (op_len_row (by kernel_rfl) rfl ?_)
       refine G_q rfl (zac (av := .row 1 zad y37.2.1) rfl ?_)
       refine G_q rfl (op_len_row (by kernel_rfl) rfl ?_)
       refine G_q rfl (op_gtr rfl rfl ?_)
       obtain ⟨y76, hy76, h⟩ := bnd1_some h
       refine G_q rfl (zal (m_ref9_sign_ok _ _ _ hy76) Tryz.func80 (by kernel_rfl) (LEs.cons (AV.le_eq rfl) (LEs.cons (AV.le_eq rfl) LEs.nil)) ?_)
       refine G_q rfl (zab (av := .xi y76) rfl ?_)
       refine G_nil (zaa (k_ret ?_))
       obtain rfl := Option.some.inj h
       refine zaj (endN (af' := (AF.put AF0 (some 4) (.xi y76))) (σ' := []) _ rfl ?_ ⟨rfl, rfl⟩)
       exact Sub.of_le (lq rfl lt0)
set_option maxHeartbeats 4000000 in
theorem m_ref9_walk_S_ok : ∀ n : Nat, (∀ (a0 : List UInt8) (a1 : Int) (a2 : Bool) (r : Int × (List (List UInt8)) × Int), (m_ref9_walk_S n).1 a0 a1 a2 = some r → Pure Tryz.prog 76 [(.exact (.string (bs a0))), (.exact (.int .i64 a1)), (.exact (.bool a2))] (.tup [.exact (.int .i64 r.1), .row 1 zad r.2.1, .exact (.int .i64 r.2.2)])) ∧ (∀ (a0 : List UInt8) (a1 : List UInt8) (r : Int), (m_ref9_walk_S n).2 a0 a1 = some r → Pure Tryz.prog 79 [(.exact (.string (bs a0))), (.exact (.string (bs a1)))] (.exact (.int .i64 r)))
  | 0 => ⟨(fun _ _ _ _ h => by have h' : (none : Option _) = some _ := h; cases h'), (fun _ _ _ h => by have h' : (none : Option _) = some _ := h; cases h')⟩
  | n + 1 => by
    have ih := m_ref9_walk_S_ok n
    exact ⟨fun a0 a1 a2 r h => m_ref9_walk_F_ok (m_ref9_walk_S n).1 ih.1 (m_ref9_walk_S n).2 ih.2 a0 a1 a2 r h, fun a0 a1 r h => m_ref9_order_F_ok (m_ref9_walk_S n).1 ih.1 (m_ref9_walk_S n).2 ih.2 a0 a1 r h⟩
theorem m_ref9_walk_ok (a0 : List UInt8) (a1 : Int) (a2 : Bool) (r : Int × (List (List UInt8)) × Int) (h : m_ref9_walk a0 a1 a2 = some r) : Pure Tryz.prog 76 [(.exact (.string (bs a0))), (.exact (.int .i64 a1)), (.exact (.bool a2))] (.tup [.exact (.int .i64 r.1), .row 1 zad r.2.1, .exact (.int .i64 r.2.2)]) := (m_ref9_walk_S_ok FU).1 a0 a1 a2 r h
theorem m_ref9_order_ok (a0 : List UInt8) (a1 : List UInt8) (r : Int) (h : m_ref9_order a0 a1 = some r) : Pure Tryz.prog 79 [(.exact (.string (bs a0))), (.exact (.string (bs a1)))] (.exact (.int .i64 r)) := (m_ref9_walk_S_ok FU).2 a0 a1 r h
set_option maxHeartbeats 4000000 in
theorem m_ref9_read_ok (a0 : List UInt8) (a1 : Int) (r : Int × (List (List UInt8)) × Int) (h : m_ref9_read a0 a1 = some r) : Pure Tryz.prog 46 [(.exact (.string (bs a0))), (.exact (.int .i64 a1))] (.tup [.exact (.int .i64 r.1), .row 1 zad r.2.1, .exact (.int .i64 r.2.2)]) := by
 unfold m_ref9_read at h
 refine Pure.ofFun (fun_of_awp Tryz.func46 rfl Tryz.ntmps46 (by simp) rfl (res3 rfl) fun E hE => k_end ?_)
 refine zae (zag .free hmixP (by kernel_rfl) ?_)
 refine G_q rfl (zab (av := .xi 0) rfl ?_)
 refine G_q rfl (zab (av := .exact (.slice none 0 0)) rfl ?_)
 refine G_q rfl (zab (av := .xi 0) rfl ?_)
 refine G_nil (zaa (zae (zag .free hmixP (by kernel_rfl) ?_)))
 refine G_q rfl (zac (av := .xs a0) rfl ?_)
 refine G_q rfl (zac (av := .xi a1) rfl ?_)
 obtain ⟨y1, hy1, h⟩ := bnd1_some h
 refine G_q rfl (zal (m_ref9_walk_ok _ _ _ _ hy1) Tryz.func76 (by kernel_rfl) (LEs.cons (AV.le_eq rfl) (LEs.cons (AV.le_eq rfl) (LEs.cons (AV.le_eq rfl) LEs.nil))) ?_)
 refine G_q rfl (op_extract (av := .xi y1.1) rfl rfl ?_)
 refine G_q rfl (op_extract (av := .row 1 zad y1.2.1) rfl rfl ?_)
 refine G_q rfl (op_extract (av := .xi y1.2.2) rfl rfl ?_)
 refine G_q rfl (zab (av := .xi y1.1) rfl ?_)
 refine G_q rfl (zab (av := .row 1 zad y1.2.1) rfl ?_)
 refine G_q rfl (zab (av := .xi y1.2.2) rfl ?_)
 refine G_nil (zaa (k_ret ?_))
 obtain rfl := Option.some.inj h
 refine zaj (endN (af' := (AF.put (AF.put (AF.put AF0 (some 4) (.xi y1.1)) (some 5) (.row 1 zad y1.2.1)) (some 6) (.xi y1.2.2))) (σ' := []) _ rfl ?_ ⟨rfl, rfl⟩)
 exact Sub.of_le (lq rfl (lq rfl (lq rfl lt0)))
set_option maxHeartbeats 4000000 in
theorem m_ref9_Valid_ok (a0 : List UInt8) (r : Bool) (h : m_ref9_Valid a0 = some r) : Pure Tryz.prog 21 [(.exact (.string (bs a0)))] (.exact (.bool r)) := by
 unfold m_ref9_Valid at h
 refine Pure.ofFun (fun_of_awp Tryz.func21 rfl Tryz.ntmps21 (by simp) rfl (res1 rfl) fun E hE => k_end ?_)
 refine zae (zag .free hmixP (by kernel_rfl) ?_)
 refine G_q rfl (zab (av := .xb false) rfl ?_)
 refine G_nil (zaa (zae (zae (zag .free hmixP (by kernel_rfl) ?_))))
 refine G_q rfl (zac (av := .xs a0) rfl ?_)
 refine G_q rfl (op_lenS (by kernel_rfl) rfl ?_)
 refine G_q rfl (op_gtr rfl rfl ?_)
 refine G_nil (zaa ?_)
 refine zak (p := 131072 < (List.length a0 : Int)) rfl (fun hc => ?_) (fun hc => ?_)
 ·replace h := ite_t h hc
  refine zae (zag .free hmixP (by kernel_rfl) ?_)
  refine G_q rfl (zab (av := .xb false) rfl ?_)
  refine G_nil (zaa (k_ret (kC_ret ?_)))
  obtain rfl := Option.some.inj h
  refine zaj (endN (af' := (AF.put AF0 (some 2) (.xb false))) (σ' := []) _ rfl ?_ ⟨rfl, rfl⟩)
  exact Sub.of_le (lq rfl lt0)
 ·replace h := ite_f h hc
  refine k_skip (zaa (zae (zag .free hmixP (by kernel_rfl) ?_)))
  refine G_q rfl (zac (av := .xs a0) rfl ?_)
  obtain ⟨y1, hy1, h⟩ := bnd1_some h
  refine G_q rfl (zal (m_ref9_read_ok _ _ _ hy1) Tryz.func46 (by kernel_rfl) (LEs.cons (AV.le_eq rfl) (LEs.cons (AV.le_eq rfl) LEs.nil)) ?_)
  refine G_q rfl (zac (av := .tup [.xi y1.1, .row 1 zad y1.2.1, .xi y1.2.2]) rfl ?_)
  refine G_q rfl (op_extract (av := .xi y1.1) rfl rfl ?_)
  refine G_q rfl (op_extract (av := .row 1 zad y1.2.1) rfl rfl ?_)
  refine G_q rfl (op_extract (av := .xi y1.2.2) rfl rfl ?_)
  refine G_q rfl (zab (av := .xi y1.1) rfl ?_)
  refine G_q rfl (zab (av := .row 1 zad y1.2.1) rfl ?_)
  refine G_q rfl (zab (av := .xi y1.2.2) rfl ?_)
  refine G_nil (zaa ?_)
  refine k_join1_0 h (fun (x2_j2 : Bool) => (AF.put AF0 (some 2) (.xb x2_j2))) (fun (x2_j2 : Bool) => []) (fun k2 h => ?_) (fun x2_j2 h => ?_)
  ·refine zag .free hmixP (by kernel_rfl) ?_
   refine G_q rfl (zac (av := .xi y1.1) rfl ?_)
   refine G_q rfl (op_gtr rfl rfl ?_)
   refine G_q rfl (zac (av := .xb (decide (0 < y1.1))) rfl ?_)
   refine G_split (p := 0 < y1.1) 17 rfl (fun hc => ?_) (fun hc => ?_)
   ·replace h := ite_t h hc
    refine Gy_q rfl rfl rfl (zac (av := .xi y1.1) rfl ?_)
    refine Gy_q rfl rfl rfl (zac (av := .xs a0) rfl ?_)
    refine Gy_q rfl rfl rfl (op_lenS (by kernel_rfl) rfl ?_)
    refine Gy_q rfl rfl rfl (op_eql rfl rfl ?_)
    refine G_q rfl (zao rfl (av := .xb (decide (y1.1 = (List.length a0 : Int)))) rfl ?_)
    refine G_q rfl (zab (av := .xb (decide (y1.1 = (List.length a0 : Int)))) rfl ?_)
    refine G_nil ?_
    refine zaf ⟨_, h, ?_⟩
    exact Sub.of_le (lq rfl lt0)
   ·replace h := ite_f h hc
    refine G_n rfl rfl (G_n rfl rfl (G_n rfl rfl (G_n rfl rfl ?_)))
    refine G_q rfl (zai rfl (av := .xb false) rfl ?_)
    refine G_q rfl (zab (av := .xb false) rfl ?_)
    refine G_nil ?_
    refine zaf ⟨_, h, ?_⟩
    exact Sub.of_le (lq rfl lt0)
  ·refine k_ret ?_
   obtain rfl := Option.some.inj h
   refine zaj (endN (af' := (AF.put AF0 (some 2) (.xb x2_j2))) (σ' := []) _ rfl ?_ ⟨rfl, rfl⟩)
   exact Sub.of_le (lq rfl lt0)
set_option maxHeartbeats 4000000 in
theorem m_ref9_all_ok (a0 : List (List UInt8)) (r : Bool) (h : m_ref9_all a0 = some r) : Pure Tryz.prog 43 [(.row 1 zad a0)] (.exact (.bool r)) := by
 unfold m_ref9_all at h
 refine Pure.ofFun (fun_of_awp Tryz.func43 rfl Tryz.ntmps43 (by simp) rfl (res1 rfl) fun E hE => k_end ?_)
 refine zae (zag .free hmixP (by kernel_rfl) ?_)
 refine G_q rfl (zab (av := .xb false) rfl ?_)
 refine G_nil (zaa ?_)
 refine k_join0_0 h (AF0) ([]) (fun k1 h => ?_) (fun  h => ?_)
 ·refine zae (zag .free hmixP (by kernel_rfl) ?_)
  refine G_q rfl (zab (av := .xi 0) rfl ?_)
  refine G_nil (zaa (k_block ?_))
  refine k_loop1_0 (m_ref9_all_L2 a0 k1) (m_ref9_all_B2 a0 k1) (fun _ => rfl) (fun m _ => rfl) h (fun (x3_l2 : Int) => (AF.put (AF.put AF0 (some 0) (.row 1 zad a0)) (some 3) (.xi x3_l2))) (fun (x3_l2 : Int) => []) ?_ (fun rec2 x3_l2 h => ?_)
  ·exact Sub.of_le (lq rfl (lq rfl lt0))
  ·unfold m_ref9_all_B2 at h
   refine zae (zae (zag .free hmixP (by kernel_rfl) ?_))
   refine G_q rfl (zac (av := .xi x3_l2) rfl ?_)
   refine G_q rfl (zac (av := .row 1 zad a0) rfl ?_)
   refine G_q rfl (op_len_row (by kernel_rfl) rfl ?_)
   refine G_q rfl (op_lss rfl rfl ?_)
   refine G_nil (zaa ?_)
   refine zak (p := x3_l2 < (List.length a0 : Int)) rfl (fun hc => ?_) (fun hc => ?_)
   ·replace h := ite_t h hc
    refine k_skip (zaa (zae (k_block (zae (zag .free hmixP (by kernel_rfl) ?_)))))
    refine G_q rfl (zac (av := .row 1 zad a0) rfl ?_)
    refine G_q rfl (zac (av := .xi x3_l2) rfl ?_)
    obtain ⟨n13, h⟩ := need_some h
    refine G_q rfl (op_index_row (by kernel_rfl) rfl rfl n13.1 n13.2 ?_)
    refine G_q rfl (zaq (a := .xs (gi a0 x3_l2)) (by kernel_rfl) rfl rfl ?_)
    obtain ⟨y14, hy14, h⟩ := bnd1_some h
    refine G_q rfl (zal (m_ref9_Valid_ok _ _ hy14) Tryz.func21 (by kernel_rfl) (LEs.cons (AV.le_eq rfl) LEs.nil) ?_)
    refine G_q rfl (op_not rfl ?_)
    refine G_nil (zaa ?_)
    refine k_cond_b (c := !y14) rfl (fun hc => ?_) (fun hc => ?_)
    ·replace h := ite_t h hc
     refine zae (zag .free hmixP (by kernel_rfl) ?_)
     refine G_q rfl (zab (av := .xb false) rfl ?_)
     refine G_nil (zaa (k_ret (kB_ret (kC_ret (kI_ret (kB_ret (kI_ret ?_)))))))
     obtain rfl := Option.some.inj h
     refine zaj (endN (af' := (AF.put AF0 (some 2) (.xb false))) (σ' := []) _ rfl ?_ ⟨rfl, rfl⟩)
     exact Sub.of_le (lq rfl lt0)
    ·replace h := ite_f h hc
     refine k_skip (kB_normal (zaa (zag .free hmixP (by kernel_rfl) ?_)))
     refine G_q rfl (zac (av := .xi x3_l2) rfl ?_)
     refine G_q rfl (op_add rfl rfl rfl ?_)
     refine G_q rfl (zab (av := .xi (i64 (x3_l2 + 1))) rfl ?_)
     refine G_nil ?_
     refine zaf ⟨_, h, ?_⟩
     exact Sub.of_le (lq rfl (lq rfl lt0))
   ·replace h := ite_f h hc
    refine k_exit (kC_exit (kI_exit (kB_exit ?_)))
    refine zaf ⟨h, ?_⟩
    exact Sub.of_le lt0
 ·refine zae (zag .free hmixP (by kernel_rfl) ?_)
  refine G_q rfl (zab (av := .xb true) rfl ?_)
  refine G_nil (zaa (k_ret ?_))
  obtain rfl := Option.some.inj h
  refine zaj (endN (af' := (AF.put AF0 (some 2) (.xb true))) (σ' := []) _ rfl ?_ ⟨rfl, rfl⟩)
  exact Sub.of_le (lq rfl lt0)
set_option maxHeartbeats 4000000 in
theorem m_ref9_checked_ok (a0 : List UInt8) (r : (List UInt8)) (h : m_ref9_checked a0 = some r) : Pure Tryz.prog 75 [(.exact (.string (bs a0)))] (.exact (.string (bs r))) := by
 unfold m_ref9_checked at h
 refine Pure.ofFun (fun_of_awp Tryz.func75 rfl Tryz.ntmps75 (by simp) rfl (res1 rfl) fun E hE => k_end ?_)
 refine zae (zag .free hmixP (by kernel_rfl) ?_)
 refine G_q rfl (zab (av := .xs ([] : List UInt8)) rfl ?_)
 refine G_nil (zaa (zae (zae (zag .free hmixP (by kernel_rfl) ?_))))
 refine G_q rfl (zac (av := .xs a0) rfl ?_)
 obtain ⟨y1, hy1, h⟩ := bnd1_some h
 refine G_q rfl (zal (m_ref9_Valid_ok _ _ hy1) Tryz.func21 (by kernel_rfl) (LEs.cons (AV.le_eq rfl) LEs.nil) ?_)
 refine G_nil (zaa ?_)
 refine k_cond_b (c := y1) rfl (fun hc => ?_) (fun hc => ?_)
 ·replace h := ite_t h hc
  refine zae (zag .free hmixP (by kernel_rfl) ?_)
  refine G_q rfl (zac (av := .xs a0) rfl ?_)
  refine G_q rfl (zab (av := .xs a0) rfl ?_)
  refine G_nil (zaa (k_ret (kC_ret ?_)))
  obtain rfl := Option.some.inj h
  refine zaj (endN (af' := (AF.put AF0 (some 2) (.xs a0))) (σ' := []) _ rfl ?_ ⟨rfl, rfl⟩)
  exact Sub.of_le (lq rfl lt0)
 ·replace h := ite_f h hc
  refine k_skip (zaa (zae (zag .free hmixP (by kernel_rfl) ?_)))
  refine G_q rfl (zab (av := .xs ([] : List UInt8)) rfl ?_)
  refine G_nil (zaa (k_ret ?_))
  obtain rfl := Option.some.inj h
  refine zaj (endN (af' := (AF.put AF0 (some 2) (.xs ([] : List UInt8)))) (σ' := []) _ rfl ?_ ⟨rfl, rfl⟩)
  exact Sub.of_le (lq rfl lt0)
set_option maxHeartbeats 4000000 in
theorem m_ref9_compound_ok (a0 : Int) (a1 : List (List UInt8)) (r : (List UInt8)) (h : m_ref9_compound a0 a1 = some r) : Pure Tryz.prog 44 [(.exact (.int .i64 a0)), (.row 1 zad a1)] (.exact (.string (bs r))) := by
 unfold m_ref9_compound at h
 refine Pure.ofFun (fun_of_awp Tryz.func44 rfl Tryz.ntmps44 (by simp) rfl (res1 rfl) fun E hE => k_end ?_)
 refine zae (zag .free hmixP (by kernel_rfl) ?_)
 refine G_q rfl (zab (av := .xs ([] : List UInt8)) rfl ?_)
 refine G_nil (zaa (zae (zae (zag .free hmixP (by kernel_rfl) ?_))))
 refine G_q rfl (zac (av := .row 1 zad a1) rfl ?_)
 refine G_q rfl (op_len_row (by kernel_rfl) rfl ?_)
 refine G_q rfl (op_gtr rfl rfl ?_)
 refine G_nil (zaa ?_)
 refine zak (p := 65535 < (List.length a1 : Int)) rfl (fun hc => ?_) (fun hc => ?_)
 ·replace h := ite_t h hc
  refine zae (zag .free hmixP (by kernel_rfl) ?_)
  refine G_q rfl (zab (av := .xs ([] : List UInt8)) rfl ?_)
  refine G_nil (zaa (k_ret (kC_ret ?_)))
  obtain rfl := Option.some.inj h
  refine zaj (endN (af' := (AF.put AF0 (some 4) (.xs ([] : List UInt8)))) (σ' := []) _ rfl ?_ ⟨rfl, rfl⟩)
  exact Sub.of_le (lq rfl lt0)
 ·replace h := ite_f h hc
  refine k_skip (zaa (zae ?_))
  refine k_plan [] [(0, 0), (0, 1), (0, 2), (0, 3), (0, 4), (0, 5), (0, 6), (0, 7), (0, 8)] hmixP (by kernel_rfl) ?_
  refine P_q no34_0 rfl (zac (av := .xi a0) rfl ?_)
  refine P_q no34_0 rfl (op_convInt (k := .u8) (r := (UInt8.toNat (u8i a0) : Int)) (by kernel_rfl) rfl (u8i_eq _) ?_)
  refine P_q no34_0 rfl (op_litT (n := 1) (enc := c_uint8) [u8i a0] (CellsAll.cons rfl CellsOf.int CellsAll.nil) rfl (by kernel_rfl) (LEss.cons (LEs.cons (AV.le_eq rfl) LEs.nil) LEss.nil) ?_)
  refine P_q no34_0 rfl (op_bytesS rfl (by kernel_rfl) rfl ?_)
  refine P_q no34_0 rfl (zac (av := .row 1 zad a1) rfl ?_)
  refine P_q no34_0 rfl (op_len_row (by kernel_rfl) rfl ?_)
  obtain ⟨y1, hy1, h⟩ := bnd1_some h
  refine P_q no34_0 rfl (zal (m_ref9_two_ok _ _ hy1) Tryz.func51 (by kernel_rfl) (LEs.cons (AV.le_eq rfl) LEs.nil) ?_)
  obtain ⟨n2, h⟩ := need_some h
  refine P_q no34_0 rfl (op_addS n2 rfl rfl ?_)
  refine P_q no34_0 rfl (zab (av := .xs ([u8i a0] ++ y1)) rfl ?_)
  refine P_nil (zaa ?_)
  refine k_join1_0 h (fun (x5_j3 : List UInt8) => (AF.put (AF.put AF0 (some 1) (.row 1 zad a1)) (some 5) (.xs x5_j3))) (fun (x5_j3 : List UInt8) => []) (fun k3 h => ?_) (fun x5_j3 h => ?_)
  ·refine zae (zag .free hmixP (by kernel_rfl) ?_)
   refine G_q rfl (zab (av := .xi 0) rfl ?_)
   refine G_nil (zaa (k_block ?_))
   refine k_loop2_0 (m_ref9_compound_L2 a1 k3) (m_ref9_compound_B2 a1 k3) (fun _ _ => rfl) (fun m _ _ => rfl) h (fun (x5_l2 : List UInt8) (x6_l2 : Int) => (AF.put (AF.put (AF.put AF0 (some 1) (.row 1 zad a1)) (some 5) (.xs x5_l2)) (some 6) (.xi x6_l2))) (fun (x5_l2 : List UInt8) (x6_l2 : Int) => []) ?_ (fun rec2 x5_l2 x6_l2 h => ?_)
   ·exact Sub.of_le (lq rfl (lq rfl (lq rfl lt0)))
   ·unfold m_ref9_compound_B2 at h
    refine zae (zae (zag .free hmixP (by kernel_rfl) ?_))
    refine G_q rfl (zac (av := .xi x6_l2) rfl ?_)
    refine G_q rfl (zac (av := .row 1 zad a1) rfl ?_)
    refine G_q rfl (op_len_row (by kernel_rfl) rfl ?_)
    refine G_q rfl (op_lss rfl rfl ?_)
    refine G_nil (zaa ?_)
    refine zak (p := x6_l2 < (List.length a1 : Int)) rfl (fun hc => ?_) (fun hc => ?_)
    ·replace h := ite_t h hc
     refine k_skip (zaa (zae (k_block (zae ?_))))
     refine k_join1_0 h (fun (x36_j114 : Bool) => (AF.put (AF.put (AF.put (AF.put AF0 (some 1) (.row 1 zad a1)) (some 5) (.xs x5_l2)) (some 6) (.xi x6_l2)) (some 36) (.xb x36_j114))) (fun (x36_j114 : Bool) => []) (fun k114 h => ?_) (fun x36_j114 h => ?_)
     ·refine zag .free hmixP (by kernel_rfl) ?_
      refine G_q rfl (zac (av := .row 1 zad a1) rfl ?_)
      refine G_q rfl (zac (av := .xi x6_l2) rfl ?_)
      obtain ⟨n116, h⟩ := need_some h
      refine G_q rfl (op_index_row (by kernel_rfl) rfl rfl n116.1 n116.2 ?_)
      refine G_q rfl (zaq (a := .xs (gi a1 x6_l2)) (by kernel_rfl) rfl rfl ?_)
      refine G_q rfl (op_eqlS rfl rfl ?_)
      refine G_q rfl (zac (av := .xb (decide ((gi a1 x6_l2) = ([] : List UInt8)))) rfl ?_)
      refine G_split (p := (gi a1 x6_l2) = ([] : List UInt8)) 32 rfl (fun hc => ?_) (fun hc => ?_)
      ·replace h := ite_t h hc
       refine G_n rfl rfl (G_n rfl rfl (G_n rfl rfl ?_))
       refine G_q rfl (zao rfl (av := .xb true) rfl ?_)
       refine G_nil ?_
       refine zaf ⟨_, h, ?_⟩
       exact Sub.of_le (lq rfl (lq rfl (lq rfl (lq rfl lt0))))
      ·replace h := ite_f h hc
       refine Gy_q rfl rfl rfl (zac (av := .xs x5_l2) rfl ?_)
       refine Gy_q rfl rfl rfl (op_lenS (by kernel_rfl) rfl ?_)
       refine Gy_q rfl rfl rfl (op_gtr rfl rfl ?_)
       refine G_q rfl (zai rfl (av := .xb (decide (131072 < (List.length x5_l2 : Int)))) rfl ?_)
       refine G_nil ?_
       refine zaf ⟨_, h, ?_⟩
       exact Sub.of_le (lq rfl (lq rfl (lq rfl (lq rfl lt0))))
     ·refine k_cond_b (c := x36_j114) rfl (fun hc => ?_) (fun hc => ?_)
      ·replace h := ite_t h hc
       refine zae (zag .free hmixP (by kernel_rfl) ?_)
       refine G_q rfl (zab (av := .xs ([] : List UInt8)) rfl ?_)
       refine G_nil (zaa (k_ret (kC_ret (kB_ret (kC_ret (kI_ret (kB_ret (kI_ret ?_))))))))
       obtain rfl := Option.some.inj h
       refine zaj (endN (af' := (AF.put AF0 (some 4) (.xs ([] : List UInt8)))) (σ' := []) _ rfl ?_ ⟨rfl, rfl⟩)
       exact Sub.of_le (lq rfl lt0)
      ·replace h := ite_f h hc
       refine k_skip (zaa (zag .free hmixP (by kernel_rfl) ?_))
       refine G_q rfl (zac (av := .xs x5_l2) rfl ?_)
       refine G_q rfl (zac (av := .row 1 zad a1) rfl ?_)
       refine G_q rfl (zac (av := .xi x6_l2) rfl ?_)
       obtain ⟨n117, h⟩ := need_some h
       refine G_q rfl (op_index_row (by kernel_rfl) rfl rfl n117.1 n117.2 ?_)
       refine G_q rfl (zaq (a := .xs (gi a1 x6_l2)) (by kernel_rfl) rfl rfl ?_)
       obtain ⟨n118, h⟩ := need_some h
       refine G_q rfl (op_addS n118 rfl rfl ?_)
       refine G_q rfl (zab (av := .xs (x5_l2 ++ (gi a1 x6_l2))) rfl ?_)
       refine G_nil (kB_normal (zaa (zag .free hmixP (by kernel_rfl) ?_)))
       refine G_q rfl (zac (av := .xi x6_l2) rfl ?_)
       refine G_q rfl (op_add rfl rfl rfl ?_)
       refine G_q rfl (zab (av := .xi (i64 (x6_l2 + 1))) rfl ?_)
       refine G_nil ?_
       refine zaf ⟨_, _, h, ?_⟩
       exact Sub.of_le (lq rfl (lq rfl (lq rfl lt0)))
    ·replace h := ite_f h hc
     refine k_exit (kC_exit (kI_exit (kB_exit ?_)))
     refine zaf ⟨_, h, ?_⟩
     exact Sub.of_le (lq rfl (lq rfl lt0))
  ·refine zae (zae (zag .free hmixP (by kernel_rfl) ?_))
   refine G_q rfl (zac (av := .xs x5_j3) rfl ?_)
   obtain ⟨y122, hy122, h⟩ := bnd1_some h
   refine G_q rfl (zal (m_ref9_read_ok _ _ _ hy122) Tryz.func46 (by kernel_rfl) (LEs.cons (AV.le_eq rfl) (LEs.cons (AV.le_eq rfl) LEs.nil)) ?_)
   refine G_q rfl (zac (av := .tup [.xi y122.1, .row 1 zad y122.2.1, .xi y122.2.2]) rfl ?_)
   refine G_q rfl (op_extract (av := .xi y122.1) rfl rfl ?_)
   refine G_q rfl (op_extract (av := .row 1 zad y122.2.1) rfl rfl ?_)
   refine G_q rfl (op_extract (av := .xi y122.2.2) rfl rfl ?_)
   refine G_q rfl (zab (av := .xi y122.1) rfl ?_)
   refine G_q rfl (zab (av := .row 1 zad y122.2.1) rfl ?_)
   refine G_q rfl (zab (av := .xi y122.2.2) rfl ?_)
   refine G_nil (zaa ?_)
   refine k_join1_0 h (fun (x59_j123 : Bool) => (AF.put (AF.put AF0 (some 5) (.xs x5_j3)) (some 59) (.xb x59_j123))) (fun (x59_j123 : Bool) => []) (fun k123 h => ?_) (fun x59_j123 h => ?_)
   ·refine zag .free hmixP (by kernel_rfl) ?_
    refine G_q rfl (zac (av := .xi y122.1) rfl ?_)
    refine G_q rfl (zac (av := .xs x5_j3) rfl ?_)
    refine G_q rfl (op_lenS (by kernel_rfl) rfl ?_)
    refine G_q rfl (op_neq rfl rfl ?_)
    refine G_q rfl (zac (av := .xb (decide (¬ y122.1 = (List.length x5_j3 : Int)))) rfl ?_)
    refine G_split (p := ¬ y122.1 = (List.length x5_j3 : Int)) 53 rfl (fun hc => ?_) (fun hc => ?_)
    ·replace h := ite_t h hc
     refine G_n rfl rfl (G_n rfl rfl (G_n rfl rfl (G_n rfl rfl (G_n rfl rfl ?_))))
     refine G_q rfl (zao rfl (av := .xb true) rfl ?_)
     refine G_nil ?_
     refine zaf ⟨_, h, ?_⟩
     exact Sub.of_le (lq rfl (lq rfl lt0))
    ·replace h := ite_f h hc
     refine Gy_q rfl rfl rfl (zac (av := .row 1 zad y122.2.1) rfl ?_)
     refine Gy_q rfl rfl rfl (op_len_row (by kernel_rfl) rfl ?_)
     refine Gy_q rfl rfl rfl (zac (av := .row 1 zad a1) rfl ?_)
     refine Gy_q rfl rfl rfl (op_len_row (by kernel_rfl) rfl ?_)
     refine Gy_q rfl rfl rfl (op_neq rfl rfl ?_)
     refine G_q rfl (zai rfl (av := .xb (decide (¬ (List.length y122.2.1 : Int) = (List.length a1 : Int)))) rfl ?_)
     refine G_nil ?_
     refine zaf ⟨_, h, ?_⟩
     exact Sub.of_le (lq rfl (lq rfl lt0))
   ·refine k_cond_b (c := x59_j123) rfl (fun hc => ?_) (fun hc => ?_)
    ·replace h := ite_t h hc
     refine zae (zag .free hmixP (by kernel_rfl) ?_)
     refine G_q rfl (zab (av := .xs ([] : List UInt8)) rfl ?_)
     refine G_nil (zaa (k_ret (kC_ret ?_)))
     obtain rfl := Option.some.inj h
     refine zaj (endN (af' := (AF.put AF0 (some 4) (.xs ([] : List UInt8)))) (σ' := []) _ rfl ?_ ⟨rfl, rfl⟩)
     exact Sub.of_le (lq rfl lt0)
    ·replace h := ite_f h hc
     refine k_skip (zaa (zae (zag .free hmixP (by kernel_rfl) ?_)))
     refine G_q rfl (zac (av := .xs x5_j3) rfl ?_)
     obtain ⟨y124, hy124, h⟩ := bnd1_some h
     refine G_q rfl (zal (m_ref9_checked_ok _ _ hy124) Tryz.func75 (by kernel_rfl) (LEs.cons (AV.le_eq rfl) LEs.nil) ?_)
     refine G_q rfl (zab (av := .xs y124) rfl ?_)
     refine G_nil (zaa (k_ret ?_))
     obtain rfl := Option.some.inj h
     refine zaj (endN (af' := (AF.put AF0 (some 4) (.xs y124))) (σ' := []) _ rfl ?_ ⟨rfl, rfl⟩)
     exact Sub.of_le (lq rfl lt0)
set_option maxHeartbeats 4000000 in
theorem m_ref9_Make_ok (a0 : Int) (a1 : List (List UInt8)) (r : (List UInt8)) (h : m_ref9_Make a0 a1 = some r) : Pure Tryz.prog 19 [(.exact (.int .i64 a0)), (.row 1 zad a1)] (.exact (.string (bs r))) := by
 unfold m_ref9_Make at h
 refine Pure.ofFun (fun_of_awp Tryz.func19 rfl Tryz.ntmps19 (by simp) rfl (res1 rfl) fun E hE => k_end ?_)
 refine zae (zag .free hmixP (by kernel_rfl) ?_)
 refine G_q rfl (zab (av := .xs ([] : List UInt8)) rfl ?_)
 refine G_nil (zaa (zae (zae (zag .free hmixP (by kernel_rfl) ?_))))
 refine G_q rfl (zac (av := .row 1 zad a1) rfl ?_)
 obtain ⟨y1, hy1, h⟩ := bnd1_some h
 refine G_q rfl (zal (m_ref9_all_ok _ _ hy1) Tryz.func43 (by kernel_rfl) (LEs.cons (AV.le_eq rfl) LEs.nil) ?_)
 refine G_q rfl (op_not rfl ?_)
 refine G_nil (zaa ?_)
 refine k_cond_b (c := !y1) rfl (fun hc => ?_) (fun hc => ?_)
 ·replace h := ite_t h hc
  refine zae (zag .free hmixP (by kernel_rfl) ?_)
  refine G_q rfl (zab (av := .xs ([] : List UInt8)) rfl ?_)
  refine G_nil (zaa (k_ret (kC_ret ?_)))
  obtain rfl := Option.some.inj h
  refine zaj (endN (af' := (AF.put AF0 (some 4) (.xs ([] : List UInt8)))) (σ' := []) _ rfl ?_ ⟨rfl, rfl⟩)
  exact Sub.of_le (lq rfl lt0)
 ·replace h := ite_f h hc
  refine k_skip (zaa (zae (zag .free hmixP (by kernel_rfl) ?_)))
  refine G_q rfl (zac (av := .xi a0) rfl ?_)
  refine G_q rfl (zac (av := .row 1 zad a1) rfl ?_)
  obtain ⟨y2, hy2, h⟩ := bnd1_some h
  refine G_q rfl (zal (m_ref9_compound_ok _ _ _ hy2) Tryz.func44 (by kernel_rfl) (LEs.cons (AV.le_eq rfl) (LEs.cons (AV.le_eq rfl) LEs.nil)) ?_)
  refine G_q rfl (zab (av := .xs y2) rfl ?_)
  refine G_nil (zaa (k_ret ?_))
  obtain rfl := Option.some.inj h
  refine zaj (endN (af' := (AF.put AF0 (some 4) (.xs y2))) (σ' := []) _ rfl ?_ ⟨rfl, rfl⟩)
  exact Sub.of_le (lq rfl lt0)
end Go.Proofs.YtpfdeahcjlfijaaGreat
/- The functions compute their models, by program. -/
namespace Go.Proofs.YtpfdeahcjlfijaaGreat
open Go.RowKit
attribute [local irreducible] AV.exact AV.top AV.row AV.ptr AV.agg AV.tup AV.eptr AV.fn AV.nilq AV.nilqn opA opB opM opR Quiet Loud Reads wpG awp den Sub SubU Pure Fun vecI vecT boxI CellsAll CellsOf OneC LEs LEss
set_option maxRecDepth 100000

set_option maxHeartbeats 4000000 in
theorem m_gen_Choices_Values_ok {w0 : Nat} (self_gen_Choices_Value : ((List Int) × Int) → Int → Option ((List UInt8) × ((List Int) × Int))) (hself_gen_Choices_Value : ∀ ⦃w0 : Nat⦄ (a0 : (List Int) × Int) (a1 : Int) (r : (List UInt8) × ((List Int) × Int)), self_gen_Choices_Value a0 a1 = some r → Fun Tryz.prog 9 [(pA w0 0), (.exact (.int .i64 a1))] [boxI 53 w0 [.row 1 c_int a0.1, .exact (.int .i64 a0.2)]] (fun a s => a = .exact (.string (bs r.1)) ∧ s = [boxI 53 w0 [.row 1 c_int r.2.1, .exact (.int .i64 r.2.2)]])) (a0 : (List Int) × Int) (a1 : Int) (a2 : Int) (r : (List (List UInt8)) × ((List Int) × Int)) (h : m_gen_Choices_Values self_gen_Choices_Value a0 a1 a2 = some r) : Fun Tryz.prog 27 [(pA w0 0), (.exact (.int .i64 a1)), (.exact (.int .i64 a2))] [boxI 53 w0 [.row 1 c_int a0.1, .exact (.int .i64 a0.2)]] (fun a s => a = .row 1 zad r.1 ∧ s = [boxI 53 w0 [.row 1 c_int r.2.1, .exact (.int .i64 r.2.2)]]) := by
 unfold m_gen_Choices_Values at h
 refine fun_of_awp Tryz.func27 rfl Tryz.ntmps27 (by simp) rfl (res1 rfl) fun E hE => k_end ?_
 refine zae (zag .free hmixP (by kernel_rfl) ?_)
 refine G_q rfl (zab (av := .exact (.slice none 0 0)) rfl ?_)
 refine G_nil (zaa (zae (zag .free hmixP (by kernel_rfl) ?_)))
 refine G_q rfl (zab (av := .exact (.slice none 0 0)) rfl ?_)
 refine G_nil (zaa ?_)
 refine k_join3_1 h (fun (x0_0_j1 : List Int) (x0_1_j1 : Int) (x7_j1 : List (List UInt8)) (v7_j1 : Value) => (AF.put (AF.put AF0 (some 0) (pA w0 0)) (some 7) (.exact v7_j1))) (fun (x0_0_j1 : List Int) (x0_1_j1 : Int) (x7_j1 : List (List UInt8)) (v7_j1 : Value) => [boxI 53 w0 [.row 1 c_int x0_0_j1, .xi x0_1_j1], vecT Tryz.prog 27 1 zad v7_j1 x7_j1]) (fun k1 h => ?_) (fun x0_0_j1 x0_1_j1 x7_j1 v7_j1 h => ?_)
 ·refine zae (zag .free hmixP (by kernel_rfl) ?_)
  refine G_q rfl (zac (av := pA w0 0) rfl ?_)
  refine G_q rfl (zac (av := .xi a2) rfl ?_)
  obtain ⟨y13, hy13, h⟩ := bnd1_some h
  refine G_l rfl (op_fun_1_0_1 (m_gen_Choices_Next_ok _ _ _ hy13) Tryz.func18 (by kernel_rfl) (LEs.cons (AV.le_eq rfl) (LEs.cons (AV.le_eq rfl) LEs.nil)) ?_)
  refine G_q rfl (zab (av := .xi y13.1) rfl ?_)
  refine G_nil (zaa (k_block ?_))
  refine k_loop4_1 (m_gen_Choices_Values_L2 self_gen_Choices_Value a1 k1) (m_gen_Choices_Values_B2 self_gen_Choices_Value a1 k1) (fun _ _ _ _ => rfl) (fun m _ _ _ _ => rfl) h (fun (x0_0_l2 : List Int) (x0_1_l2 : Int) (x7_l2 : List (List UInt8)) (x8_l2 : Int) (v7_l2 : Value) => (AF.put (AF.put (AF.put (AF.put AF0 (some 0) (pA w0 0)) (some 1) (.xi a1)) (some 7) (.exact v7_l2)) (some 8) (.xi x8_l2))) (fun (x0_0_l2 : List Int) (x0_1_l2 : Int) (x7_l2 : List (List UInt8)) (x8_l2 : Int) (v7_l2 : Value) => [boxI 53 w0 [.row 1 c_int x0_0_l2, .xi x0_1_l2], vecT Tryz.prog 27 1 zad v7_l2 x7_l2]) (.slice none 0 0) ?_ (fun rec2 x0_0_l2 x0_1_l2 x7_l2 x8_l2 v7_l2 h => ?_)
  ·refine Sub.trans (SubU.to (SubU.nilT (P := Tryz.prog) (t := 27) (n := 1) (enc := zad))) ?_
   refine Sub.trans (SubU.to SubU.f1) ?_
   exact Sub.of_le (lq rfl (lq rfl (lq rfl (lq rfl lt0))))
  ·unfold m_gen_Choices_Values_B2 at h
   refine zae (zae (zag .free hmixP (by kernel_rfl) ?_))
   refine G_q rfl (zac (av := .xi x8_l2) rfl ?_)
   refine G_q rfl (op_gtr rfl rfl ?_)
   refine G_nil (zaa ?_)
   refine zak (p := 0 < x8_l2) rfl (fun hc => ?_) (fun hc => ?_)
   ·replace h := ite_t h hc
    refine k_skip (zaa (zae (k_block (zag .free hmixP (by kernel_rfl) ?_))))
    refine G_q rfl (zac (av := .exact v7_l2) rfl ?_)
    refine G_q rfl (zac (av := pA w0 0) rfl ?_)
    refine G_q rfl (zac (av := .xi a1) rfl ?_)
    obtain ⟨y20, hy20, h⟩ := bnd1_some h
    refine G_l rfl (op_fun_1_0_1 (hself_gen_Choices_Value _ _ _ hy20) Tryz.func9 (by kernel_rfl) (LEs.cons (AV.le_eq rfl) (LEs.cons (AV.le_eq rfl) LEs.nil)) ?_)
    refine G_q rfl (op_litT (n := 1) (enc := zad) [y20.1] (CellsAll.cons rfl CellsOf.str CellsAll.nil) rfl (by kernel_rfl) (LEss.cons (LEs.cons (AV.le_eq rfl) LEs.nil) LEss.nil) ?_)
    obtain ⟨n21, h⟩ := need_some h
    refine G_l rfl (opB_f1 (op_appT (by kernel_rfl) rfl rfl oc_c_api_Value n21 (fun v22 => ?_)))
    refine G_q rfl (zab (av := .exact v22) rfl ?_)
    refine G_nil (kB_normal (zaa (zag .free hmixP (by kernel_rfl) ?_)))
    refine G_q rfl (zac (av := .xi x8_l2) rfl ?_)
    refine G_q rfl (op_sub rfl rfl rfl ?_)
    refine G_q rfl (zab (av := .xi (i64 (x8_l2 - 1))) rfl ?_)
    refine G_nil ?_
    refine zaf ⟨_, _, _, _, v22, h, ?_⟩
    refine Sub.trans (SubU.to SubU.f1) ?_
    exact Sub.of_le (lq rfl (lq rfl (lq rfl (lq rfl lt0))))
   ·replace h := ite_f h hc
    refine k_exit (kC_exit (kI_exit (kB_exit ?_)))
    refine zaf ⟨_, _, _, v7_l2, h, ?_⟩
    exact Sub.of_le (lq rfl (lq rfl lt0))
 ·refine zae (zag .free hmixP (by kernel_rfl) ?_)
  refine G_q rfl (zac (av := .exact v7_j1) rfl ?_)
  refine G_q rfl (zab (av := .exact v7_j1) rfl ?_)
  refine G_nil (zaa (k_ret ?_))
  obtain rfl := Option.some.inj h
  refine zaj (endN (af' := (AF.put AF0 (some 6) (.row 1 zad x7_j1))) (σ' := [boxI 53 w0 [.row 1 c_int x0_0_j1, .xi x0_1_j1]]) _ rfl ?_ ⟨rfl, rfl⟩)
  refine Sub.trans (SubU.to SubU.f1) ?_
  refine Sub.trans (SubU.to (SubU.freezeT (s := 6) rfl len_c_api_Value)) ?_
  exact Sub.of_le (lq rfl lt0)
set_option maxHeartbeats 4000000 in
theorem m_ref9_Compare_ok (a0 : List UInt8) (a1 : List UInt8) (r : Int) (h : m_ref9_Compare a0 a1 = some r) : Pure Tryz.prog 52 [(.exact (.string (bs a0))), (.exact (.string (bs a1)))] (.exact (.int .i64 r)) := by
 unfold m_ref9_Compare at h
 refine Pure.ofFun (fun_of_awp Tryz.func52 rfl Tryz.ntmps52 (by simp) rfl (res1 rfl) fun E hE => k_end ?_)
 refine zae (zag .free hmixP (by kernel_rfl) ?_)
 refine G_q rfl (zab (av := .xi 0) rfl ?_)
 refine G_nil (zaa (zae (zag .free hmixP (by kernel_rfl) ?_)))
 refine G_q rfl (zac (av := .xs a0) rfl ?_)
 obtain ⟨y1, hy1, h⟩ := bnd1_some h
 refine G_q rfl (zal (m_ref9_Valid_ok _ _ hy1) Tryz.func21 (by kernel_rfl) (LEs.cons (AV.le_eq rfl) LEs.nil) ?_)
 refine G_q rfl (zac (av := .xs a1) rfl ?_)
 obtain ⟨y2, hy2, h⟩ := bnd1_some h
 refine G_q rfl (zal (m_ref9_Valid_ok _ _ hy2) Tryz.func21 (by kernel_rfl) (LEs.cons (AV.le_eq rfl) LEs.nil) ?_)
 refine G_q rfl (zab (av := .xb y1) rfl ?_)
 refine G_q rfl (zab (av := .xb y2) rfl ?_)
 refine G_nil (zaa (zae (k_block ?_)))
 refine k_join1_0 h (fun (x11_j7 : Bool) => (AF.put (AF.put (AF.put (AF.put (AF.put AF0 (some 0) (.xs a0)) (some 1) (.xs a1)) (some 5) (.xb y1)) (some 6) (.xb y2)) (some 11) (.xb x11_j7))) (fun (x11_j7 : Bool) => []) (fun k7 h => ?_) (fun x11_j7 h => ?_)
 ·refine zag .free hmixP (by kernel_rfl) ?_
  refine G_q rfl (zac (av := .xb y1) rfl ?_)
  refine G_q rfl (zac (av := .xb y1) rfl ?_)
  refine G_splitB (c := y1) 13 rfl (fun hc => ?_) (fun hc => ?_)
  ·replace h := ite_t h hc
   refine Gy_q rfl rfl rfl (zac (av := .xb y2) rfl ?_)
   refine G_q rfl (zao rfl (av := .xb y2) rfl ?_)
   refine G_q rfl (zab (av := .xb y2) rfl ?_)
   refine G_nil ?_
   refine zaf ⟨_, h, ?_⟩
   exact Sub.of_le (lq rfl (lq rfl (lq rfl (lq rfl (lq rfl lt0)))))
  ·replace h := ite_f h hc
   refine G_n rfl rfl ?_
   refine G_q rfl (zai rfl (av := .xb false) rfl ?_)
   refine G_q rfl (zab (av := .xb false) rfl ?_)
   refine G_nil ?_
   refine zaf ⟨_, h, ?_⟩
   exact Sub.of_le (lq rfl (lq rfl (lq rfl (lq rfl (lq rfl lt0)))))
 ·refine k_cond_b (c := x11_j7) rfl (fun hc => ?_) (fun hc => ?_)
  ·replace h := ite_t h hc
   refine zae (zag .free hmixP (by kernel_rfl) ?_)
   refine G_q rfl (zac (av := .xs a0) rfl ?_)
   refine G_q rfl (zac (av := .xs a1) rfl ?_)
   obtain ⟨y8, hy8, h⟩ := bnd1_some h
   refine G_q rfl (zal (m_ref9_order_ok _ _ _ hy8) Tryz.func79 (by kernel_rfl) (LEs.cons (AV.le_eq rfl) (LEs.cons (AV.le_eq rfl) LEs.nil)) ?_)
   refine G_q rfl (zab (av := .xi y8) rfl ?_)
   refine G_nil (zaa (k_ret (kB_ret (kC_ret ?_))))
   obtain rfl := Option.some.inj h
   refine zaj (endN (af' := (AF.put AF0 (some 4) (.xi y8))) (σ' := []) _ rfl ?_ ⟨rfl, rfl⟩)
   exact Sub.of_le (lq rfl lt0)
  ·replace h := ite_f h hc
   refine zae (zag .free hmixP (by kernel_rfl) ?_)
   refine G_q rfl (zac (av := .xb y1) rfl ?_)
   refine G_q rfl (zac (av := .xb y2) rfl ?_)
   refine G_q rfl (op_neqB (a := y1) (b := y2) (by kernel_rfl) rfl rfl ?_)
   refine G_q rfl (zab (av := .xb (decide (¬ y1 = y2))) rfl ?_)
   refine G_nil (zaa ?_)
   refine zak (p := ¬ y1 = y2) rfl (fun hc => ?_) (fun hc => ?_)
   ·replace h := ite_t h hc
    refine zae (zag .free hmixP (by kernel_rfl) ?_)
    refine G_q rfl (zac (av := .xb y2) rfl ?_)
    refine G_q rfl (zac (av := .xb y1) rfl ?_)
    obtain ⟨y9, hy9, h⟩ := bnd1_some h
    refine G_q rfl (zal (m_ref9_sign_ok _ _ _ hy9) Tryz.func80 (by kernel_rfl) (LEs.cons (AV.le_eq rfl) (LEs.cons (AV.le_eq rfl) LEs.nil)) ?_)
    refine G_q rfl (zab (av := .xi y9) rfl ?_)
    refine G_nil (zaa (k_ret (kB_ret (kC_ret ?_))))
    obtain rfl := Option.some.inj h
    refine zaj (endN (af' := (AF.put AF0 (some 4) (.xi y9))) (σ' := []) _ rfl ?_ ⟨rfl, rfl⟩)
    exact Sub.of_le (lq rfl lt0)
   ·replace h := ite_f h hc
    refine k_skip (kB_normal (zaa (zae (zag .free hmixP (by kernel_rfl) ?_))))
    refine G_q rfl (zac (av := .xs a0) rfl ?_)
    refine G_q rfl (zac (av := .xs a1) rfl ?_)
    refine G_q rfl (op_lssS rfl rfl ?_)
    refine G_q rfl (zac (av := .xs a0) rfl ?_)
    refine G_q rfl (zac (av := .xs a1) rfl ?_)
    refine G_q rfl (op_gtrS rfl rfl ?_)
    obtain ⟨y10, hy10, h⟩ := bnd1_some h
    refine G_q rfl (zal (m_ref9_sign_ok _ _ _ hy10) Tryz.func80 (by kernel_rfl) (LEs.cons (AV.le_eq rfl) (LEs.cons (AV.le_eq rfl) LEs.nil)) ?_)
    refine G_q rfl (zab (av := .xi y10) rfl ?_)
    refine G_nil (zaa (k_ret ?_))
    obtain rfl := Option.some.inj h
    refine zaj (endN (af' := (AF.put AF0 (some 4) (.xi y10))) (σ' := []) _ rfl ?_ ⟨rfl, rfl⟩)
    exact Sub.of_le (lq rfl lt0)
set_option maxHeartbeats 4000000 in
theorem m_ref9_Sort_ok (a0 : List (List UInt8)) (r : (List (List UInt8))) (h : m_ref9_Sort a0 = some r) : Pure Tryz.prog 30 [(.row 1 zad a0)] (.row 1 zad r) := by
 unfold m_ref9_Sort at h
 refine Pure.ofFun (fun_of_awp Tryz.func30 rfl Tryz.ntmps30 (by simp) rfl (res1 rfl) fun E hE => k_end ?_)
 refine zae (zag .free hmixP (by kernel_rfl) ?_)
 refine G_q rfl (zab (av := .exact (.slice none 0 0)) rfl ?_)
 refine G_nil (zaa (zae (zag .free hmixP (by kernel_rfl) ?_)))
 refine G_q rfl (zab (av := .exact (.slice none 0 0)) rfl ?_)
 refine G_nil (zaa ?_)
 refine k_join1_1 h (fun (x3_j1 : List (List UInt8)) (v3_j1 : Value) => (AF.put AF0 (some 3) (.exact v3_j1))) (fun (x3_j1 : List (List UInt8)) (v3_j1 : Value) => [vecT Tryz.prog 27 1 zad v3_j1 x3_j1]) (fun k1 h => ?_) (fun x3_j1 v3_j1 h => ?_)
 ·refine zae (zag .free hmixP (by kernel_rfl) ?_)
  refine G_q rfl (zab (av := .xi 0) rfl ?_)
  refine G_nil (zaa (k_block ?_))
  refine k_loop2_1 (m_ref9_Sort_L14 a0 k1) (m_ref9_Sort_B14 a0 k1) (fun _ _ => rfl) (fun m _ _ => rfl) h (fun (x3_l14 : List (List UInt8)) (x4_l14 : Int) (v3_l14 : Value) => (AF.put (AF.put (AF.put AF0 (some 0) (.row 1 zad a0)) (some 3) (.exact v3_l14)) (some 4) (.xi x4_l14))) (fun (x3_l14 : List (List UInt8)) (x4_l14 : Int) (v3_l14 : Value) => [vecT Tryz.prog 27 1 zad v3_l14 x3_l14]) (.slice none 0 0) ?_ (fun rec14 x3_l14 x4_l14 v3_l14 h => ?_)
  ·refine Sub.trans (SubU.to (SubU.nilT (P := Tryz.prog) (t := 27) (n := 1) (enc := zad))) ?_
   exact Sub.of_le (lq rfl (lq rfl (lq rfl lt0)))
  ·unfold m_ref9_Sort_B14 at h
   refine zae (zae (zag .free hmixP (by kernel_rfl) ?_))
   refine G_q rfl (zac (av := .xi x4_l14) rfl ?_)
   refine G_q rfl (zac (av := .row 1 zad a0) rfl ?_)
   refine G_q rfl (op_len_row (by kernel_rfl) rfl ?_)
   refine G_q rfl (op_lss rfl rfl ?_)
   refine G_nil (zaa ?_)
   refine zak (p := x4_l14 < (List.length a0 : Int)) rfl (fun hc => ?_) (fun hc => ?_)
   ·replace h := ite_t h hc
    refine k_skip (zaa ?_)
    refine k_join1_1 h (fun (x3_j844 : List (List UInt8)) (v3_j844 : Value) => (AF.put (AF.put (AF.put AF0 (some 0) (.row 1 zad a0)) (some 3) (.exact v3_j844)) (some 4) (.xi x4_l14))) (fun (x3_j844 : List (List UInt8)) (v3_j844 : Value) => [vecT Tryz.prog 27 1 zad v3_j844 x3_j844]) (fun k844 h => ?_) (fun x3_j844 v3_j844 h => ?_)
    ·refine k_block (zae (zag .free hmixP (by kernel_rfl) ?_))
     refine G_q rfl (zac (av := .exact v3_l14) rfl ?_)
     refine G_r rfl (op_len_vec (by kernel_rfl) rfl ?_)
     refine G_q rfl (zab (av := .xi (List.length x3_l14 : Int)) rfl ?_)
     refine G_nil (zaa ?_)
     refine k_join1_0 h (fun (x5_j955 : Int) => (AF.put (AF.put (AF.put (AF.put AF0 (some 0) (.row 1 zad a0)) (some 3) (.exact v3_l14)) (some 4) (.xi x4_l14)) (some 5) (.xi x5_j955))) (fun (x5_j955 : Int) => [vecT Tryz.prog 27 1 zad v3_l14 x3_l14]) (fun k955 h => ?_) (fun x5_j955 h => ?_)
     ·refine k_block ?_
      refine k_loop1_0 (m_ref9_Sort_L26 a0 x3_l14 x4_l14 k955) (m_ref9_Sort_B26 a0 x3_l14 x4_l14 k955) (fun _ => rfl) (fun m _ => rfl) h (fun (x5_l26 : Int) => (AF.put (AF.put (AF.put (AF.put AF0 (some 0) (.row 1 zad a0)) (some 3) (.exact v3_l14)) (some 4) (.xi x4_l14)) (some 5) (.xi x5_l26))) (fun (x5_l26 : Int) => [vecT Tryz.prog 27 1 zad v3_l14 x3_l14]) ?_ (fun rec26 x5_l26 h => ?_)
      ·exact Sub.of_le (lq rfl (lq rfl (lq rfl (lq rfl lt0))))
      ·unfold m_ref9_Sort_B26 at h
       refine zae ?_
       refine k_join1_0 h (fun (x28_j1040 : Bool) => (AF.put (AF.put (AF.put (AF.put (AF.put AF0 (some 0) (.row 1 zad a0)) (some 3) (.exact v3_l14)) (some 4) (.xi x4_l14)) (some 5) (.xi x5_l26)) (some 28) (.xb x28_j1040))) (fun (x28_j1040 : Bool) => [vecT Tryz.prog 27 1 zad v3_l14 x3_l14]) (fun k1040 h => ?_) (fun x28_j1040 h => ?_)
       ·refine k_plan [] [(0, 0), (0, 1), (0, 2), (0, 3), (0, 4), (0, 5), (0, 8), (0, 9), (0, 10), (0, 11), (1, 6), (1, 7), (0, 12), (0, 13), (0, 14)] hmixP (by kernel_rfl) ?_
        refine P_q no34_0 rfl (zac (av := .xi x5_l26) rfl ?_)
        refine P_q no34_0 rfl (op_gtr rfl rfl ?_)
        refine P_q no34_0 rfl (zac (av := .xb (decide (0 < x5_l26))) rfl ?_)
        refine P_split (p := 0 < x5_l26) 16 rfl (fun hc => ?_) (fun hc => ?_)
        ·replace h := ite_t h hc
         refine Py_q no34_0 rfl rfl rfl (zac (av := .exact v3_l14) rfl ?_)
         refine Py_q no34_0 rfl rfl rfl (zac (av := .xi x5_l26) rfl ?_)
         refine Py_q no34_0 rfl rfl rfl (op_sub rfl rfl rfl ?_)
         refine Py_q no34_0 rfl rfl rfl (zac (av := .row 1 zad a0) rfl ?_)
         refine Py_q no34_0 rfl rfl rfl (zac (av := .xi x4_l14) rfl ?_)
         obtain ⟨n1044, h⟩ := need_some h
         refine Py_q no34_0 rfl rfl rfl (op_index_row (by kernel_rfl) rfl rfl n1044.1 n1044.2 ?_)
         refine Py_q no34_0 rfl rfl rfl (zaq (a := .xs (gi a0 x4_l14)) (by kernel_rfl) rfl rfl ?_)
         obtain ⟨n1045, h⟩ := need_some h
         refine Py_r rfl rfl rfl (op_index_vec (by kernel_rfl) rfl rfl n1045.1 n1045.2 ?_)
         refine Py_r rfl rfl rfl (op_load_vec1 (i := i64 (x5_l26 - 1)) (o := 0) (a := .xs (gi x3_l14 (i64 (x5_l26 - 1)))) (by kernel_rfl) len_c_api_Value rfl n1045.1 n1045.2 rfl ?_)
         obtain ⟨y1046, hy1046, h⟩ := bnd1_some h
         refine Py_q no34_0 rfl rfl rfl (zal (m_ref9_Compare_ok _ _ _ hy1046) Tryz.func52 (by kernel_rfl) (LEs.cons (AV.le_eq rfl) (LEs.cons (AV.le_eq rfl) LEs.nil)) ?_)
         refine Py_q no34_0 rfl rfl rfl (op_gtr rfl rfl ?_)
         refine P_q no34_0 rfl (zao rfl (av := .xb (decide (0 < y1046))) rfl ?_)
         refine P_nil ?_
         refine zaf ⟨_, h, ?_⟩
         exact Sub.of_le (lq rfl (lq rfl (lq rfl (lq rfl (lq rfl lt0)))))
        ·replace h := ite_f h hc
         refine P_n no34_0 rfl rfl rfl ?_
         refine P_n no34_0 rfl rfl rfl ?_
         refine P_n no34_0 rfl rfl rfl ?_
         refine P_n no34_0 rfl rfl rfl ?_
         refine P_n no34_0 rfl rfl rfl ?_
         refine P_n no34_0 rfl rfl rfl ?_
         refine P_n no34_0 rfl rfl rfl ?_
         refine P_n no34_1 rfl rfl rfl ?_
         refine P_n no34_1 rfl rfl rfl ?_
         refine P_n no34_0 rfl rfl rfl ?_
         refine P_n no34_0 rfl rfl rfl ?_
         refine P_q no34_0 rfl (zai rfl (av := .xb false) rfl ?_)
         refine P_nil ?_
         refine zaf ⟨_, h, ?_⟩
         exact Sub.of_le (lq rfl (lq rfl (lq rfl (lq rfl (lq rfl lt0)))))
       ·refine k_cond_b (c := x28_j1040) rfl (fun hc => ?_) (fun hc => ?_)
        ·replace h := ite_t h hc
         refine k_skip (zaa (k_block (zag .free hmixP (by kernel_rfl) ?_)))
         refine G_q rfl (zac (av := .xi x5_l26) rfl ?_)
         refine G_q rfl (op_sub rfl rfl rfl ?_)
         refine G_q rfl (zab (av := .xi (i64 (x5_l26 - 1))) rfl ?_)
         refine G_nil (kB_normal ?_)
         refine zaf ⟨_, h, ?_⟩
         exact Sub.of_le (lq rfl (lq rfl (lq rfl (lq rfl lt0))))
        ·replace h := ite_f h hc
         refine k_exit (kC_exit (kI_exit (kB_exit ?_)))
         refine zaf ⟨_, h, ?_⟩
         exact Sub.of_le (lq rfl (lq rfl (lq rfl (lq rfl lt0))))
     ·refine zae ?_
      refine k_join1_0 h (fun (x44_j1053 : Bool) => (AF.put (AF.put (AF.put (AF.put (AF.put AF0 (some 0) (.row 1 zad a0)) (some 3) (.exact v3_l14)) (some 4) (.xi x4_l14)) (some 5) (.xi x5_j955)) (some 44) (.xb x44_j1053))) (fun (x44_j1053 : Bool) => [vecT Tryz.prog 27 1 zad v3_l14 x3_l14]) (fun k1053 h => ?_) (fun x44_j1053 h => ?_)
      ·refine k_plan [] [(0, 0), (0, 1), (0, 2), (0, 3), (0, 4), (0, 5), (0, 8), (0, 9), (0, 10), (0, 11), (1, 6), (1, 7), (0, 12), (0, 13)] hmixP (by kernel_rfl) ?_
       refine P_q no34_0 rfl (zac (av := .xi x5_j955) rfl ?_)
       refine P_q no34_0 rfl (op_gtr rfl rfl ?_)
       refine P_q no34_0 rfl (zac (av := .xb (decide (0 < x5_j955))) rfl ?_)
       refine P_split (p := 0 < x5_j955) 33 rfl (fun hc => ?_) (fun hc => ?_)
       ·replace h := ite_t h hc
        refine Py_q no34_0 rfl rfl rfl (zac (av := .exact v3_l14) rfl ?_)
        refine Py_q no34_0 rfl rfl rfl (zac (av := .xi x5_j955) rfl ?_)
        refine Py_q no34_0 rfl rfl rfl (op_sub rfl rfl rfl ?_)
        refine Py_q no34_0 rfl rfl rfl (zac (av := .row 1 zad a0) rfl ?_)
        refine Py_q no34_0 rfl rfl rfl (zac (av := .xi x4_l14) rfl ?_)
        obtain ⟨n1056, h⟩ := need_some h
        refine Py_q no34_0 rfl rfl rfl (op_index_row (by kernel_rfl) rfl rfl n1056.1 n1056.2 ?_)
        refine Py_q no34_0 rfl rfl rfl (zaq (a := .xs (gi a0 x4_l14)) (by kernel_rfl) rfl rfl ?_)
        obtain ⟨n1057, h⟩ := need_some h
        refine Py_r rfl rfl rfl (op_index_vec (by kernel_rfl) rfl rfl n1057.1 n1057.2 ?_)
        refine Py_r rfl rfl rfl (op_load_vec1 (i := i64 (x5_j955 - 1)) (o := 0) (a := .xs (gi x3_l14 (i64 (x5_j955 - 1)))) (by kernel_rfl) len_c_api_Value rfl n1057.1 n1057.2 rfl ?_)
        refine Py_q no34_0 rfl rfl rfl (op_eqlS rfl rfl ?_)
        refine P_q no34_0 rfl (zao rfl (av := .xb (decide ((gi x3_l14 (i64 (x5_j955 - 1))) = (gi a0 x4_l14)))) rfl ?_)
        refine P_nil ?_
        refine zaf ⟨_, h, ?_⟩
        exact Sub.of_le (lq rfl (lq rfl (lq rfl (lq rfl (lq rfl lt0)))))
       ·replace h := ite_f h hc
        refine P_n no34_0 rfl rfl rfl ?_
        refine P_n no34_0 rfl rfl rfl ?_
        refine P_n no34_0 rfl rfl rfl ?_
        refine P_n no34_0 rfl rfl rfl ?_
        refine P_n no34_0 rfl rfl rfl ?_
        refine P_n no34_0 rfl rfl rfl ?_
        refine P_n no34_0 rfl rfl rfl ?_
        refine P_n no34_1 rfl rfl rfl ?_
        refine P_n no34_1 rfl rfl rfl ?_
        refine P_n no34_0 rfl rfl rfl ?_
        refine P_q no34_0 rfl (zai rfl (av := .xb false) rfl ?_)
        refine P_nil ?_
        refine zaf ⟨_, h, ?_⟩
        exact Sub.of_le (lq rfl (lq rfl (lq rfl (lq rfl (lq rfl lt0)))))
      ·refine k_cond_b (c := x44_j1053) rfl (fun hc => ?_) (fun hc => ?_)
       ·replace h := ite_t h hc
        refine k_exit (kC_exit (kB_exit ?_))
        refine zaf ⟨_, v3_l14, h, ?_⟩
        exact Sub.of_le (lq rfl (lq rfl (lq rfl lt0)))
       ·replace h := ite_f h hc
        refine k_skip (zaa (zae (zag .free hmixP (by kernel_rfl) ?_)))
        refine G_q rfl (zac (av := .exact v3_l14) rfl ?_)
        refine G_q rfl (op_litT (n := 1) (enc := zad) [([] : List UInt8)] (CellsAll.cons rfl CellsOf.str CellsAll.nil) rfl (by kernel_rfl) (LEss.cons (LEs.cons (AV.le_eq rfl) LEs.nil) LEss.nil) ?_)
        obtain ⟨n1058, h⟩ := need_some h
        refine G_l rfl (op_appT (by kernel_rfl) rfl rfl oc_c_api_Value n1058 (fun v1059 => ?_))
        refine G_q rfl (zab (av := .exact v1059) rfl ?_)
        refine G_nil (zaa (zae ?_))
        refine k_plan [] [(0, 0), (0, 1), (0, 2), (0, 4), (0, 5), (1, 3), (1, 6), (2, 7)] hmixP (by kernel_rfl) ?_
        refine P_q no34_0 rfl (zac (av := .exact v1059) rfl ?_)
        refine P_q no34_0 rfl (zac (av := .xi x5_j955) rfl ?_)
        refine P_q no34_0 rfl (op_add rfl rfl rfl ?_)
        refine P_q no34_0 rfl (zac (av := .exact v1059) rfl ?_)
        refine P_q no34_0 rfl (zac (av := .xi x5_j955) rfl ?_)
        obtain ⟨n1060, h⟩ := need_some h
        refine P_r rfl (op_slice_vec (by kernel_rfl) rfl (bnd_some rfl) bnd_none n1060.1 n1060.2.1 n1060.2.2 ?_)
        obtain ⟨n1061, h⟩ := need_some h
        refine P_r rfl (op_slice_vec (by kernel_rfl) rfl (bnd_some rfl) bnd_none n1061.1 n1061.2.1 n1061.2.2 ?_)
        refine P_l rfl (op_copy (q := (Nat.min (Int.toNat (List.length (x3_l14 ++ ([([] : List UInt8)])) : Int) - Int.toNat x5_j955) (Int.toNat (List.length (x3_l14 ++ ([([] : List UInt8)])) : Int) - Int.toNat (i64 (x5_j955 + 1))))) (by kernel_rfl) (by kernel_rfl) len_c_api_Value oc_c_api_Value rfl rfl (by have hh := n1060; first | omega | (simp only [i64] at hh; omega) | (simp only [i64] at hh ⊢; omega)) (by have hh := n1061; first | omega | (simp only [i64] at hh; omega) | (simp only [i64] at hh ⊢; omega)) rfl ?_)
        refine P_nil (zaa (zag .free hmixP (by kernel_rfl) ?_))
        refine G_q rfl (zac (av := .exact v1059) rfl ?_)
        refine G_q rfl (zac (av := .xi x5_j955) rfl ?_)
        refine G_q rfl (zac (av := .row 1 zad a0) rfl ?_)
        refine G_q rfl (zac (av := .xi x4_l14) rfl ?_)
        obtain ⟨n1062, h⟩ := need_some h
        refine G_q rfl (op_index_row (by kernel_rfl) rfl rfl n1062.1 n1062.2 ?_)
        refine G_q rfl (zaq (a := .xs (gi a0 x4_l14)) (by kernel_rfl) rfl rfl ?_)
        obtain ⟨n1063, h⟩ := need_some h
        refine G_r rfl (op_index_vec (by kernel_rfl) rfl rfl n1063.1 n1063.2 ?_)
        refine G_l rfl (op_store_vec (i := x5_j955) (o := 0) (z := gi a0 x4_l14) (c' := [.xs (gi a0 x4_l14)]) (by kernel_rfl) len_c_api_Value rfl n1063.1 n1063.2 rfl CellsOf.str (LEs.cons (AV.le_eq rfl) LEs.nil) (OneC.str OneC.nil) (by kernel_rfl) (Nat.le_of_ble_eq_true rfl) rfl ?_)
        refine G_nil (kB_normal ?_)
        refine zaf ⟨_, v1059, h, ?_⟩
        exact Sub.of_le (lq rfl (lq rfl (lq rfl lt0)))
    ·refine zag .free hmixP (by kernel_rfl) ?_
     refine G_q rfl (zac (av := .xi x4_l14) rfl ?_)
     refine G_q rfl (op_add rfl rfl rfl ?_)
     refine G_q rfl (zab (av := .xi (i64 (x4_l14 + 1))) rfl ?_)
     refine G_nil ?_
     refine zaf ⟨_, _, v3_j844, h, ?_⟩
     exact Sub.of_le (lq rfl (lq rfl (lq rfl lt0)))
   ·replace h := ite_f h hc
    refine k_exit (kC_exit (kI_exit (kB_exit ?_)))
    refine zaf ⟨_, v3_l14, h, ?_⟩
    exact Sub.of_le (lq rfl lt0)
 ·refine zae (zag .free hmixP (by kernel_rfl) ?_)
  refine G_q rfl (zac (av := .exact v3_j1) rfl ?_)
  refine G_q rfl (zab (av := .exact v3_j1) rfl ?_)
  refine G_nil (zaa (k_ret ?_))
  obtain rfl := Option.some.inj h
  refine zaj (endN (af' := (AF.put AF0 (some 2) (.row 1 zad x3_j1))) (σ' := []) _ rfl ?_ ⟨rfl, rfl⟩)
  refine Sub.trans (SubU.to (SubU.freezeT (s := 2) rfl len_c_api_Value)) ?_
  exact Sub.of_le (lq rfl lt0)
set_option maxHeartbeats 4000000 in
theorem m_ref9_Set_ok (a0 : List (List UInt8)) (r : (List UInt8)) (h : m_ref9_Set a0 = some r) : Pure Tryz.prog 28 [(.row 1 zad a0)] (.exact (.string (bs r))) := by
 unfold m_ref9_Set at h
 refine Pure.ofFun (fun_of_awp Tryz.func28 rfl Tryz.ntmps28 (by simp) rfl (res1 rfl) fun E hE => k_end ?_)
 refine zae (zag .free hmixP (by kernel_rfl) ?_)
 refine G_q rfl (zab (av := .xs ([] : List UInt8)) rfl ?_)
 refine G_nil (zaa (zae (zae (zag .free hmixP (by kernel_rfl) ?_))))
 refine G_q rfl (zac (av := .row 1 zad a0) rfl ?_)
 obtain ⟨y1, hy1, h⟩ := bnd1_some h
 refine G_q rfl (zal (m_ref9_all_ok _ _ hy1) Tryz.func43 (by kernel_rfl) (LEs.cons (AV.le_eq rfl) LEs.nil) ?_)
 refine G_q rfl (op_not rfl ?_)
 refine G_nil (zaa ?_)
 refine k_cond_b (c := !y1) rfl (fun hc => ?_) (fun hc => ?_)
 ·replace h := ite_t h hc
  refine zae (zag .free hmixP (by kernel_rfl) ?_)
  refine G_q rfl (zab (av := .xs ([] : List UInt8)) rfl ?_)
  refine G_nil (zaa (k_ret (kC_ret ?_)))
  obtain rfl := Option.some.inj h
  refine zaj (endN (af' := (AF.put AF0 (some 2) (.xs ([] : List UInt8)))) (σ' := []) _ rfl ?_ ⟨rfl, rfl⟩)
  exact Sub.of_le (lq rfl lt0)
 ·replace h := ite_f h hc
  refine k_skip (zaa (zae (zag .free hmixP (by kernel_rfl) ?_)))
  refine G_q rfl (zac (av := .row 1 zad a0) rfl ?_)
  obtain ⟨y2, hy2, h⟩ := bnd1_some h
  refine G_q rfl (zal (m_ref9_Sort_ok _ _ hy2) Tryz.func30 (by kernel_rfl) (LEs.cons (AV.le_eq rfl) LEs.nil) ?_)
  obtain ⟨y3, hy3, h⟩ := bnd1_some h
  refine G_q rfl (zal (m_ref9_compound_ok _ _ _ hy3) Tryz.func44 (by kernel_rfl) (LEs.cons (AV.le_eq rfl) (LEs.cons (AV.le_eq rfl) LEs.nil)) ?_)
  refine G_q rfl (zab (av := .xs y3) rfl ?_)
  refine G_nil (zaa (k_ret ?_))
  obtain rfl := Option.some.inj h
  refine zaj (endN (af' := (AF.put AF0 (some 2) (.xs y3))) (σ' := []) _ rfl ?_ ⟨rfl, rfl⟩)
  exact Sub.of_le (lq rfl lt0)
set_option maxHeartbeats 4000000 in
theorem m_ref9_Dot_ok (a0 : Int) (a1 : List (List UInt8)) (r : (List UInt8)) (h : m_ref9_Dot a0 a1 = some r) : Pure Tryz.prog 29 [(.exact (.int .i64 a0)), (.row 1 zad a1)] (.exact (.string (bs r))) := by
 unfold m_ref9_Dot at h
 refine Pure.ofFun (fun_of_awp Tryz.func29 rfl Tryz.ntmps29 (by simp) rfl (res1 rfl) fun E hE => k_end ?_)
 refine zae (zag .free hmixP (by kernel_rfl) ?_)
 refine G_q rfl (zab (av := .xs ([] : List UInt8)) rfl ?_)
 refine G_nil (zaa (zae (zag .free hmixP (by kernel_rfl) ?_)))
 refine G_q rfl (zac (av := .xi a0) rfl ?_)
 obtain ⟨y1, hy1, h⟩ := bnd1_some h
 refine G_q rfl (zal (m_ref9_Name_ok _ _ hy1) Tryz.func26 (by kernel_rfl) (LEs.cons (AV.le_eq rfl) LEs.nil) ?_)
 refine G_l rfl (op_litI (n := 1) (enc := zad) [y1] (by kernel_rfl) (CellsAll.cons rfl CellsOf.str CellsAll.nil) rfl (by kernel_rfl) (LEss.cons (LEs.cons (AV.le_eq rfl) LEs.nil) LEss.nil) (fun v2 => ?_))
 refine G_q rfl (zac (av := .row 1 zad a1) rfl ?_)
 obtain ⟨n3, h⟩ := need_some h
 refine G_l rfl (op_appT (by kernel_rfl) rfl rfl oc_c_api_Value n3 (fun v4 => ?_))
 refine G_sub rfl (SubU.freezeT (s := 9) rfl len_c_api_Value) ?_
 obtain ⟨y5, hy5, h⟩ := bnd1_some h
 refine G_q rfl (zal (m_ref9_Make_ok _ _ _ hy5) Tryz.func19 (by kernel_rfl) (LEs.cons (AV.le_eq rfl) (LEs.cons (AV.le_eq rfl) LEs.nil)) ?_)
 refine G_q rfl (zab (av := .xs y5) rfl ?_)
 refine G_nil (zaa (k_ret ?_))
 obtain rfl := Option.some.inj h
 refine zaj (endN (af' := (AF.put AF0 (some 4) (.xs y5))) (σ' := []) _ rfl ?_ ⟨rfl, rfl⟩)
 exact Sub.of_le (lq rfl lt0)
set_option maxHeartbeats 4000000 in
theorem m_ref9_Map_ok (a0 : List (List UInt8)) (a1 : List (List UInt8)) (r : (List UInt8)) (h : m_ref9_Map a0 a1 = some r) : Pure Tryz.prog 31 [(.row 1 zad a0), (.row 1 zad a1)] (.exact (.string (bs r))) := by
 unfold m_ref9_Map at h
 refine Pure.ofFun (fun_of_awp Tryz.func31 rfl Tryz.ntmps31 (by simp) rfl (res1 rfl) fun E hE => k_end ?_)
 refine zae (zag .free hmixP (by kernel_rfl) ?_)
 refine G_q rfl (zab (av := .xs ([] : List UInt8)) rfl ?_)
 refine G_nil (zaa (zae ?_))
 refine k_join1_0 h (fun (x23_j7 : Bool) => (AF.put (AF.put (AF.put AF0 (some 0) (.row 1 zad a0)) (some 1) (.row 1 zad a1)) (some 23) (.xb x23_j7))) (fun (x23_j7 : Bool) => []) (fun k7 h => ?_) (fun x23_j7 h => ?_)
 ·refine zag .free hmixP (by kernel_rfl) ?_
  refine G_q rfl (zac (av := .row 1 zad a0) rfl ?_)
  refine G_q rfl (op_len_row (by kernel_rfl) rfl ?_)
  refine G_q rfl (zac (av := .row 1 zad a1) rfl ?_)
  refine G_q rfl (op_len_row (by kernel_rfl) rfl ?_)
  refine G_q rfl (op_neq rfl rfl ?_)
  refine G_q rfl (zac (av := .xb (decide (¬ (List.length a0 : Int) = (List.length a1 : Int)))) rfl ?_)
  refine G_split (p := ¬ (List.length a0 : Int) = (List.length a1 : Int)) 14 rfl (fun hc => ?_) (fun hc => ?_)
  ·replace h := ite_t h hc
   refine G_n rfl rfl (G_n rfl rfl (G_n rfl rfl ?_))
   refine G_q rfl (zao rfl (av := .xb true) rfl ?_)
   refine G_q rfl (zac (av := .xb true) rfl ?_)
   refine G_n rfl rfl (G_n rfl rfl (G_n rfl rfl ?_))
   refine G_q rfl (zao rfl (av := .xb true) rfl ?_)
   refine G_nil ?_
   refine zaf ⟨_, h, ?_⟩
   exact Sub.of_le (lq rfl (lq rfl (lq rfl lt0)))
  ·replace h := ite_f h hc
   refine Gy_q rfl rfl rfl (zac (av := .row 1 zad a0) rfl ?_)
   obtain ⟨y10, hy10, h⟩ := bnd1_some h
   refine Gy_q rfl rfl rfl (zal (m_ref9_all_ok _ _ hy10) Tryz.func43 (by kernel_rfl) (LEs.cons (AV.le_eq rfl) LEs.nil) ?_)
   refine Gy_q rfl rfl rfl (op_not rfl ?_)
   refine G_q rfl (zai rfl (av := .xb (!y10)) rfl ?_)
   refine G_q rfl (zac (av := .xb (!y10)) rfl ?_)
   refine G_splitB (c := !y10) 19 rfl (fun hc => ?_) (fun hc => ?_)
   ·replace h := ite_t h hc
    refine G_n rfl rfl (G_n rfl rfl (G_n rfl rfl ?_))
    refine G_q rfl (zao rfl (av := .xb true) rfl ?_)
    refine G_nil ?_
    refine zaf ⟨_, h, ?_⟩
    exact Sub.of_le (lq rfl (lq rfl (lq rfl lt0)))
   ·replace h := ite_f h hc
    refine Gy_q rfl rfl rfl (zac (av := .row 1 zad a1) rfl ?_)
    obtain ⟨y11, hy11, h⟩ := bnd1_some h
    refine Gy_q rfl rfl rfl (zal (m_ref9_all_ok _ _ hy11) Tryz.func43 (by kernel_rfl) (LEs.cons (AV.le_eq rfl) LEs.nil) ?_)
    refine Gy_q rfl rfl rfl (op_not rfl ?_)
    refine G_q rfl (zai rfl (av := .xb (!y11)) rfl ?_)
    refine G_nil ?_
    refine zaf ⟨_, h, ?_⟩
    exact Sub.of_le (lq rfl (lq rfl (lq rfl lt0)))
 ·refine k_cond_b (c := x23_j7) rfl (fun hc => ?_) (fun hc => ?_)
  ·replace h := ite_t h hc
   refine zae (zag .free hmixP (by kernel_rfl) ?_)
   refine G_q rfl (zab (av := .xs ([] : List UInt8)) rfl ?_)
   refine G_nil (zaa (k_ret (kC_ret ?_)))
   obtain rfl := Option.some.inj h
   refine zaj (endN (af' := (AF.put AF0 (some 4) (.xs ([] : List UInt8)))) (σ' := []) _ rfl ?_ ⟨rfl, rfl⟩)
   exact Sub.of_le (lq rfl lt0)
  ·replace h := ite_f h hc
   refine k_skip (zaa (zae (zag .free hmixP (by kernel_rfl) ?_)))
   refine G_q rfl (zac (av := .row 1 zad a0) rfl ?_)
   obtain ⟨y12, hy12, h⟩ := bnd1_some h
   refine G_q rfl (zal (m_ref9_Sort_ok _ _ hy12) Tryz.func30 (by kernel_rfl) (LEs.cons (AV.le_eq rfl) LEs.nil) ?_)
   refine G_q rfl (zab (av := .row 1 zad y12) rfl ?_)
   refine G_nil (zaa (zae (zae (zag .free hmixP (by kernel_rfl) ?_))))
   refine G_q rfl (zac (av := .row 1 zad y12) rfl ?_)
   refine G_q rfl (op_len_row (by kernel_rfl) rfl ?_)
   refine G_q rfl (zac (av := .row 1 zad a0) rfl ?_)
   refine G_q rfl (op_len_row (by kernel_rfl) rfl ?_)
   refine G_q rfl (op_neq rfl rfl ?_)
   refine G_nil (zaa ?_)
   refine zak (p := ¬ (List.length y12 : Int) = (List.length a0 : Int)) rfl (fun hc => ?_) (fun hc => ?_)
   ·replace h := ite_t h hc
    refine zae (zag .free hmixP (by kernel_rfl) ?_)
    refine G_q rfl (zab (av := .xs ([] : List UInt8)) rfl ?_)
    refine G_nil (zaa (k_ret (kC_ret ?_)))
    obtain rfl := Option.some.inj h
    refine zaj (endN (af' := (AF.put AF0 (some 4) (.xs ([] : List UInt8)))) (σ' := []) _ rfl ?_ ⟨rfl, rfl⟩)
    exact Sub.of_le (lq rfl lt0)
   ·replace h := ite_f h hc
    refine k_skip (zaa (zae (zag .free hmixP (by kernel_rfl) ?_)))
    refine G_q rfl (zab (av := .exact (.slice none 0 0)) rfl ?_)
    refine G_nil (zaa ?_)
    refine k_join1_1 h (fun (x6_j13 : List (List UInt8)) (v6_j13 : Value) => (AF.put AF0 (some 6) (.exact v6_j13))) (fun (x6_j13 : List (List UInt8)) (v6_j13 : Value) => [vecT Tryz.prog 27 1 zad v6_j13 x6_j13]) (fun k13 h => ?_) (fun x6_j13 v6_j13 h => ?_)
    ·refine zae (zag .free hmixP (by kernel_rfl) ?_)
     refine G_q rfl (zab (av := .xi 0) rfl ?_)
     refine G_nil (zaa (k_block ?_))
     refine k_loop2_1 (m_ref9_Map_L8 a0 a1 y12 k13) (m_ref9_Map_B8 a0 a1 y12 k13) (fun _ _ => rfl) (fun m _ _ => rfl) h (fun (x6_l8 : List (List UInt8)) (x7_l8 : Int) (v6_l8 : Value) => (AF.put (AF.put (AF.put (AF.put (AF.put AF0 (some 0) (.row 1 zad a0)) (some 1) (.row 1 zad a1)) (some 5) (.row 1 zad y12)) (some 6) (.exact v6_l8)) (some 7) (.xi x7_l8))) (fun (x6_l8 : List (List UInt8)) (x7_l8 : Int) (v6_l8 : Value) => [vecT Tryz.prog 27 1 zad v6_l8 x6_l8]) (.slice none 0 0) ?_ (fun rec8 x6_l8 x7_l8 v6_l8 h => ?_)
     ·refine Sub.trans (SubU.to (SubU.nilT (P := Tryz.prog) (t := 27) (n := 1) (enc := zad))) ?_
      exact Sub.of_le (lq rfl (lq rfl (lq rfl (lq rfl (lq rfl lt0)))))
     ·unfold m_ref9_Map_B8 at h
      refine zae (zae (zag .free hmixP (by kernel_rfl) ?_))
      refine G_q rfl (zac (av := .xi x7_l8) rfl ?_)
      refine G_q rfl (zac (av := .row 1 zad y12) rfl ?_)
      refine G_q rfl (op_len_row (by kernel_rfl) rfl ?_)
      refine G_q rfl (op_lss rfl rfl ?_)
      refine G_nil (zaa ?_)
      refine zak (p := x7_l8 < (List.length y12 : Int)) rfl (fun hc => ?_) (fun hc => ?_)
      ·replace h := ite_t h hc
       refine k_skip (zaa ?_)
       refine k_join1_1 h (fun (x6_j420 : List (List UInt8)) (v6_j420 : Value) => (AF.put (AF.put (AF.put (AF.put (AF.put AF0 (some 0) (.row 1 zad a0)) (some 1) (.row 1 zad a1)) (some 5) (.row 1 zad y12)) (some 6) (.exact v6_j420)) (some 7) (.xi x7_l8))) (fun (x6_j420 : List (List UInt8)) (v6_j420 : Value) => [vecT Tryz.prog 27 1 zad v6_j420 x6_j420]) (fun k420 h => ?_) (fun x6_j420 v6_j420 h => ?_)
       ·refine k_block (zae (zag .free hmixP (by kernel_rfl) ?_))
        refine G_q rfl (zab (av := .xi 0) rfl ?_)
        refine G_nil (zaa (k_block ?_))
        refine k_loop2_1 (m_ref9_Map_L14 a0 a1 y12 x7_l8 k420) (m_ref9_Map_B14 a0 a1 y12 x7_l8 k420) (fun _ _ => rfl) (fun m _ _ => rfl) h (fun (x6_l14 : List (List UInt8)) (x8_l14 : Int) (v6_l14 : Value) => (AF.put (AF.put (AF.put (AF.put (AF.put (AF.put AF0 (some 0) (.row 1 zad a0)) (some 1) (.row 1 zad a1)) (some 5) (.row 1 zad y12)) (some 6) (.exact v6_l14)) (some 7) (.xi x7_l8)) (some 8) (.xi x8_l14))) (fun (x6_l14 : List (List UInt8)) (x8_l14 : Int) (v6_l14 : Value) => [vecT Tryz.prog 27 1 zad v6_l14 x6_l14]) v6_l8 ?_ (fun rec14 x6_l14 x8_l14 v6_l14 h => ?_)
        ·exact Sub.of_le (lq rfl (lq rfl (lq rfl (lq rfl (lq rfl (lq rfl lt0))))))
        ·unfold m_ref9_Map_B14 at h
         refine zae (zae (zag .free hmixP (by kernel_rfl) ?_))
         refine G_q rfl (zac (av := .xi x8_l14) rfl ?_)
         refine G_q rfl (zac (av := .row 1 zad a0) rfl ?_)
         refine G_q rfl (op_len_row (by kernel_rfl) rfl ?_)
         refine G_q rfl (op_lss rfl rfl ?_)
         refine G_nil (zaa ?_)
         refine zak (p := x8_l14 < (List.length a0 : Int)) rfl (fun hc => ?_) (fun hc => ?_)
         ·replace h := ite_t h hc
          refine k_skip (zaa ?_)
          refine k_join1_1 h (fun (x6_j487 : List (List UInt8)) (v6_j487 : Value) => (AF.put (AF.put (AF.put (AF.put (AF.put (AF.put AF0 (some 0) (.row 1 zad a0)) (some 1) (.row 1 zad a1)) (some 5) (.row 1 zad y12)) (some 6) (.exact v6_j487)) (some 7) (.xi x7_l8)) (some 8) (.xi x8_l14))) (fun (x6_j487 : List (List UInt8)) (v6_j487 : Value) => [vecT Tryz.prog 27 1 zad v6_j487 x6_j487]) (fun k487 h => ?_) (fun x6_j487 v6_j487 h => ?_)
          ·refine k_block (zae ?_)
           refine k_plan [] [(0, 0), (0, 1), (0, 2), (0, 3), (0, 4), (0, 5), (0, 6), (0, 7), (0, 8)] hmixP (by kernel_rfl) ?_
           refine P_q no34_0 rfl (zac (av := .row 1 zad a0) rfl ?_)
           refine P_q no34_0 rfl (zac (av := .xi x8_l14) rfl ?_)
           obtain ⟨n494, h⟩ := need_some h
           refine P_q no34_0 rfl (op_index_row (by kernel_rfl) rfl rfl n494.1 n494.2 ?_)
           refine P_q no34_0 rfl (zaq (a := .xs (gi a0 x8_l14)) (by kernel_rfl) rfl rfl ?_)
           refine P_q no34_0 rfl (zac (av := .row 1 zad y12) rfl ?_)
           refine P_q no34_0 rfl (zac (av := .xi x7_l8) rfl ?_)
           obtain ⟨n495, h⟩ := need_some h
           refine P_q no34_0 rfl (op_index_row (by kernel_rfl) rfl rfl n495.1 n495.2 ?_)
           refine P_q no34_0 rfl (zaq (a := .xs (gi y12 x7_l8)) (by kernel_rfl) rfl rfl ?_)
           refine P_q no34_0 rfl (op_eqlS rfl rfl ?_)
           refine P_nil (zaa ?_)
           refine zak (p := (gi a0 x8_l14) = (gi y12 x7_l8)) rfl (fun hc => ?_) (fun hc => ?_)
           ·replace h := ite_t h hc
            refine k_plan [] [(0, 0), (0, 1), (0, 2), (0, 3), (0, 4), (0, 5), (0, 6), (0, 7), (0, 8), (0, 9), (2, 10), (0, 11)] hmixP (by kernel_rfl) ?_
            refine P_q no34_0 rfl (zac (av := .exact v6_l14) rfl ?_)
            refine P_q no34_0 rfl (zac (av := .row 1 zad y12) rfl ?_)
            refine P_q no34_0 rfl (zac (av := .xi x7_l8) rfl ?_)
            obtain ⟨n496, h⟩ := need_some h
            refine P_q no34_0 rfl (op_index_row (by kernel_rfl) rfl rfl n496.1 n496.2 ?_)
            refine P_q no34_0 rfl (zaq (a := .xs (gi y12 x7_l8)) (by kernel_rfl) rfl rfl ?_)
            refine P_q no34_0 rfl (zac (av := .row 1 zad a1) rfl ?_)
            refine P_q no34_0 rfl (zac (av := .xi x8_l14) rfl ?_)
            obtain ⟨n497, h⟩ := need_some h
            refine P_q no34_0 rfl (op_index_row (by kernel_rfl) rfl rfl n497.1 n497.2 ?_)
            refine P_q no34_0 rfl (zaq (a := .xs (gi a1 x8_l14)) (by kernel_rfl) rfl rfl ?_)
            refine P_q no34_0 rfl (op_litT (n := 1) (enc := zad) [gi y12 x7_l8, gi a1 x8_l14] (CellsAll.cons rfl CellsOf.str (CellsAll.cons rfl CellsOf.str CellsAll.nil)) rfl (by kernel_rfl) (LEss.cons (LEs.cons (AV.le_eq rfl) LEs.nil) (LEss.cons (LEs.cons (AV.le_eq rfl) LEs.nil) LEss.nil)) ?_)
            obtain ⟨n498, h⟩ := need_some h
            refine P_l rfl (op_appT (by kernel_rfl) rfl rfl oc_c_api_Value n498 (fun v499 => ?_))
            refine P_q no34_0 rfl (zab (av := .exact v499) rfl ?_)
            refine P_nil (kB_normal ?_)
            refine zaf ⟨_, v499, h, ?_⟩
            exact Sub.of_le (lq rfl (lq rfl (lq rfl (lq rfl (lq rfl (lq rfl lt0))))))
           ·replace h := ite_f h hc
            refine k_skip (kB_normal ?_)
            refine zaf ⟨_, v6_l14, h, ?_⟩
            exact Sub.of_le (lq rfl (lq rfl (lq rfl (lq rfl (lq rfl (lq rfl lt0))))))
          ·refine zag .free hmixP (by kernel_rfl) ?_
           refine G_q rfl (zac (av := .xi x8_l14) rfl ?_)
           refine G_q rfl (op_add rfl rfl rfl ?_)
           refine G_q rfl (zab (av := .xi (i64 (x8_l14 + 1))) rfl ?_)
           refine G_nil ?_
           refine zaf ⟨_, _, v6_j487, h, ?_⟩
           exact Sub.of_le (lq rfl (lq rfl (lq rfl (lq rfl (lq rfl (lq rfl lt0))))))
         ·replace h := ite_f h hc
          refine k_exit (kC_exit (kI_exit (kB_exit (kB_normal ?_))))
          refine zaf ⟨_, v6_l14, h, ?_⟩
          exact Sub.of_le (lq rfl (lq rfl (lq rfl (lq rfl (lq rfl lt0)))))
       ·refine zag .free hmixP (by kernel_rfl) ?_
        refine G_q rfl (zac (av := .xi x7_l8) rfl ?_)
        refine G_q rfl (op_add rfl rfl rfl ?_)
        refine G_q rfl (zab (av := .xi (i64 (x7_l8 + 1))) rfl ?_)
        refine G_nil ?_
        refine zaf ⟨_, _, v6_j420, h, ?_⟩
        exact Sub.of_le (lq rfl (lq rfl (lq rfl (lq rfl (lq rfl lt0)))))
      ·replace h := ite_f h hc
       refine k_exit (kC_exit (kI_exit (kB_exit ?_)))
       refine zaf ⟨_, v6_l8, h, ?_⟩
       exact Sub.of_le (lq rfl lt0)
    ·refine zae (zag .free hmixP (by kernel_rfl) ?_)
     refine G_q rfl (zac (av := .exact v6_j13) rfl ?_)
     refine G_sub rfl (SubU.freezeT2 (s1 := 6) (s2 := 63) rfl rfl len_c_api_Value) ?_
     obtain ⟨y500, hy500, h⟩ := bnd1_some h
     refine G_q rfl (zal (m_ref9_compound_ok _ _ _ hy500) Tryz.func44 (by kernel_rfl) (LEs.cons (AV.le_eq rfl) (LEs.cons (AV.le_eq rfl) LEs.nil)) ?_)
     refine G_q rfl (zab (av := .xs y500) rfl ?_)
     refine G_nil (zaa (k_ret ?_))
     obtain rfl := Option.some.inj h
     refine zaj (endN (af' := (AF.put AF0 (some 4) (.xs y500))) (σ' := []) _ rfl ?_ ⟨rfl, rfl⟩)
     exact Sub.of_le (lq rfl lt0)
set_option maxHeartbeats 4000000 in
theorem m_ref9_eight_ok (a0 : Int) (r : (List UInt8)) (h : m_ref9_eight a0 = some r) : Pure Tryz.prog 53 [(.exact (.int .i64 a0))] (.exact (.string (bs r))) := by
 unfold m_ref9_eight at h
 refine Pure.ofFun (fun_of_awp Tryz.func53 rfl Tryz.ntmps53 (by simp) rfl (res1 rfl) fun E hE => k_end ?_)
 refine zae (zag .free hmixP (by kernel_rfl) ?_)
 refine G_q rfl (zab (av := .xs ([] : List UInt8)) rfl ?_)
 refine G_nil (zaa (zae (zag .free hmixP (by kernel_rfl) ?_)))
 obtain ⟨n1, h⟩ := need_some h
 refine G_l rfl (op_make (enc := c_uint8) (zr := (0 : UInt8)) (by kernel_rfl) rfl rfl n1.1 n1.2 len_c_uint8 Tryz.zeroValue5 (fun _ _ => (Fit.ex Fit.nil0)) (fun v2 => ?_))
 refine G_q rfl (zab (av := .exact v2) rfl ?_)
 refine G_nil (zaa ?_)
 refine k_join1_0 h (fun (x3_j3 : List UInt8) => (AF.put AF0 (some 3) (.exact v2))) (fun (x3_j3 : List UInt8) => [vecT Tryz.prog 81 1 c_uint8 v2 x3_j3]) (fun k3 h => ?_) (fun x3_j3 h => ?_)
 ·refine zae (zag .free hmixP (by kernel_rfl) ?_)
  refine G_q rfl (zab (av := .xi 0) rfl ?_)
  refine G_nil (zaa (k_block ?_))
  refine k_loop2_0 (m_ref9_eight_L2 a0 k3) (m_ref9_eight_B2 a0 k3) (fun _ _ => rfl) (fun m _ _ => rfl) h (fun (x3_l2 : List UInt8) (x4_l2 : Int) => (AF.put (AF.put (AF.put AF0 (some 0) (.xi a0)) (some 3) (.exact v2)) (some 4) (.xi x4_l2))) (fun (x3_l2 : List UInt8) (x4_l2 : Int) => [vecT Tryz.prog 81 1 c_uint8 v2 x3_l2]) ?_ (fun rec2 x3_l2 x4_l2 h => ?_)
  ·exact Sub.of_le (lq rfl (lq rfl (lq rfl lt0)))
  ·unfold m_ref9_eight_B2 at h
   refine zae (zae (zag .free hmixP (by kernel_rfl) ?_))
   refine G_q rfl (zac (av := .xi x4_l2) rfl ?_)
   refine G_q rfl (op_lss rfl rfl ?_)
   refine G_nil (zaa ?_)
   refine zak (p := x4_l2 < 8) rfl (fun hc => ?_) (fun hc => ?_)
   ·replace h := ite_t h hc
    refine k_skip (zaa (zae (k_block (zag .free hmixP (by kernel_rfl) ?_))))
    refine G_q rfl (zac (av := .exact v2) rfl ?_)
    refine G_q rfl (zac (av := .xi x4_l2) rfl ?_)
    refine G_q rfl (op_sub rfl rfl rfl ?_)
    refine G_q rfl (zac (av := .xi a0) rfl ?_)
    refine G_q rfl (op_convInt (k := .u64) (by kernel_rfl) rfl rfl ?_)
    refine G_q rfl (zac (av := .xi x4_l2) rfl ?_)
    refine G_q rfl (op_mul rfl rfl rfl ?_)
    refine G_q rfl (op_convInt (k := .u64) (by kernel_rfl) rfl rfl ?_)
    obtain ⟨n15, h⟩ := need_some h
    refine G_q rfl (op_shr rfl rfl n15 rfl ?_)
    refine G_q rfl (op_convInt (k := .u8) (r := (UInt8.toNat (u8i (Int.fdiv (IntKind.u64.wrap (a0)) (2 ^ min (Int.toNat (IntKind.u64.wrap (i64 (8 * x4_l2)))) IntKind.u64.bits))) : Int)) (by kernel_rfl) rfl (u8i_eq _) ?_)
    obtain ⟨n16, h⟩ := need_some h
    refine G_r rfl (op_index_vec (by kernel_rfl) rfl rfl n16.1 n16.2 ?_)
    refine G_l rfl (op_store_vec (i := i64 (7 - x4_l2)) (o := 0) (z := u8i (Int.fdiv (IntKind.u64.wrap (a0)) (2 ^ min (Int.toNat (IntKind.u64.wrap (i64 (8 * x4_l2)))) IntKind.u64.bits))) (c' := [.exact (.int .u8 (UInt8.toNat (u8i (Int.fdiv (IntKind.u64.wrap (a0)) (2 ^ min (Int.toNat (IntKind.u64.wrap (i64 (8 * x4_l2)))) IntKind.u64.bits))) : Int))]) (by kernel_rfl) len_c_uint8 rfl n16.1 n16.2 rfl CellsOf.int (LEs.cons (AV.le_eq rfl) LEs.nil) (OneC.int OneC.nil) (by kernel_rfl) (Nat.le_of_ble_eq_true rfl) rfl ?_)
    refine G_nil (kB_normal (zaa (zag .free hmixP (by kernel_rfl) ?_)))
    refine G_q rfl (zac (av := .xi x4_l2) rfl ?_)
    refine G_q rfl (op_add rfl rfl rfl ?_)
    refine G_q rfl (zab (av := .xi (i64 (x4_l2 + 1))) rfl ?_)
    refine G_nil ?_
    refine zaf ⟨_, _, h, ?_⟩
    exact Sub.of_le (lq rfl (lq rfl (lq rfl lt0)))
   ·replace h := ite_f h hc
    refine k_exit (kC_exit (kI_exit (kB_exit ?_)))
    refine zaf ⟨_, h, ?_⟩
    exact Sub.of_le (lq rfl lt0)
 ·refine zae (zag .free hmixP (by kernel_rfl) ?_)
  refine G_q rfl (zac (av := .exact v2) rfl ?_)
  refine G_r rfl (op_bytesS_bor rfl (by kernel_rfl) (Bor.vec (List.Mem.head _) len_c_uint8) ?_)
  refine G_q rfl (zab (av := .xs x3_j3) rfl ?_)
  refine G_nil (zaa (k_ret ?_))
  obtain rfl := Option.some.inj h
  refine zaj (endN (af' := (AF.put AF0 (some 2) (.xs x3_j3))) (σ' := []) _ rfl ?_ ⟨rfl, rfl⟩)
  refine Sub.trans (SubU.to SubU.drop) ?_
  exact Sub.of_le (lq rfl lt0)
set_option maxHeartbeats 4000000 in
theorem m_ref9_Int_ok (a0 : Int) (r : (List UInt8)) (h : m_ref9_Int a0 = some r) : Pure Tryz.prog 33 [(.exact (.int .i64 a0))] (.exact (.string (bs r))) := by
 unfold m_ref9_Int at h
 refine Pure.ofFun (fun_of_awp Tryz.func33 rfl Tryz.ntmps33 (by simp) rfl (res1 rfl) fun E hE => k_end ?_)
 refine zae (zag .free hmixP (by kernel_rfl) ?_)
 refine G_q rfl (zab (av := .xs ([] : List UInt8)) rfl ?_)
 refine G_nil (zaa (zae ?_))
 refine k_plan [] [(0, 0), (0, 1), (0, 2), (0, 3), (0, 4), (0, 5)] hmixP (by kernel_rfl) ?_
 refine P_q no34_0 rfl (op_litT (n := 1) (enc := c_uint8) [1] (CellsAll.cons rfl CellsOf.int CellsAll.nil) rfl (by kernel_rfl) (LEss.cons (LEs.cons (AV.le_eq rfl) LEs.nil) LEss.nil) ?_)
 refine P_q no34_0 rfl (op_bytesS rfl (by kernel_rfl) rfl ?_)
 refine P_q no34_0 rfl (zac (av := .xi a0) rfl ?_)
 obtain ⟨y1, hy1, h⟩ := bnd1_some h
 refine P_q no34_0 rfl (zal (m_ref9_eight_ok _ _ hy1) Tryz.func53 (by kernel_rfl) (LEs.cons (AV.le_eq rfl) LEs.nil) ?_)
 obtain ⟨n2, h⟩ := need_some h
 refine P_q no34_0 rfl (op_addS n2 rfl rfl ?_)
 refine P_q no34_0 rfl (zab (av := .xs ([1] ++ y1)) rfl ?_)
 refine P_nil (zaa (k_ret ?_))
 obtain rfl := Option.some.inj h
 refine zaj (endN (af' := (AF.put AF0 (some 2) (.xs ([1] ++ y1)))) (σ' := []) _ rfl ?_ ⟨rfl, rfl⟩)
 exact Sub.of_le (lq rfl lt0)
set_option maxHeartbeats 4000000 in
theorem m_ref9_Numbered_ok (a0 : Int) (a1 : Int) (a2 : List (List UInt8)) (r : (List UInt8)) (h : m_ref9_Numbered a0 a1 a2 = some r) : Pure Tryz.prog 32 [(.exact (.int .i64 a0)), (.exact (.int .i64 a1)), (.row 1 zad a2)] (.exact (.string (bs r))) := by
 unfold m_ref9_Numbered at h
 refine Pure.ofFun (fun_of_awp Tryz.func32 rfl Tryz.ntmps32 (by simp) rfl (res1 rfl) fun E hE => k_end ?_)
 refine zae (zag .free hmixP (by kernel_rfl) ?_)
 refine G_q rfl (zab (av := .xs ([] : List UInt8)) rfl ?_)
 refine G_nil (zaa (zae (zag .free hmixP (by kernel_rfl) ?_)))
 refine G_q rfl (zac (av := .xi a0) rfl ?_)
 refine G_q rfl (zac (av := .xi a1) rfl ?_)
 obtain ⟨y1, hy1, h⟩ := bnd1_some h
 refine G_q rfl (zal (m_ref9_Int_ok _ _ hy1) Tryz.func33 (by kernel_rfl) (LEs.cons (AV.le_eq rfl) LEs.nil) ?_)
 refine G_l rfl (op_litI (n := 1) (enc := zad) [y1] (by kernel_rfl) (CellsAll.cons rfl CellsOf.str CellsAll.nil) rfl (by kernel_rfl) (LEss.cons (LEs.cons (AV.le_eq rfl) LEs.nil) LEss.nil) (fun v2 => ?_))
 refine G_q rfl (zac (av := .row 1 zad a2) rfl ?_)
 obtain ⟨n3, h⟩ := need_some h
 refine G_l rfl (op_appT (by kernel_rfl) rfl rfl oc_c_api_Value n3 (fun v4 => ?_))
 refine G_sub rfl (SubU.freezeT (s := 12) rfl len_c_api_Value) ?_
 obtain ⟨y5, hy5, h⟩ := bnd1_some h
 refine G_q rfl (zal (m_ref9_Make_ok _ _ _ hy5) Tryz.func19 (by kernel_rfl) (LEs.cons (AV.le_eq rfl) (LEs.cons (AV.le_eq rfl) LEs.nil)) ?_)
 refine G_q rfl (zab (av := .xs y5) rfl ?_)
 refine G_nil (zaa (k_ret ?_))
 obtain rfl := Option.some.inj h
 refine zaj (endN (af' := (AF.put AF0 (some 6) (.xs y5))) (σ' := []) _ rfl ?_ ⟨rfl, rfl⟩)
 exact Sub.of_le (lq rfl lt0)
set_option maxHeartbeats 4000000 in
theorem m_gen_Choices_Value_F_ok {w0 : Nat} (self_gen_Choices_Value : ((List Int) × Int) → Int → Option ((List UInt8) × ((List Int) × Int))) (hself_gen_Choices_Value : ∀ ⦃w0 : Nat⦄ (a0 : (List Int) × Int) (a1 : Int) (r : (List UInt8) × ((List Int) × Int)), self_gen_Choices_Value a0 a1 = some r → Fun Tryz.prog 9 [(pA w0 0), (.exact (.int .i64 a1))] [boxI 53 w0 [.row 1 c_int a0.1, .exact (.int .i64 a0.2)]] (fun a s => a = .exact (.string (bs r.1)) ∧ s = [boxI 53 w0 [.row 1 c_int r.2.1, .exact (.int .i64 r.2.2)]])) (a0 : (List Int) × Int) (a1 : Int) (r : (List UInt8) × ((List Int) × Int)) (h : m_gen_Choices_Value_F self_gen_Choices_Value a0 a1 = some r) : Fun Tryz.prog 9 [(pA w0 0), (.exact (.int .i64 a1))] [boxI 53 w0 [.row 1 c_int a0.1, .exact (.int .i64 a0.2)]] (fun a s => a = .exact (.string (bs r.1)) ∧ s = [boxI 53 w0 [.row 1 c_int r.2.1, .exact (.int .i64 r.2.2)]]) := by
 unfold m_gen_Choices_Value_F at h
 refine fun_of_awp Tryz.func9 rfl Tryz.ntmps9 (by simp) rfl (res1 rfl) fun E hE => k_end ?_
 refine zae (zag .free hmixP (by kernel_rfl) ?_)
 refine G_q rfl (zab (av := .xs ([] : List UInt8)) rfl ?_)
 refine G_nil (zaa (zae (zag .free hmixP (by kernel_rfl) ?_)))
 refine G_q rfl (zac (av := pA w0 0) rfl ?_)
 obtain ⟨y1, hy1, h⟩ := bnd1_some h
 refine G_l rfl (op_fun_1_0_1 (m_gen_Choices_Next_ok _ _ _ hy1) Tryz.func18 (by kernel_rfl) (LEs.cons (AV.le_eq rfl) (LEs.cons (AV.le_eq rfl) LEs.nil)) ?_)
 refine G_q rfl (zab (av := .xi y1.1) rfl ?_)
 refine G_nil (zaa ?_)
 refine k_join1_0 h (fun (x5_j2 : Int) => (AF.put (AF.put (AF.put AF0 (some 0) (pA w0 0)) (some 1) (.xi a1)) (some 5) (.xi x5_j2))) (fun (x5_j2 : Int) => [boxI 53 w0 [.row 1 c_int y1.2.1, .xi y1.2.2]]) (fun k2 h => ?_) (fun x5_j2 h => ?_)
 ·refine zae (zag .free hmixP (by kernel_rfl) ?_)
  refine G_q rfl (zac (av := .xi a1) rfl ?_)
  refine G_q rfl (op_leq rfl rfl ?_)
  refine G_nil (zaa ?_)
  refine zak (p := a1 ≤ 1) rfl (fun hc => ?_) (fun hc => ?_)
  ·replace h := ite_t h hc
   refine zag .free hmixP (by kernel_rfl) ?_
   refine G_q rfl (zac (av := .xi y1.1) rfl ?_)
   refine G_q rfl (op_rem rfl rfl (by decide) rfl ?_)
   refine G_q rfl (zab (av := .xi (Int.tmod y1.1 3)) rfl ?_)
   refine G_nil ?_
   refine zaf ⟨_, h, ?_⟩
   exact Sub.of_le (lq rfl (lq rfl (lq rfl lt0)))
  ·replace h := ite_f h hc
   refine k_skip ?_
   refine zaf ⟨_, h, ?_⟩
   exact Sub.of_le (lq rfl (lq rfl (lq rfl lt0)))
 ·refine k_join0_0 h ((AF.put AF0 (some 0) (pA w0 0))) ([boxI 53 w0 [.row 1 c_int y1.2.1, .xi y1.2.2]]) (fun k3 h => ?_) (fun  h => ?_)
  ·refine zae (zag .free hmixP (by kernel_rfl) ?_)
   refine G_q rfl (zac (av := .xi x5_j2) rfl ?_)
   refine G_nil (zaa (k_block (zae (zag .free hmixP (by kernel_rfl) ?_))))
   refine G_q rfl (op_eql rfl rfl ?_)
   refine G_q rfl (zab (av := .xb (decide (x5_j2 = 1))) rfl ?_)
   refine G_nil (zaa ?_)
   refine zak (p := x5_j2 = 1) rfl (fun hc => ?_) (fun hc => ?_)
   ·replace h := ite_t h hc
    refine zae (zag .free hmixP (by kernel_rfl) ?_)
    refine G_q rfl (zac (av := pA w0 0) rfl ?_)
    obtain ⟨y45, hy45, h⟩ := bnd1_some h
    refine G_l rfl (op_fun_1_0_1 (m_gen_Choices_Next_ok _ _ _ hy45) Tryz.func18 (by kernel_rfl) (LEs.cons (AV.le_eq rfl) (LEs.cons (AV.le_eq rfl) LEs.nil)) ?_)
    refine G_q rfl (op_eql rfl rfl ?_)
    obtain ⟨y46, hy46, h⟩ := bnd1_some h
    refine G_q rfl (zal (m_ref9_Bool_ok _ _ hy46) Tryz.func25 (by kernel_rfl) (LEs.cons (AV.le_eq rfl) LEs.nil) ?_)
    refine G_q rfl (zab (av := .xs y46) rfl ?_)
    refine G_nil (zaa (k_ret (kB_ret (kI_ret ?_))))
    obtain rfl := Option.some.inj h
    refine zaj (endN (af' := (AF.put AF0 (some 4) (.xs y46))) (σ' := [boxI 53 w0 [.row 1 c_int y45.2.1, .xi y45.2.2]]) _ rfl ?_ ⟨rfl, rfl⟩)
    exact Sub.of_le (lq rfl lt0)
   ·replace h := ite_f h hc
    refine zae (zag .free hmixP (by kernel_rfl) ?_)
    refine G_q rfl (op_eql rfl rfl ?_)
    refine G_q rfl (zab (av := .xb (decide (x5_j2 = 2))) rfl ?_)
    refine G_nil (zaa ?_)
    refine zak (p := x5_j2 = 2) rfl (fun hc => ?_) (fun hc => ?_)
    ·replace h := ite_t h hc
     refine zae (zag .free hmixP (by kernel_rfl) ?_)
     refine G_q rfl (zac (av := pA w0 0) rfl ?_)
     obtain ⟨y47, hy47, h⟩ := bnd1_some h
     refine G_l rfl (op_fun_1_0_1 (m_gen_Choices_Next_ok _ _ _ hy47) Tryz.func18 (by kernel_rfl) (LEs.cons (AV.le_eq rfl) (LEs.cons (AV.le_eq rfl) LEs.nil)) ?_)
     obtain ⟨y48, hy48, h⟩ := bnd1_some h
     refine G_q rfl (zal (m_ref9_Name_ok _ _ hy48) Tryz.func26 (by kernel_rfl) (LEs.cons (AV.le_eq rfl) LEs.nil) ?_)
     refine G_q rfl (zab (av := .xs y48) rfl ?_)
     refine G_nil (zaa (k_ret (kB_ret (kI_ret ?_))))
     obtain rfl := Option.some.inj h
     refine zaj (endN (af' := (AF.put AF0 (some 4) (.xs y48))) (σ' := [boxI 53 w0 [.row 1 c_int y47.2.1, .xi y47.2.2]]) _ rfl ?_ ⟨rfl, rfl⟩)
     exact Sub.of_le (lq rfl lt0)
    ·replace h := ite_f h hc
     refine zae (zag .free hmixP (by kernel_rfl) ?_)
     refine G_q rfl (op_eql rfl rfl ?_)
     refine G_q rfl (zab (av := .xb (decide (x5_j2 = 3))) rfl ?_)
     refine G_nil (zaa ?_)
     refine zak (p := x5_j2 = 3) rfl (fun hc => ?_) (fun hc => ?_)
     ·replace h := ite_t h hc
      refine zae (zag .free hmixP (by kernel_rfl) ?_)
      refine G_q rfl (zac (av := pA w0 0) rfl ?_)
      refine G_q rfl (zac (av := .xi a1) rfl ?_)
      refine G_q rfl (op_sub rfl rfl rfl ?_)
      obtain ⟨y49, hy49, h⟩ := bnd1_some h
      refine G_l rfl (op_fun_1_0_1 (hself_gen_Choices_Value _ _ _ hy49) Tryz.func9 (by kernel_rfl) (LEs.cons (AV.le_eq rfl) (LEs.cons (AV.le_eq rfl) LEs.nil)) ?_)
      refine G_q rfl (zac (av := pA w0 0) rfl ?_)
      refine G_q rfl (zac (av := .xi a1) rfl ?_)
      refine G_q rfl (op_sub rfl rfl rfl ?_)
      obtain ⟨y50, hy50, h⟩ := bnd1_some h
      refine G_l rfl (op_fun_1_0_1 (hself_gen_Choices_Value _ _ _ hy50) Tryz.func9 (by kernel_rfl) (LEs.cons (AV.le_eq rfl) (LEs.cons (AV.le_eq rfl) LEs.nil)) ?_)
      refine G_q rfl (op_litT (n := 1) (enc := zad) [y49.1, y50.1] (CellsAll.cons rfl CellsOf.str (CellsAll.cons rfl CellsOf.str CellsAll.nil)) rfl (by kernel_rfl) (LEss.cons (LEs.cons (AV.le_eq rfl) LEs.nil) (LEss.cons (LEs.cons (AV.le_eq rfl) LEs.nil) LEss.nil)) ?_)
      obtain ⟨y51, hy51, h⟩ := bnd1_some h
      refine G_q rfl (zal (m_ref9_Make_ok _ _ _ hy51) Tryz.func19 (by kernel_rfl) (LEs.cons (AV.le_eq rfl) (LEs.cons (AV.le_eq rfl) LEs.nil)) ?_)
      refine G_q rfl (zab (av := .xs y51) rfl ?_)
      refine G_nil (zaa (k_ret (kB_ret (kI_ret ?_))))
      obtain rfl := Option.some.inj h
      refine zaj (endN (af' := (AF.put AF0 (some 4) (.xs y51))) (σ' := [boxI 53 w0 [.row 1 c_int y50.2.1, .xi y50.2.2]]) _ rfl ?_ ⟨rfl, rfl⟩)
      exact Sub.of_le (lq rfl lt0)
     ·replace h := ite_f h hc
      refine zae (zag .free hmixP (by kernel_rfl) ?_)
      refine G_q rfl (op_eql rfl rfl ?_)
      refine G_q rfl (zab (av := .xb (decide (x5_j2 = 4))) rfl ?_)
      refine G_nil (zaa ?_)
      refine zak (p := x5_j2 = 4) rfl (fun hc => ?_) (fun hc => ?_)
      ·replace h := ite_t h hc
       refine zae (zag .free hmixP (by kernel_rfl) ?_)
       refine G_q rfl (zac (av := pA w0 0) rfl ?_)
       refine G_q rfl (zac (av := .xi a1) rfl ?_)
       refine G_q rfl (op_sub rfl rfl rfl ?_)
       obtain ⟨y52, hy52, h⟩ := bnd1_some h
       refine G_l rfl (op_fun_1_0_1 (m_gen_Choices_Values_ok self_gen_Choices_Value hself_gen_Choices_Value _ _ _ _ hy52) Tryz.func27 (by kernel_rfl) (LEs.cons (AV.le_eq rfl) (LEs.cons (AV.le_eq rfl) (LEs.cons (AV.le_eq rfl) LEs.nil))) ?_)
       obtain ⟨y53, hy53, h⟩ := bnd1_some h
       refine G_q rfl (zal (m_ref9_Make_ok _ _ _ hy53) Tryz.func19 (by kernel_rfl) (LEs.cons (AV.le_eq rfl) (LEs.cons (AV.le_eq rfl) LEs.nil)) ?_)
       refine G_q rfl (zab (av := .xs y53) rfl ?_)
       refine G_nil (zaa (k_ret (kB_ret (kI_ret ?_))))
       obtain rfl := Option.some.inj h
       refine zaj (endN (af' := (AF.put AF0 (some 4) (.xs y53))) (σ' := [boxI 53 w0 [.row 1 c_int y52.2.1, .xi y52.2.2]]) _ rfl ?_ ⟨rfl, rfl⟩)
       exact Sub.of_le (lq rfl lt0)
      ·replace h := ite_f h hc
       refine zae (zag .free hmixP (by kernel_rfl) ?_)
       refine G_q rfl (op_eql rfl rfl ?_)
       refine G_q rfl (zab (av := .xb (decide (x5_j2 = 5))) rfl ?_)
       refine G_nil (zaa ?_)
       refine zak (p := x5_j2 = 5) rfl (fun hc => ?_) (fun hc => ?_)
       ·replace h := ite_t h hc
        refine zae (zag .free hmixP (by kernel_rfl) ?_)
        refine G_q rfl (zac (av := pA w0 0) rfl ?_)
        refine G_q rfl (zac (av := .xi a1) rfl ?_)
        refine G_q rfl (op_sub rfl rfl rfl ?_)
        obtain ⟨y54, hy54, h⟩ := bnd1_some h
        refine G_l rfl (op_fun_1_0_1 (m_gen_Choices_Values_ok self_gen_Choices_Value hself_gen_Choices_Value _ _ _ _ hy54) Tryz.func27 (by kernel_rfl) (LEs.cons (AV.le_eq rfl) (LEs.cons (AV.le_eq rfl) (LEs.cons (AV.le_eq rfl) LEs.nil))) ?_)
        obtain ⟨y55, hy55, h⟩ := bnd1_some h
        refine G_q rfl (zal (m_ref9_Set_ok _ _ hy55) Tryz.func28 (by kernel_rfl) (LEs.cons (AV.le_eq rfl) LEs.nil) ?_)
        refine G_q rfl (zab (av := .xs y55) rfl ?_)
        refine G_nil (zaa (k_ret (kB_ret (kI_ret ?_))))
        obtain rfl := Option.some.inj h
        refine zaj (endN (af' := (AF.put AF0 (some 4) (.xs y55))) (σ' := [boxI 53 w0 [.row 1 c_int y54.2.1, .xi y54.2.2]]) _ rfl ?_ ⟨rfl, rfl⟩)
        exact Sub.of_le (lq rfl lt0)
       ·replace h := ite_f h hc
        refine zae (zag .free hmixP (by kernel_rfl) ?_)
        refine G_q rfl (op_eql rfl rfl ?_)
        refine G_q rfl (zab (av := .xb (decide (x5_j2 = 6))) rfl ?_)
        refine G_nil (zaa ?_)
        refine zak (p := x5_j2 = 6) rfl (fun hc => ?_) (fun hc => ?_)
        ·replace h := ite_t h hc
         refine zae (zag .free hmixP (by kernel_rfl) ?_)
         refine G_q rfl (zac (av := pA w0 0) rfl ?_)
         obtain ⟨y56, hy56, h⟩ := bnd1_some h
         refine G_l rfl (op_fun_1_0_1 (m_gen_Choices_Next_ok _ _ _ hy56) Tryz.func18 (by kernel_rfl) (LEs.cons (AV.le_eq rfl) (LEs.cons (AV.le_eq rfl) LEs.nil)) ?_)
         refine G_q rfl (zac (av := pA w0 0) rfl ?_)
         refine G_q rfl (zac (av := .xi a1) rfl ?_)
         refine G_q rfl (op_sub rfl rfl rfl ?_)
         obtain ⟨y57, hy57, h⟩ := bnd1_some h
         refine G_l rfl (op_fun_1_0_1 (m_gen_Choices_Values_ok self_gen_Choices_Value hself_gen_Choices_Value _ _ _ _ hy57) Tryz.func27 (by kernel_rfl) (LEs.cons (AV.le_eq rfl) (LEs.cons (AV.le_eq rfl) (LEs.cons (AV.le_eq rfl) LEs.nil))) ?_)
         obtain ⟨y58, hy58, h⟩ := bnd1_some h
         refine G_q rfl (zal (m_ref9_Dot_ok _ _ _ hy58) Tryz.func29 (by kernel_rfl) (LEs.cons (AV.le_eq rfl) (LEs.cons (AV.le_eq rfl) LEs.nil)) ?_)
         refine G_q rfl (zab (av := .xs y58) rfl ?_)
         refine G_nil (zaa (k_ret (kB_ret (kI_ret ?_))))
         obtain rfl := Option.some.inj h
         refine zaj (endN (af' := (AF.put AF0 (some 4) (.xs y58))) (σ' := [boxI 53 w0 [.row 1 c_int y57.2.1, .xi y57.2.2]]) _ rfl ?_ ⟨rfl, rfl⟩)
         exact Sub.of_le (lq rfl lt0)
        ·replace h := ite_f h hc
         refine zae (zag .free hmixP (by kernel_rfl) ?_)
         refine G_q rfl (op_eql rfl rfl ?_)
         refine G_q rfl (zab (av := .xb (decide (x5_j2 = 7))) rfl ?_)
         refine G_nil (zaa ?_)
         refine zak (p := x5_j2 = 7) rfl (fun hc => ?_) (fun hc => ?_)
         ·replace h := ite_t h hc
          refine zae (zag .free hmixP (by kernel_rfl) ?_)
          refine G_q rfl (zac (av := pA w0 0) rfl ?_)
          refine G_q rfl (zac (av := .xi a1) rfl ?_)
          refine G_q rfl (op_sub rfl rfl rfl ?_)
          obtain ⟨y59, hy59, h⟩ := bnd1_some h
          refine G_l rfl (op_fun_1_0_1 (m_gen_Choices_Values_ok self_gen_Choices_Value hself_gen_Choices_Value _ _ _ _ hy59) Tryz.func27 (by kernel_rfl) (LEs.cons (AV.le_eq rfl) (LEs.cons (AV.le_eq rfl) (LEs.cons (AV.le_eq rfl) LEs.nil))) ?_)
          obtain ⟨y60, hy60, h⟩ := bnd1_some h
          refine G_q rfl (zal (m_ref9_Sort_ok _ _ hy60) Tryz.func30 (by kernel_rfl) (LEs.cons (AV.le_eq rfl) LEs.nil) ?_)
          refine G_q rfl (zab (av := .row 1 zad y60) rfl ?_)
          refine G_nil (zaa (zae (zag .free hmixP (by kernel_rfl) ?_)))
          refine G_q rfl (zab (av := .exact (.slice none 0 0)) rfl ?_)
          refine G_nil (zaa ?_)
          refine k_join3_1 h (fun (x0_0_j61 : List Int) (x0_1_j61 : Int) (x7_j61 : List (List UInt8)) (v7_j61 : Value) => (AF.put (AF.put (AF.put AF0 (some 0) (pA w0 0)) (some 6) (.row 1 zad y60)) (some 7) (.exact v7_j61))) (fun (x0_0_j61 : List Int) (x0_1_j61 : Int) (x7_j61 : List (List UInt8)) (v7_j61 : Value) => [boxI 53 w0 [.row 1 c_int x0_0_j61, .xi x0_1_j61], vecT Tryz.prog 27 1 zad v7_j61 x7_j61]) (fun k61 h => ?_) (fun x0_0_j61 x0_1_j61 x7_j61 v7_j61 h => ?_)
          ·refine zae (zag .free hmixP (by kernel_rfl) ?_)
           refine G_q rfl (zab (av := .xi 0) rfl ?_)
           refine G_nil (zaa (k_block ?_))
           refine k_loop4_1 (m_gen_Choices_Value_L4 self_gen_Choices_Value a1 y60 k61) (m_gen_Choices_Value_B4 self_gen_Choices_Value a1 y60 k61) (fun _ _ _ _ => rfl) (fun m _ _ _ _ => rfl) h (fun (x0_0_l4 : List Int) (x0_1_l4 : Int) (x7_l4 : List (List UInt8)) (x8_l4 : Int) (v7_l4 : Value) => (AF.put (AF.put (AF.put (AF.put (AF.put AF0 (some 0) (pA w0 0)) (some 1) (.xi a1)) (some 6) (.row 1 zad y60)) (some 7) (.exact v7_l4)) (some 8) (.xi x8_l4))) (fun (x0_0_l4 : List Int) (x0_1_l4 : Int) (x7_l4 : List (List UInt8)) (x8_l4 : Int) (v7_l4 : Value) => [boxI 53 w0 [.row 1 c_int x0_0_l4, .xi x0_1_l4], vecT Tryz.prog 27 1 zad v7_l4 x7_l4]) (.slice none 0 0) ?_ (fun rec4 x0_0_l4 x0_1_l4 x7_l4 x8_l4 v7_l4 h => ?_)
           ·refine Sub.trans (SubU.to (SubU.nilT (P := Tryz.prog) (t := 27) (n := 1) (enc := zad))) ?_
            refine Sub.trans (SubU.to SubU.f1) ?_
            exact Sub.of_le (lq rfl (lq rfl (lq rfl (lq rfl (lq rfl lt0)))))
           ·unfold m_gen_Choices_Value_B4 at h
            refine zae (zae (zag .free hmixP (by kernel_rfl) ?_))
            refine G_q rfl (zac (av := .xi x8_l4) rfl ?_)
            refine G_q rfl (zac (av := .row 1 zad y60) rfl ?_)
            refine G_q rfl (op_len_row (by kernel_rfl) rfl ?_)
            refine G_q rfl (op_lss rfl rfl ?_)
            refine G_nil (zaa ?_)
            refine zak (p := x8_l4 < (List.length y60 : Int)) rfl (fun hc => ?_) (fun hc => ?_)
            ·replace h := ite_t h hc
             refine k_skip (zaa (zae (k_block (zag .free hmixP (by kernel_rfl) ?_))))
             refine G_q rfl (zac (av := .exact v7_l4) rfl ?_)
             refine G_q rfl (zac (av := pA w0 0) rfl ?_)
             refine G_q rfl (zac (av := .xi a1) rfl ?_)
             refine G_q rfl (op_sub rfl rfl rfl ?_)
             obtain ⟨y78, hy78, h⟩ := bnd1_some h
             refine G_l rfl (op_fun_1_0_1 (hself_gen_Choices_Value _ _ _ hy78) Tryz.func9 (by kernel_rfl) (LEs.cons (AV.le_eq rfl) (LEs.cons (AV.le_eq rfl) LEs.nil)) ?_)
             refine G_q rfl (op_litT (n := 1) (enc := zad) [y78.1] (CellsAll.cons rfl CellsOf.str CellsAll.nil) rfl (by kernel_rfl) (LEss.cons (LEs.cons (AV.le_eq rfl) LEs.nil) LEss.nil) ?_)
             obtain ⟨n79, h⟩ := need_some h
             refine G_l rfl (opB_f1 (op_appT (by kernel_rfl) rfl rfl oc_c_api_Value n79 (fun v80 => ?_)))
             refine G_q rfl (zab (av := .exact v80) rfl ?_)
             refine G_nil (kB_normal (zaa (zag .free hmixP (by kernel_rfl) ?_)))
             refine G_q rfl (zac (av := .xi x8_l4) rfl ?_)
             refine G_q rfl (op_add rfl rfl rfl ?_)
             refine G_q rfl (zab (av := .xi (i64 (x8_l4 + 1))) rfl ?_)
             refine G_nil ?_
             refine zaf ⟨_, _, _, _, v80, h, ?_⟩
             refine Sub.trans (SubU.to SubU.f1) ?_
             exact Sub.of_le (lq rfl (lq rfl (lq rfl (lq rfl (lq rfl lt0)))))
            ·replace h := ite_f h hc
             refine k_exit (kC_exit (kI_exit (kB_exit ?_)))
             refine zaf ⟨_, _, _, v7_l4, h, ?_⟩
             exact Sub.of_le (lq rfl (lq rfl (lq rfl lt0)))
          ·refine zae (zag .free hmixP (by kernel_rfl) ?_)
           refine G_q rfl (zac (av := .row 1 zad y60) rfl ?_)
           refine G_q rfl (zac (av := .exact v7_j61) rfl ?_)
           refine G_sub rfl (SubU.trans SubU.f1 (SubU.freezeT2 (s1 := 7) (s2 := 83) rfl rfl len_c_api_Value)) ?_
           obtain ⟨y81, hy81, h⟩ := bnd1_some h
           refine G_q rfl (zal (m_ref9_Map_ok _ _ _ hy81) Tryz.func31 (by kernel_rfl) (LEs.cons (AV.le_eq rfl) (LEs.cons (AV.le_eq rfl) LEs.nil)) ?_)
           refine G_q rfl (zab (av := .xs y81) rfl ?_)
           refine G_nil (zaa (k_ret (kB_ret (kI_ret ?_))))
           obtain rfl := Option.some.inj h
           refine zaj (endN (af' := (AF.put AF0 (some 4) (.xs y81))) (σ' := [boxI 53 w0 [.row 1 c_int x0_0_j61, .xi x0_1_j61]]) _ rfl ?_ ⟨rfl, rfl⟩)
           exact Sub.of_le (lq rfl lt0)
         ·replace h := ite_f h hc
          refine zae (zag .free hmixP (by kernel_rfl) ?_)
          refine G_q rfl (op_eql rfl rfl ?_)
          refine G_q rfl (zab (av := .xb (decide (x5_j2 = 8))) rfl ?_)
          refine G_nil (zaa ?_)
          refine zak (p := x5_j2 = 8) rfl (fun hc => ?_) (fun hc => ?_)
          ·replace h := ite_t h hc
           refine zae (zag .free hmixP (by kernel_rfl) ?_)
           refine G_q rfl (zac (av := pA w0 0) rfl ?_)
           obtain ⟨y82, hy82, h⟩ := bnd1_some h
           refine G_l rfl (op_fun_1_0_1 (m_gen_Choices_Next_ok _ _ _ hy82) Tryz.func18 (by kernel_rfl) (LEs.cons (AV.le_eq rfl) (LEs.cons (AV.le_eq rfl) LEs.nil)) ?_)
           refine G_q rfl (zac (av := pA w0 0) rfl ?_)
           refine G_q rfl (zac (av := .xi a1) rfl ?_)
           refine G_q rfl (op_sub rfl rfl rfl ?_)
           obtain ⟨y83, hy83, h⟩ := bnd1_some h
           refine G_l rfl (op_fun_1_0_1 (m_gen_Choices_Values_ok self_gen_Choices_Value hself_gen_Choices_Value _ _ _ _ hy83) Tryz.func27 (by kernel_rfl) (LEs.cons (AV.le_eq rfl) (LEs.cons (AV.le_eq rfl) (LEs.cons (AV.le_eq rfl) LEs.nil))) ?_)
           obtain ⟨y84, hy84, h⟩ := bnd1_some h
           refine G_q rfl (zal (m_ref9_Numbered_ok _ _ _ _ hy84) Tryz.func32 (by kernel_rfl) (LEs.cons (AV.le_eq rfl) (LEs.cons (AV.le_eq rfl) (LEs.cons (AV.le_eq rfl) LEs.nil))) ?_)
           refine G_q rfl (zab (av := .xs y84) rfl ?_)
           refine G_nil (zaa (k_ret (kB_ret (kI_ret ?_))))
           obtain rfl := Option.some.inj h
           refine zaj (endN (af' := (AF.put AF0 (some 4) (.xs y84))) (σ' := [boxI 53 w0 [.row 1 c_int y83.2.1, .xi y83.2.2]]) _ rfl ?_ ⟨rfl, rfl⟩)
           exact Sub.of_le (lq rfl lt0)
          ·replace h := ite_f h hc
           refine k_skip (kB_normal ?_)
           refine zaf ⟨h, ?_⟩
           exact Sub.of_le (lq rfl lt0)
  ·refine zae (zag .free hmixP (by kernel_rfl) ?_)
   refine G_q rfl (zac (av := pA w0 0) rfl ?_)
   obtain ⟨y85, hy85, h⟩ := bnd1_some h
   refine G_l rfl (op_fun_1_0_1 (m_gen_Choices_Number_ok _ _ hy85) Tryz.func24 (by kernel_rfl) (LEs.cons (AV.le_eq rfl) LEs.nil) ?_)
   obtain ⟨y86, hy86, h⟩ := bnd1_some h
   refine G_q rfl (zal (m_ref9_Int_ok _ _ hy86) Tryz.func33 (by kernel_rfl) (LEs.cons (AV.le_eq rfl) LEs.nil) ?_)
   refine G_q rfl (zab (av := .xs y86) rfl ?_)
   refine G_nil (zaa (k_ret ?_))
   obtain rfl := Option.some.inj h
   refine zaj (endN (af' := (AF.put AF0 (some 4) (.xs y86))) (σ' := [boxI 53 w0 [.row 1 c_int y85.2.1, .xi y85.2.2]]) _ rfl ?_ ⟨rfl, rfl⟩)
   exact Sub.of_le (lq rfl lt0)
set_option maxHeartbeats 4000000 in
theorem m_gen_Choices_Value_S_ok : ∀ n : Nat, (∀ ⦃w0 : Nat⦄ (a0 : (List Int) × Int) (a1 : Int) (r : (List UInt8) × ((List Int) × Int)), m_gen_Choices_Value_S n a0 a1 = some r → Fun Tryz.prog 9 [(pA w0 0), (.exact (.int .i64 a1))] [boxI 53 w0 [.row 1 c_int a0.1, .exact (.int .i64 a0.2)]] (fun a s => a = .exact (.string (bs r.1)) ∧ s = [boxI 53 w0 [.row 1 c_int r.2.1, .exact (.int .i64 r.2.2)]]))
  | 0 => (fun _ _ _ _ h => by have h' : (none : Option _) = some _ := h; cases h')
  | n + 1 => by
    have ih := m_gen_Choices_Value_S_ok n
    exact fun w0 a0 a1 r h => m_gen_Choices_Value_F_ok (m_gen_Choices_Value_S n) ih a0 a1 r h
theorem m_gen_Choices_Value_ok {w0 : Nat} (a0 : (List Int) × Int) (a1 : Int) (r : (List UInt8) × ((List Int) × Int)) (h : m_gen_Choices_Value a0 a1 = some r) : Fun Tryz.prog 9 [(pA w0 0), (.exact (.int .i64 a1))] [boxI 53 w0 [.row 1 c_int a0.1, .exact (.int .i64 a0.2)]] (fun a s => a = .exact (.string (bs r.1)) ∧ s = [boxI 53 w0 [.row 1 c_int r.2.1, .exact (.int .i64 r.2.2)]]) := (m_gen_Choices_Value_S_ok FU) a0 a1 r h
set_option maxHeartbeats 4000000 in
theorem m_pattern_node_rest_ok (a0 : Nd) (r : Nd) (h : m_pattern_node_rest a0 = some r) : Pure Tryz.prog 95 [(ndA a0)] (ndA r) := by
 unfold m_pattern_node_rest at h
 refine Pure.ofFun (fun_of_awp Tryz.func95 rfl Tryz.ntmps95 (by simp) rfl (res1 rfl) fun E hE => k_end ?_)
 refine zae (zag .free hmixP (by kernel_rfl) ?_)
 refine G_q rfl (zab (av := .exact (.pointer none)) rfl ?_)
 refine G_nil (zaa (zae ?_))
 refine k_plan [] [(0, 0), (0, 1), (0, 2), (0, 3), (0, 4), (0, 5), (0, 6), (0, 7), (0, 8), (0, 9), (0, 10)] hmixP (by kernel_rfl) ?_
 refine P_q no34_0 rfl (zac (av := ndA a0) rfl ?_)
 obtain ⟨y1, hy1, h⟩ := bnd1_some h
 refine P_q no34_0 rfl (zap (c := zah y1) (ndA_un hy1) ?_)
 refine P_q no34_0 rfl (zam (o := 2) (c' := (List.drop 2 (zah y1))) (by kernel_rfl) rfl rfl ?_)
 refine P_q no34_0 rfl (zaq (a := .row 1 c_P_pattern_node y1.2.2) (by kernel_rfl) rfl rfl ?_)
 refine P_q no34_0 rfl (zac (av := ndA a0) rfl ?_)
 obtain ⟨y2, hy2, h⟩ := bnd1_some h
 refine P_q no34_0 rfl (zap (c := zah y2) (ndA_un hy2) ?_)
 refine P_q no34_0 rfl (zam (o := 1) (c' := (List.drop 1 (zah y2))) (by kernel_rfl) rfl rfl ?_)
 refine P_q no34_0 rfl (zaq (a := .xi y2.2.1) (by kernel_rfl) rfl rfl ?_)
 obtain ⟨n3, h⟩ := need_some h
 refine P_q no34_0 rfl (op_index_row (by kernel_rfl) rfl rfl n3.1 n3.2 ?_)
 refine P_q no34_0 rfl (zaq (a := ndA (gi y1.2.2 y2.2.1)) (by kernel_rfl) rfl rfl ?_)
 refine P_q no34_0 rfl (zab (av := ndA (gi y1.2.2 y2.2.1)) rfl ?_)
 refine P_nil (zaa (k_ret ?_))
 obtain rfl := Option.some.inj h
 refine zaj (endN (af' := (AF.put AF0 (some 2) (ndA (gi y1.2.2 y2.2.1)))) (σ' := []) _ rfl ?_ ⟨rfl, rfl⟩)
 exact Sub.of_le (lq rfl lt0)
end Go.Proofs.YtpfdeahcjlfijaaGreat
