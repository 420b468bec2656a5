/- Types and their cells, by program. -/
import Derived.Test.YtpfdeahcjlfijaaGreatQB4
import Derived.Test.YtpfdeahcjlfijaaGreatQB1
namespace Go.Proofs.YtpfdeahcjlfijaaGreat
open Go.RowKit
abbrev c_int (x : Int) : List AV := [.exact (.int .i64 x)]
theorem len_c_int (x : Int) : (c_int x).length = 1 := rfl
theorem oc_c_int (x : Int) : OneC (c_int x) := (OneC.int OneC.nil)
abbrev c_cspcheckgen_Choices (x : (List Int) × Int) : List AV := [.row 1 c_int x.1, .exact (.int .i64 x.2)]
abbrev zae (x : Int × Int × Int) : List AV := [.exact (.int .i64 x.1), .exact (.int .i64 x.2.1), .exact (.int .i64 x.2.2)]
theorem len_c_api_Code (x : Int × Int × Int) : (zae x).length = 3 := rfl
theorem oc_c_api_Code (x : Int × Int × Int) : OneC (zae x) := (OneC.int (OneC.int (OneC.int OneC.nil)))
abbrev c_L_api_Code (x : List (Int × Int × Int)) : List AV := [.row 3 zae x]
theorem len_c_L_api_Code (x : List (Int × Int × Int)) : (c_L_api_Code x).length = 1 := rfl
theorem oc_c_L_api_Code (x : List (Int × Int × Int)) : OneC (c_L_api_Code x) := (OneC.row OneC.nil)
abbrev c_uint8 (x : UInt8) : List AV := [.exact (.int .u8 (UInt8.toNat x : Int))]
theorem len_c_uint8 (x : UInt8) : (c_uint8 x).length = 1 := rfl
theorem oc_c_uint8 (x : UInt8) : OneC (c_uint8 x) := (OneC.int OneC.nil)
abbrev zab (x : List UInt8) : List AV := [.exact (.string (bs x))]
theorem len_c_api_Value (x : List UInt8) : (zab x).length = 1 := rfl
theorem oc_c_api_Value (x : List UInt8) : OneC (zab x) := (OneC.str OneC.nil)
abbrev c_P_pattern_node (x : Nd) : List AV := [ndA x]
theorem len_c_P_pattern_node (x : Nd) : (c_P_pattern_node x).length = 1 := rfl
theorem oc_c_P_pattern_node (x : Nd) : OneC (c_P_pattern_node x) := (OneC.tree OneC.nil)
abbrev zag (x : Int × Int × (List Nd)) : List AV := [.exact (.int .i64 x.1), .exact (.int .i64 x.2.1), .row 1 c_P_pattern_node x.2.2]
abbrev c_L_api_Value (x : List (List UInt8)) : List AV := [.row 1 zab x]
end Go.Proofs.YtpfdeahcjlfijaaGreat
/- The sorts' contracts, laid by program. -/
namespace Go.Proofs.YtpfdeahcjlfijaaGreat
open Go.RowKit Go.Sort
set_option maxRecDepth 100000
def lay0_ren : Go.Shelf.Ren := ⟨fun | 6 => 101 | 14 => 109 | 15 => 110 | 20 => 115 | 21 => 116 | 22 => 117 | 23 => 118 | 24 => 119 | 25 => 120 | 26 => 121 | 27 => 122 | 28 => 123 | 29 => 124 | 46 => 129 | 47 => 130 | 48 => 131 | 49 => 132 | 50 => 133 | 57 => 136 | n => n, fun | 0 => 0 | 3 => 3 | 4 => 4 | 5 => 5 | 9 => 9 | 22 => 27 | 24 => 30 | 25 => 83 | 39 => 79 | 45 => 123 | 46 => 124 | 50 => 128 | 53 => 131 | 55 => 102 | 66 => 136 | 70 => 140 | 76 => 144 | 77 => 145 | n => n, fun n => n⟩
theorem lay0 : Go.Proofs.SlLaysF.n6 Tryz.prog lay0_ren where
  mixed := by kernel_rfl
  f6 := ⟨Tryz.f101.name, by kernel_rfl, Tryz.func101.trans (congrArg some (by kernel_rfl))⟩
  f14 := ⟨Tryz.f109.name, by kernel_rfl, Tryz.func109.trans (congrArg some (by kernel_rfl))⟩
  f15 := Tryz.func110.trans (congrArg some (by kernel_rfl))
  f20 := ⟨Tryz.f115.name, by kernel_rfl, Tryz.func115.trans (congrArg some (by kernel_rfl))⟩
  f21 := ⟨Tryz.f116.name, by kernel_rfl, Tryz.func116.trans (congrArg some (by kernel_rfl))⟩
  f22 := ⟨Tryz.f117.name, by kernel_rfl, Tryz.func117.trans (congrArg some (by kernel_rfl))⟩
  f23 := ⟨Tryz.f118.name, by kernel_rfl, Tryz.func118.trans (congrArg some (by kernel_rfl))⟩
  f24 := ⟨Tryz.f119.name, by kernel_rfl, Tryz.func119.trans (congrArg some (by kernel_rfl))⟩
  f25 := ⟨Tryz.f120.name, by kernel_rfl, Tryz.func120.trans (congrArg some (by kernel_rfl))⟩
  f26 := ⟨Tryz.f121.name, by kernel_rfl, Tryz.func121.trans (congrArg some (by kernel_rfl))⟩
  f27 := ⟨Tryz.f122.name, by kernel_rfl, Tryz.func122.trans (congrArg some (by kernel_rfl))⟩
  f28 := Tryz.func123.trans (congrArg some (by kernel_rfl))
  f29 := Tryz.func124.trans (congrArg some (by kernel_rfl))
  f46 := ⟨Tryz.f129.name, by kernel_rfl, Tryz.func129.trans (congrArg some (by kernel_rfl))⟩
  f47 := Tryz.func130.trans (congrArg some (by kernel_rfl))
  f48 := Tryz.func131.trans (congrArg some (by kernel_rfl))
  f49 := ⟨Tryz.f132.name, by kernel_rfl, Tryz.func132.trans (congrArg some (by kernel_rfl))⟩
  f50 := ⟨Tryz.f133.name, by kernel_rfl, Tryz.func133.trans (congrArg some (by kernel_rfl))⟩
  f57 := ⟨Tryz.f136.name, by kernel_rfl, Tryz.func136.trans (congrArg some (by kernel_rfl))⟩
  t0 := Tryz.underlying0
  a0 := Tryz.isAgg0
  z0 := Tryz.sizeOf0
  v0 := Tryz.zeroValue0
  t3 := Tryz.underlying3
  a3 := Tryz.isAgg3
  z3 := Tryz.sizeOf3
  v3 := Tryz.zeroValue3
  t4 := Tryz.underlying4
  a4 := Tryz.isAgg4
  z4 := Tryz.sizeOf4
  v4 := Tryz.zeroValue4
  t5 := Tryz.underlying5
  a5 := Tryz.isAgg5
  z5 := Tryz.sizeOf5
  v5 := Tryz.zeroValue5
  t9 := Tryz.underlying9
  a9 := Tryz.isAgg9
  z9 := Tryz.sizeOf9
  v9 := Tryz.zeroValue9
  t22 := Tryz.underlying27
  a22 := Tryz.isAgg27
  z22 := Tryz.sizeOf27
  v22 := Tryz.zeroValue27
  a24 := Tryz.isAgg30
  z24 := Tryz.sizeOf30
  t25 := Tryz.underlying83
  a25 := Tryz.isAgg83
  z25 := Tryz.sizeOf83
  v25 := Tryz.zeroValue83
  t39 := Tryz.underlying79
  a39 := Tryz.isAgg79
  z39 := Tryz.sizeOf79
  v39 := Tryz.zeroValue79
  t45 := Tryz.underlying123
  a45 := Tryz.isAgg123
  z45 := Tryz.sizeOf123
  v45 := Tryz.zeroValue123
  t46 := Tryz.underlying124
  a46 := Tryz.isAgg124
  z46 := Tryz.sizeOf124
  v46 := Tryz.zeroValue124
  t50 := Tryz.underlying128
  a50 := Tryz.isAgg128
  z50 := Tryz.sizeOf128
  v50 := Tryz.zeroValue128
  t53 := Tryz.underlying131
  a53 := Tryz.isAgg131
  z53 := Tryz.sizeOf131
  v53 := Tryz.zeroValue131
  t55 := Tryz.underlying102
  a55 := Tryz.isAgg102
  z55 := Tryz.sizeOf102
  v55 := Tryz.zeroValue102
  t66 := Tryz.underlying136
  a66 := Tryz.isAgg136
  z66 := Tryz.sizeOf136
  v66 := Tryz.zeroValue136
  t70 := Tryz.underlying140
  a70 := Tryz.isAgg140
  z70 := Tryz.sizeOf140
  v70 := Tryz.zeroValue140
  t76 := Tryz.underlying144
  a76 := Tryz.isAgg144
  z76 := Tryz.sizeOf144
  v76 := Tryz.zeroValue144
  t77 := Tryz.underlying145
  a77 := Tryz.isAgg145
  z77 := Tryz.sizeOf145
  v77 := Tryz.zeroValue145
theorem m_sort_api_Value_ok (hc : ∀ (x y : List UInt8) (r : Int), m_value_Compare x y = some r → Pure Tryz.prog 102 [(.exact (.string (bs x))), (.exact (.string (bs y)))] (.exact (.int .i64 r))) {w0 : Value} (a0 r : List (List UInt8)) (h : m_sortby m_value_Compare a0 = some r) : Fun Tryz.prog 101 [.exact w0, .exact (.func (.func 102) #[] #[])] [vecT Tryz.prog 27 1 zab w0 a0] (fun a s => a = .tup [] ∧ s = [vecT Tryz.prog 27 1 zab w0 r]) :=
  m_sortby1_ok (e := fun x : List UInt8 => (.string (bs x))) lay0 { lay0 with } (fun _ => rfl) (fun _ => rfl) 102 (fun args w => by exact enters_of Tryz.func102 (by kernel_rfl) rfl args w) 27 hc a0 r h
end Go.Proofs.YtpfdeahcjlfijaaGreat
/- The functions compute their models, by program. -/
namespace Go.Proofs.YtpfdeahcjlfijaaGreat
open Go.RowKit
attribute [local irreducible] AV.exact AV.top AV.row AV.ptr AV.agg AV.tup AV.eptr AV.fn AV.nilq AV.nilqn opA opB opM opR Quiet Loud Reads wpG awp den Sub SubU Pure Fun vecI vecT boxI CellsAll CellsOf OneC LEs LEss
set_option maxRecDepth 100000

section
variable {P : Program} {ops : Array Oper} {E : Env} {n : Nat} {af : AF} {σ : Items} {K : AF → Items → Prop} {rest : List Oper} {dst : Option Tmp} {ty0 : TypeId} {pos0 : String} {after0 : Array Edge} {ks : List KFr}
abbrev AV.xi (n : Int) : AV := .exact (.int .i64 n)
abbrev AV.xb (b : Bool) : AV := .exact (.bool b)
abbrev AV.xs (s : List UInt8) : AV := .exact (.string (bs s))
abbrev pt (x : AF) (k : Nat) (a : AV) : AF := AF.put x (some k) a
theorem lq {x y : AF} {d : Nat} {av : AV} (h1 : x d = av) (h2 : AF.le x y) : AF.le x (y.put (some d) av) := AF.le_put (AV.le_eq h1) h2
theorem l4 {x y : AF} {d1 d2 d3 d4 : Nat} {a1 a2 a3 a4 : AV} (h1 : x d1 = a1) (h2 : x d2 = a2) (h3 : x d3 = a3) (h4 : x d4 = a4) (h : AF.le x y) : AF.le x ((((y.put (some d4) a4).put (some d3) a3).put (some d2) a2).put (some d1) a1) := lq h1 (lq h2 (lq h3 (lq h4 h)))
theorem lt0 {x : AF} : AF.le x (fun _ => .top) := AF.le_top x
theorem so {af' : AF} (h : AF.le af af') : Sub E n af σ af' σ := Sub.of_le h
theorem qm {x : Operand} (av : AV) (h : af.ev x = av) (hk : wpG .free P ops K rest (af.put dst av) σ) : wpG .free P ops K (⟨dst, .move x, ty0, pos0, after0, none⟩ :: rest) af σ := G_q rfl (zaf h hk)
theorem qa {x : Operand} (av : AV) (h : af.ev x = av) (hk : wpG .free P ops K rest (af.put dst av) σ) : wpG .free P ops K (⟨dst, .assign x, ty0, pos0, after0, none⟩ :: rest) af σ := G_q rfl (op_assign h hk)
theorem kd {c : Operand} {x y : Code} {p : Prop} [Decidable p] {ρ : Type} {a b : Option ρ} {r : ρ} (hc : af.ev c = .exact (.bool (decide p))) (h : (if p then a else b) = some r) (ht : p → a = some r → awp P E n x (den P E n ks) af σ) (hf : ¬ p → b = some r → awp P E n y (den P E n ks) af σ) : awp P E n (.cond c x y) (den P E n ks) af σ := k_cond_d hc (fun hp => ht hp (ite_t h hp)) (fun hp => hf hp (ite_f h hp))
theorem kb {c : Operand} {x y : Code} {p : Bool} {ρ : Type} {a b : Option ρ} {r : ρ} (hc : af.ev c = .exact (.bool p)) (h : (if p = true then a else b) = some r) (ht : p = true → a = some r → awp P E n x (den P E n ks) af σ) (hf : ¬ p = true → b = some r → awp P E n y (den P E n ks) af σ) : awp P E n (.cond c x y) (den P E n ks) af σ := k_cond_b hc (fun hp => ht hp (ite_t h hp)) (fun hp => hf hp (ite_f h hp))
theorem ke {fn : Func} {post : AV → Items → Prop} (af' : AF) (σ' : Items) {rs : List ResultVar} (hr : fn.results.toList = rs) (h : Sub E n af σ af' σ') (hp : post (resA rs af') σ') : den P E n (kP (EndA fn E n post) :: ks) .ret af σ := kP_any (endN rs hr h hp)
theorem kr {id : Nat} {l : List Oper} {draw : Bool} (h : wpG .free P l.toArray (den P E n ks .normal) l af σ) (hm : P.follows .mixedOrders = true := by exact hmixP) (hB : regB .free l n draw = true := by kernel_rfl) : awp P E n (.region id l.toArray draw) (den P E n ks) af σ := k_reg .free hm hB h
end

set_option maxHeartbeats 4000000 in
theorem m_gen_New_ok (a0 : List Int) (r : ((List Int) × Int)) (h : m_gen_New a0 = some r) : Fun Tryz.prog 7 [(.row 1 c_int a0)] [] (fun a s => ∃ z0, a = pA z0 0 ∧ s = [boxI 53 z0 [.row 1 c_int r.1, .exact (.int .i64 r.2)]]) := by
 unfold m_gen_New at h
 refine fun_of_awp Tryz.func7 rfl Tryz.ntmps7 (by simp) rfl (res1 rfl) fun E hE => k_end ?_
 refine zad (kr ?_)
 refine qa (.exact (.pointer none)) rfl ?_
 refine G_nil (zaa (zad (kr ?_)))
 refine qm (.row 1 c_int a0) rfl ?_
 refine G_q rfl (op_bld (c' := c_cspcheckgen_Choices (a0, 0)) (CellsAll.cons rfl CellsOf.row CellsAll.nil) rfl (LEs.cons (AV.le_eq rfl) (LEs.cons (AV.le_eq rfl) LEs.nil)) ?_)
 refine G_l rfl (op_boxI (c := [.row 1 c_int ((a0, 0).1), .xi ((a0, 0).2)]) rfl CellsOf.agg (LEs.cons (AV.le_eq rfl) (LEs.cons (AV.le_eq rfl) LEs.nil)) (fun b1 => ?_))
 refine qa (pA b1 0) rfl ?_
 refine G_nil (zaa (k_ret ?_))
 obtain rfl := Option.some.inj h
 refine ke (pt AF0 2 (pA b1 0)) [boxI 53 b1 [.row 1 c_int ((a0, 0).1), .xi ((a0, 0).2)]] rfl ?_ ⟨b1, rfl, rfl⟩
 exact so (lq rfl lt0)
set_option maxHeartbeats 4000000 in
theorem m_help_Mod_ok (a0 : Int) (a1 : Int) (r : Int) (h : m_help_Mod a0 a1 = some r) : Pure Tryz.prog 22 [(.exact (.int .i64 a0)), (.exact (.int .i64 a1))] (.exact (.int .i64 r)) := by
 unfold m_help_Mod at h
 refine Pure.ofFun (fun_of_awp Tryz.func22 rfl Tryz.ntmps22 (by simp) rfl (res1 rfl) fun E hE => k_end ?_)
 refine zad (kr ?_)
 refine qa (.xi 0) rfl ?_
 refine G_nil (zaa (zad (kr ?_)))
 refine qm (.xi a0) rfl ?_
 refine G_q rfl (op_convInt (k := .u64) (by kernel_rfl) rfl rfl ?_)
 refine qm (.xi a1) rfl ?_
 refine G_q rfl (op_convInt (k := .u64) (by kernel_rfl) rfl rfl ?_)
 obtain ⟨n1, h⟩ := need_some h
 refine G_q rfl (op_rem rfl rfl n1 rfl ?_)
 refine G_q rfl (op_convInt (k := .i64) (by kernel_rfl) rfl rfl ?_)
 refine qa (.xi (i64 (Int.tmod (IntKind.u64.wrap (a0)) (IntKind.u64.wrap (a1))))) rfl ?_
 refine G_nil (zaa (k_ret ?_))
 obtain rfl := Option.some.inj h
 refine ke (pt AF0 4 (.xi (i64 (Int.tmod (IntKind.u64.wrap (a0)) (IntKind.u64.wrap (a1)))))) [] rfl ?_ ⟨rfl, rfl⟩
 exact so (lq rfl lt0)
set_option maxHeartbeats 4000000 in
theorem m_gen_Choices_Next_ok {w0 : Nat} (a0 : (List Int) × Int) (a1 : Int) (r : Int × ((List Int) × Int)) (h : m_gen_Choices_Next a0 a1 = some r) : Fun Tryz.prog 18 [(pA w0 0), (.exact (.int .i64 a1))] [boxI 53 w0 [.row 1 c_int a0.1, .exact (.int .i64 a0.2)]] (fun a s => a = .exact (.int .i64 r.1) ∧ s = [boxI 53 w0 [.row 1 c_int r.2.1, .exact (.int .i64 r.2.2)]]) := by
 unfold m_gen_Choices_Next at h
 refine fun_of_awp Tryz.func18 rfl Tryz.ntmps18 (by simp) rfl (res1 rfl) fun E hE => k_end ?_
 refine zad (kr ?_)
 refine qa (.xi 0) rfl ?_
 refine G_nil (zaa (zad (zad ?_)))
 refine k_plan [] [(0, 0), (0, 1), (0, 2), (0, 4), (0, 5), (0, 6), (1, 3), (1, 7), (0, 8), (0, 9)] hmixP (by kernel_rfl) ?_
 refine P_q no34_0 rfl (zaf (av := pA w0 0) rfl ?_)
 refine P_q no34_0 rfl (op_nilCheck rfl ?_)
 refine P_q no34_0 rfl (op_fieldAddr (o := 1) (by kernel_rfl) rfl ?_)
 refine P_q no34_0 rfl (zaf (av := pA w0 0) rfl ?_)
 refine P_q no34_0 rfl (op_nilCheck rfl ?_)
 refine P_q no34_0 rfl (op_fieldAddr (o := 0) (by kernel_rfl) rfl ?_)
 refine P_r rfl (op_load_box1 (a := .xi a0.2) (by kernel_rfl) rfl rfl ?_)
 refine P_r rfl (op_load_box1 (a := .row 1 c_int a0.1) (by kernel_rfl) rfl rfl ?_)
 refine P_q no34_0 rfl (op_len_row (by kernel_rfl) rfl ?_)
 refine P_q no34_0 rfl (op_geq rfl rfl ?_)
 refine P_nil (zaa ?_)
 refine kd (p := (List.length a0.1 : Int) ≤ a0.2) rfl h (fun hc h => ?_) (fun hc h => ?_)
 ·refine zad (kr ?_)
  refine qa (.xi 0) rfl ?_
  refine G_nil (zaa (k_ret (kC_ret ?_)))
  obtain rfl := Option.some.inj h
  refine ke (pt AF0 4 (.xi 0)) [boxI 53 w0 [.row 1 c_int a0.1, .xi a0.2]] rfl ?_ ⟨rfl, rfl⟩
  exact so (lq rfl lt0)
 ·refine k_skip (zaa (zad (kr ?_)))
  refine qm (pA w0 0) rfl ?_
  refine G_q rfl (op_nilCheck rfl ?_)
  refine G_q rfl (op_fieldAddr (o := 1) (by kernel_rfl) rfl ?_)
  refine G_r rfl (op_load_box1 (a := .xi a0.2) (by kernel_rfl) rfl rfl ?_)
  refine G_q rfl (op_add rfl rfl rfl ?_)
  refine G_q rfl (op_nilCheck rfl ?_)
  refine G_q rfl (op_fieldAddr (o := 1) (by kernel_rfl) rfl ?_)
  refine G_l rfl (op_store_box (c' := [.xi (i64 (a0.2 + 1))]) (c3 := [.row 1 c_int a0.1, .xi (i64 (a0.2 + 1))]) rfl rfl CellsOf.int (LEs.cons (AV.le_eq rfl) LEs.nil) (OneC.int OneC.nil) (by kernel_rfl) (Nat.le_of_ble_eq_true rfl) rfl ?_)
  refine G_nil (zaa (zad ?_))
  refine k_plan [] [(0, 0), (0, 1), (0, 2), (0, 4), (0, 5), (0, 6), (0, 11), (1, 3), (1, 7), (0, 8), (0, 9), (0, 10), (0, 12), (0, 13)] hmixP (by kernel_rfl) ?_
  refine P_q no34_0 rfl (zaf (av := pA w0 0) rfl ?_)
  refine P_q no34_0 rfl (op_nilCheck rfl ?_)
  refine P_q no34_0 rfl (op_fieldAddr (o := 0) (by kernel_rfl) rfl ?_)
  refine P_q no34_0 rfl (zaf (av := pA w0 0) rfl ?_)
  refine P_q no34_0 rfl (op_nilCheck rfl ?_)
  refine P_q no34_0 rfl (op_fieldAddr (o := 1) (by kernel_rfl) rfl ?_)
  refine P_q no34_0 rfl (zaf (av := .xi a1) rfl ?_)
  refine P_r rfl (op_load_box1 (a := .row 1 c_int a0.1) (by kernel_rfl) rfl rfl ?_)
  refine P_r rfl (op_load_box1 (a := .xi (i64 (a0.2 + 1))) (by kernel_rfl) rfl rfl ?_)
  refine P_q no34_0 rfl (op_sub rfl rfl rfl ?_)
  obtain ⟨n1, h⟩ := need_some h
  refine P_q no34_0 rfl (zam (by kernel_rfl) rfl rfl n1.1 n1.2 ?_)
  refine P_q no34_0 rfl (zal (a := .xi (gi a0.1 (i64 ((i64 (a0.2 + 1)) - 1)))) (by kernel_rfl) rfl rfl ?_)
  obtain ⟨y2, hy2, h⟩ := bnd1_some h
  refine P_q no34_0 rfl (zai (m_help_Mod_ok _ _ _ hy2) Tryz.func22 (by kernel_rfl) (LEs.cons (AV.le_eq rfl) (LEs.cons (AV.le_eq rfl) LEs.nil)) ?_)
  refine P_q no34_0 rfl (op_assign (av := .xi y2) rfl ?_)
  refine P_nil (zaa (k_ret ?_))
  obtain rfl := Option.some.inj h
  refine ke (pt AF0 4 (.xi y2)) [boxI 53 w0 [.row 1 c_int a0.1, .xi (i64 (a0.2 + 1))]] rfl ?_ ⟨rfl, rfl⟩
  exact so (lq rfl lt0)
set_option maxHeartbeats 4000000 in
theorem m_law12_node_ok (a0 : Int) (a1 : Int) (a2 : List (List (Int × Int × Int))) (r : (List (Int × Int × Int))) (h : m_law12_node a0 a1 a2 = some r) : Pure Tryz.prog 17 [(.exact (.int .i64 a0)), (.exact (.int .i64 a1)), (.row 1 c_L_api_Code a2)] (.row 3 zae r) := by
 unfold m_law12_node at h
 refine Pure.ofFun (fun_of_awp Tryz.func17 rfl Tryz.ntmps17 (by simp) rfl (res1 rfl) fun E hE => k_end ?_)
 refine zad (kr ?_)
 refine qa (.exact (.slice none 0 0)) rfl ?_
 refine G_nil (zaa (zad (kr ?_)))
 refine qm (.xi a0) rfl ?_
 refine qm (.xi a1) rfl ?_
 refine qm (.row 1 c_L_api_Code a2) rfl ?_
 refine G_q rfl (op_len_row (by kernel_rfl) rfl ?_)
 refine G_q rfl (op_bld (c' := zae (a0, a1, (List.length a2 : Int))) (CellsAll.cons rfl CellsOf.int (CellsAll.cons rfl CellsOf.int (CellsAll.cons rfl CellsOf.int CellsAll.nil))) rfl (LEs.cons (AV.le_eq rfl) (LEs.cons (AV.le_eq rfl) (LEs.cons (AV.le_eq rfl) LEs.nil))) ?_)
 refine G_l rfl (op_litI (n := 3) (enc := zae) [(a0, a1, (List.length a2 : Int))] (by kernel_rfl) (CellsAll.cons rfl CellsOf.agg CellsAll.nil) rfl (by kernel_rfl) (LEss.cons (LEs.cons (AV.le_eq rfl) (LEs.cons (AV.le_eq rfl) (LEs.cons (AV.le_eq rfl) LEs.nil))) LEss.nil) (fun v1 => ?_))
 refine qa (.exact v1) rfl ?_
 refine G_nil (zaa ?_)
 refine k_join1_1 h (fun (x7_j2 : List (Int × Int × Int)) (v7_j2 : Value) => (pt AF0 7 (.exact v7_j2))) (fun (x7_j2 : List (Int × Int × Int)) (v7_j2 : Value) => [vecT Tryz.prog 25 3 zae v7_j2 x7_j2]) (fun k2 h => ?_) (fun x7_j2 v7_j2 h => ?_)
 ·refine zad (kr ?_)
  refine qa (.xi 0) rfl ?_
  refine G_nil (zaa (k_block ?_))
  refine k_loop2_1 (m_law12_node_L2 a2 k2) (m_law12_node_B2 a2 k2) (fun _ _ => rfl) (fun m _ _ => rfl) h (fun (x7_l2 : List (Int × Int × Int)) (x8_l2 : Int) (v7_l2 : Value) => (pt (pt (pt AF0 2 (.row 1 c_L_api_Code a2)) 7 (.exact v7_l2)) 8 (.xi x8_l2))) (fun (x7_l2 : List (Int × Int × Int)) (x8_l2 : Int) (v7_l2 : Value) => [vecT Tryz.prog 25 3 zae v7_l2 x7_l2]) v1 ?_ (fun rec2 x7_l2 x8_l2 v7_l2 h => ?_)
  ·exact so (lq rfl (lq rfl (lq rfl lt0)))
  ·unfold m_law12_node_B2 at h
   refine zad (zad (kr ?_))
   refine qm (.xi x8_l2) rfl ?_
   refine qm (.row 1 c_L_api_Code a2) rfl ?_
   refine G_q rfl (op_len_row (by kernel_rfl) rfl ?_)
   refine G_q rfl (op_lss rfl rfl ?_)
   refine G_nil (zaa ?_)
   refine kd (p := x8_l2 < (List.length a2 : Int)) rfl h (fun hc h => ?_) (fun hc h => ?_)
   ·refine k_skip (zaa (zad (k_block (kr ?_))))
    refine qm (.exact v7_l2) rfl ?_
    refine qm (.row 1 c_L_api_Code a2) rfl ?_
    refine qm (.xi x8_l2) rfl ?_
    obtain ⟨n19, h⟩ := need_some h
    refine G_q rfl (zam (by kernel_rfl) rfl rfl n19.1 n19.2 ?_)
    refine G_q rfl (zal (a := .row 3 zae (gi a2 x8_l2)) (by kernel_rfl) rfl rfl ?_)
    obtain ⟨n20, h⟩ := need_some h
    refine G_l rfl (op_appT (by kernel_rfl) rfl rfl oc_c_api_Code n20 (fun v21 => ?_))
    refine qa (.exact v21) rfl ?_
    refine G_nil (kB_normal (zaa (kr ?_)))
    refine qm (.xi x8_l2) rfl ?_
    refine G_q rfl (op_add rfl rfl rfl ?_)
    refine qa (.xi (i64 (x8_l2 + 1))) rfl ?_
    refine G_nil ?_
    refine zac ⟨_, _, v21, h, ?_⟩
    exact so (lq rfl (lq rfl (lq rfl lt0)))
   ·refine k_exit (kC_exit (kI_exit (kB_exit ?_)))
    refine zac ⟨_, v7_l2, h, ?_⟩
    exact so (lq rfl lt0)
 ·refine zad (kr ?_)
  refine qm (.exact v7_j2) rfl ?_
  refine qa (.exact v7_j2) rfl ?_
  refine G_nil (zaa (k_ret ?_))
  obtain rfl := Option.some.inj h
  refine ke (pt AF0 6 (.row 3 zae x7_j2)) [] rfl ?_ ⟨rfl, rfl⟩
  refine Sub.trans (SubU.to (SubU.freezeT (s := 6) rfl len_c_api_Code)) ?_
  exact so (lq rfl lt0)
set_option maxHeartbeats 4000000 in
theorem m_gen_Choices_Number_ok {w0 : Nat} (a0 : (List Int) × Int) (r : Int × ((List Int) × Int)) (h : m_gen_Choices_Number a0 = some r) : Fun Tryz.prog 24 [(pA w0 0)] [boxI 53 w0 [.row 1 c_int a0.1, .exact (.int .i64 a0.2)]] (fun a s => a = .exact (.int .i64 r.1) ∧ s = [boxI 53 w0 [.row 1 c_int r.2.1, .exact (.int .i64 r.2.2)]]) := by
 unfold m_gen_Choices_Number at h
 refine fun_of_awp Tryz.func24 rfl Tryz.ntmps24 (by simp) rfl (res1 rfl) fun E hE => k_end ?_
 refine zad (kr ?_)
 refine qa (.xi 0) rfl ?_
 refine G_nil (zaa (zad (zad (kr ?_))))
 refine qm (pA w0 0) rfl ?_
 obtain ⟨y1, hy1, h⟩ := bnd1_some h
 refine G_l rfl (op_fun_1_0_1 (m_gen_Choices_Next_ok _ _ _ hy1) Tryz.func18 (by kernel_rfl) (LEs.cons (AV.le_eq rfl) (LEs.cons (AV.le_eq rfl) LEs.nil)) ?_)
 refine G_nil (zaa (k_block (zad (kr ?_))))
 refine G_q rfl (op_eql rfl rfl ?_)
 refine qa (.xb (decide (y1.1 = 6))) rfl ?_
 refine G_nil (zaa ?_)
 refine kd (p := y1.1 = 6) rfl h (fun hc h => ?_) (fun hc h => ?_)
 ·refine zad (kr ?_)
  refine qa (.xi (-1)) rfl ?_
  refine G_nil (zaa (k_ret (kB_ret (kC_ret ?_))))
  obtain rfl := Option.some.inj h
  refine ke (pt AF0 2 (.xi (-1))) [boxI 53 w0 [.row 1 c_int y1.2.1, .xi y1.2.2]] rfl ?_ ⟨rfl, rfl⟩
  exact so (lq rfl lt0)
 ·refine zad (kr ?_)
  refine G_q rfl (op_eql rfl rfl ?_)
  refine qa (.xb (decide (y1.1 = 7))) rfl ?_
  refine G_nil (zaa ?_)
  refine kd (p := y1.1 = 7) rfl h (fun hc h => ?_) (fun hc h => ?_)
  ·refine zad (kr ?_)
   refine qm (pA w0 0) rfl ?_
   obtain ⟨y2, hy2, h⟩ := bnd1_some h
   refine G_l rfl (op_fun_1_0_1 (m_gen_Choices_Next_ok _ _ _ hy2) Tryz.func18 (by kernel_rfl) (LEs.cons (AV.le_eq rfl) (LEs.cons (AV.le_eq rfl) LEs.nil)) ?_)
   refine G_q rfl (op_sub rfl rfl rfl ?_)
   refine qa (.xi (i64 (9223372036854775807 - y2.1))) rfl ?_
   refine G_nil (zaa (k_ret (kB_ret (kC_ret ?_))))
   obtain rfl := Option.some.inj h
   refine ke (pt AF0 2 (.xi (i64 (9223372036854775807 - y2.1)))) [boxI 53 w0 [.row 1 c_int y2.2.1, .xi y2.2.2]] rfl ?_ ⟨rfl, rfl⟩
   exact so (lq rfl lt0)
  ·refine zad (kr ?_)
   refine G_q rfl (op_eql rfl rfl ?_)
   refine qa (.xb (decide (y1.1 = 8))) rfl ?_
   refine G_nil (zaa ?_)
   refine kd (p := y1.1 = 8) rfl h (fun hc h => ?_) (fun hc h => ?_)
   ·refine zad (kr ?_)
    refine qm (pA w0 0) rfl ?_
    obtain ⟨y3, hy3, h⟩ := bnd1_some h
    refine G_l rfl (op_fun_1_0_1 (m_gen_Choices_Next_ok _ _ _ hy3) Tryz.func18 (by kernel_rfl) (LEs.cons (AV.le_eq rfl) (LEs.cons (AV.le_eq rfl) LEs.nil)) ?_)
    refine G_q rfl (op_add rfl rfl rfl ?_)
    refine qa (.xi (i64 ((-9223372036854775808) + y3.1))) rfl ?_
    refine G_nil (zaa (k_ret (kB_ret (kC_ret ?_))))
    obtain rfl := Option.some.inj h
    refine ke (pt AF0 2 (.xi (i64 ((-9223372036854775808) + y3.1)))) [boxI 53 w0 [.row 1 c_int y3.2.1, .xi y3.2.2]] rfl ?_ ⟨rfl, rfl⟩
    exact so (lq rfl lt0)
   ·refine k_skip (kB_normal (zaa (zad (kr ?_))))
    refine qm (pA w0 0) rfl ?_
    obtain ⟨y4, hy4, h⟩ := bnd1_some h
    refine G_l rfl (op_fun_1_0_1 (m_gen_Choices_Next_ok _ _ _ hy4) Tryz.func18 (by kernel_rfl) (LEs.cons (AV.le_eq rfl) (LEs.cons (AV.le_eq rfl) LEs.nil)) ?_)
    refine G_q rfl (op_sub rfl rfl rfl ?_)
    refine qa (.xi (i64 (y4.1 - 2))) rfl ?_
    refine G_nil (zaa (k_ret ?_))
    obtain rfl := Option.some.inj h
    refine ke (pt AF0 2 (.xi (i64 (y4.1 - 2)))) [boxI 53 w0 [.row 1 c_int y4.2.1, .xi y4.2.2]] rfl ?_ ⟨rfl, rfl⟩
    exact so (lq rfl lt0)
set_option maxHeartbeats 4000000 in
theorem m_law12_pat_F_ok {w0 : Nat} (self_law12_pat : ((List Int) × Int) → Int → Option ((List (Int × Int × Int)) × ((List Int) × Int))) (hself_law12_pat : ∀ ⦃w0 : Nat⦄ (a0 : (List Int) × Int) (a1 : Int) (r : (List (Int × Int × Int)) × ((List Int) × Int)), self_law12_pat a0 a1 = some r → Fun Tryz.prog 8 [(pA w0 0), (.exact (.int .i64 a1))] [boxI 53 w0 [.row 1 c_int a0.1, .exact (.int .i64 a0.2)]] (fun a s => a = .row 3 zae r.1 ∧ s = [boxI 53 w0 [.row 1 c_int r.2.1, .exact (.int .i64 r.2.2)]])) (a0 : (List Int) × Int) (a1 : Int) (r : (List (Int × Int × Int)) × ((List Int) × Int)) (h : m_law12_pat_F self_law12_pat a0 a1 = some r) : Fun Tryz.prog 8 [(pA w0 0), (.exact (.int .i64 a1))] [boxI 53 w0 [.row 1 c_int a0.1, .exact (.int .i64 a0.2)]] (fun a s => a = .row 3 zae r.1 ∧ s = [boxI 53 w0 [.row 1 c_int r.2.1, .exact (.int .i64 r.2.2)]]) := by
 unfold m_law12_pat_F at h
 refine fun_of_awp Tryz.func8 rfl Tryz.ntmps8 (by simp) rfl (res1 rfl) fun E hE => k_end ?_
 refine zad (kr ?_)
 refine qa (.exact (.slice none 0 0)) rfl ?_
 refine G_nil (zaa (zad (kr ?_)))
 refine qm (pA w0 0) rfl ?_
 obtain ⟨y1, hy1, h⟩ := bnd1_some h
 refine G_l rfl (op_fun_1_0_1 (m_gen_Choices_Next_ok _ _ _ hy1) Tryz.func18 (by kernel_rfl) (LEs.cons (AV.le_eq rfl) (LEs.cons (AV.le_eq rfl) LEs.nil)) ?_)
 refine qa (.xi y1.1) rfl ?_
 refine G_nil (zaa ?_)
 refine k_join1_0 h (fun (x5_j2 : Int) => (pt (pt (pt AF0 0 (pA w0 0)) 1 (.xi a1)) 5 (.xi x5_j2))) (fun (x5_j2 : Int) => [boxI 53 w0 [.row 1 c_int y1.2.1, .xi y1.2.2]]) (fun k2 h => ?_) (fun x5_j2 h => ?_)
 ·refine zad (kr ?_)
  refine qm (.xi a1) rfl ?_
  refine G_q rfl (op_leq rfl rfl ?_)
  refine G_nil (zaa ?_)
  refine kd (p := a1 ≤ 1) rfl h (fun hc h => ?_) (fun hc h => ?_)
  ·refine kr ?_
   refine qm (.xi y1.1) rfl ?_
   refine G_q rfl (op_rem rfl rfl (by decide) rfl ?_)
   refine qa (.xi (Int.tmod y1.1 5)) rfl ?_
   refine G_nil ?_
   refine zac ⟨_, h, ?_⟩
   exact so (lq rfl (lq rfl (lq rfl lt0)))
  ·refine k_skip ?_
   refine zac ⟨_, h, ?_⟩
   exact so (lq rfl (lq rfl (lq rfl lt0)))
 ·refine zad (kr ?_)
  refine qa (.exact (.slice none 0 0)) rfl ?_
  refine G_nil (zaa ?_)
  refine k_join3_1 h (fun (x0_0_j3 : List Int) (x0_1_j3 : Int) (x6_j3 : List (List (Int × Int × Int))) (v6_j3 : Value) => (pt (pt (pt (pt AF0 0 (pA w0 0)) 1 (.xi a1)) 5 (.xi x5_j2)) 6 (.exact v6_j3))) (fun (x0_0_j3 : List Int) (x0_1_j3 : Int) (x6_j3 : List (List (Int × Int × Int))) (v6_j3 : Value) => [boxI 53 w0 [.row 1 c_int x0_0_j3, .xi x0_1_j3], vecT Tryz.prog 54 1 c_L_api_Code v6_j3 x6_j3]) (fun k3 h => ?_) (fun x0_0_j3 x0_1_j3 x6_j3 v6_j3 h => ?_)
  ·refine zad (kr ?_)
   refine qm (.xi x5_j2) rfl ?_
   refine G_q rfl (op_gtr rfl rfl ?_)
   refine G_nil (zaa ?_)
   refine kd (p := 4 < x5_j2) rfl h (fun hc h => ?_) (fun hc h => ?_)
   ·refine zad (kr ?_)
    refine qm (pA w0 0) rfl ?_
    obtain ⟨y15, hy15, h⟩ := bnd1_some h
    refine G_l rfl (op_fun_1_0_1 (m_gen_Choices_Next_ok _ _ _ hy15) Tryz.func18 (by kernel_rfl) (LEs.cons (AV.le_eq rfl) (LEs.cons (AV.le_eq rfl) LEs.nil)) ?_)
    refine qa (.xi y15.1) rfl ?_
    refine G_nil (zaa (k_block ?_))
    refine k_loop4_1 (m_law12_pat_L2 self_law12_pat a1 k3) (m_law12_pat_B2 self_law12_pat a1 k3) (fun _ _ _ _ => rfl) (fun m _ _ _ _ => rfl) h (fun (x0_0_l2 : List Int) (x0_1_l2 : Int) (x6_l2 : List (List (Int × Int × Int))) (x7_l2 : Int) (v6_l2 : Value) => (pt (pt (pt (pt (pt AF0 0 (pA w0 0)) 1 (.xi a1)) 5 (.xi x5_j2)) 6 (.exact v6_l2)) 7 (.xi x7_l2))) (fun (x0_0_l2 : List Int) (x0_1_l2 : Int) (x6_l2 : List (List (Int × Int × Int))) (x7_l2 : Int) (v6_l2 : Value) => [boxI 53 w0 [.row 1 c_int x0_0_l2, .xi x0_1_l2], vecT Tryz.prog 54 1 c_L_api_Code v6_l2 x6_l2]) (.slice none 0 0) ?_ (fun rec2 x0_0_l2 x0_1_l2 x6_l2 x7_l2 v6_l2 h => ?_)
    ·refine Sub.trans (SubU.to (SubU.nilT (P := Tryz.prog) (t := 54) (n := 1) (enc := c_L_api_Code))) ?_
     refine Sub.trans (SubU.to SubU.f1) ?_
     exact so (l4 rfl rfl rfl rfl (lq rfl lt0))
    ·unfold m_law12_pat_B2 at h
     refine zad (zad (kr ?_))
     refine qm (.xi x7_l2) rfl ?_
     refine G_q rfl (op_gtr rfl rfl ?_)
     refine G_nil (zaa ?_)
     refine kd (p := 0 < x7_l2) rfl h (fun hc h => ?_) (fun hc h => ?_)
     ·refine k_skip (zaa (zad (k_block (kr ?_))))
      refine qm (.exact v6_l2) rfl ?_
      refine qm (pA w0 0) rfl ?_
      refine qm (.xi a1) rfl ?_
      refine G_q rfl (op_sub rfl rfl rfl ?_)
      obtain ⟨y22, hy22, h⟩ := bnd1_some h
      refine G_l rfl (op_fun_1_0_1 (hself_law12_pat _ _ _ hy22) Tryz.func8 (by kernel_rfl) (LEs.cons (AV.le_eq rfl) (LEs.cons (AV.le_eq rfl) LEs.nil)) ?_)
      refine G_q rfl (op_litT (n := 1) (enc := c_L_api_Code) [y22.1] (CellsAll.cons rfl CellsOf.row CellsAll.nil) rfl (by kernel_rfl) (LEss.cons (LEs.cons (AV.le_eq rfl) LEs.nil) LEss.nil) ?_)
      obtain ⟨n23, h⟩ := need_some h
      refine G_l rfl (opB_f1 (op_appT (by kernel_rfl) rfl rfl oc_c_L_api_Code n23 (fun v24 => ?_)))
      refine qa (.exact v24) rfl ?_
      refine G_nil (kB_normal (zaa (kr ?_)))
      refine qm (.xi x7_l2) rfl ?_
      refine G_q rfl (op_sub rfl rfl rfl ?_)
      refine qa (.xi (i64 (x7_l2 - 1))) rfl ?_
      refine G_nil ?_
      refine zac ⟨_, _, _, _, v24, h, ?_⟩
      refine Sub.trans (SubU.to SubU.f1) ?_
      exact so (l4 rfl rfl rfl rfl (lq rfl lt0))
     ·refine k_exit (kC_exit (kI_exit (kB_exit ?_)))
      refine zac ⟨_, _, _, v6_l2, h, ?_⟩
      exact so (l4 rfl rfl rfl rfl lt0)
   ·refine k_skip ?_
    refine zac ⟨_, _, _, (.slice none 0 0), h, ?_⟩
    refine Sub.trans (SubU.to (SubU.nilT (P := Tryz.prog) (t := 54) (n := 1) (enc := c_L_api_Code))) ?_
    refine Sub.trans (SubU.to SubU.f1) ?_
    exact so (l4 rfl rfl rfl rfl lt0)
  ·refine zad (zad (kr ?_))
   refine qm (.xi x5_j2) rfl ?_
   refine G_nil (zaa (k_block (zad (kr ?_))))
   refine G_q rfl (op_eql rfl rfl ?_)
   refine qa (.xb (decide (x5_j2 = 2))) rfl ?_
   refine G_nil (zaa ?_)
   refine kd (p := x5_j2 = 2) rfl h (fun hc h => ?_) (fun hc h => ?_)
   ·refine zad (kr ?_)
    obtain ⟨y58, hy58, h⟩ := bnd1_some h
    refine G_q rfl (zai (m_law12_node_ok _ _ _ _ hy58) Tryz.func17 (by kernel_rfl) (LEs.cons (AV.le_eq rfl) (LEs.cons (AV.le_eq rfl) (LEs.cons (row_nil (by decide)) LEs.nil))) ?_)
    refine qa (.row 3 zae y58) rfl ?_
    refine G_nil (zaa (k_ret (kB_ret (kC_ret ?_))))
    obtain rfl := Option.some.inj h
    refine ke (pt AF0 4 (.row 3 zae y58)) [boxI 53 w0 [.row 1 c_int x0_0_j3, .xi x0_1_j3]] rfl ?_ ⟨rfl, rfl⟩
    refine Sub.trans (SubU.to SubU.f1) ?_
    refine Sub.trans (SubU.to SubU.drop) ?_
    exact so (lq rfl lt0)
   ·refine zad (kr ?_)
    refine G_q rfl (op_eql rfl rfl ?_)
    refine qa (.xb (decide (x5_j2 = 3))) rfl ?_
    refine G_nil (zaa ?_)
    refine kd (p := x5_j2 = 3) rfl h (fun hc h => ?_) (fun hc h => ?_)
    ·refine zad (kr ?_)
     refine qm (pA w0 0) rfl ?_
     obtain ⟨y59, hy59, h⟩ := bnd1_some h
     refine G_l rfl (op_fun_1_0_1 (m_gen_Choices_Number_ok _ _ hy59) Tryz.func24 (by kernel_rfl) (LEs.cons (AV.le_eq rfl) LEs.nil) ?_)
     obtain ⟨y60, hy60, h⟩ := bnd1_some h
     refine G_q rfl (zai (m_law12_node_ok _ _ _ _ hy60) Tryz.func17 (by kernel_rfl) (LEs.cons (AV.le_eq rfl) (LEs.cons (AV.le_eq rfl) (LEs.cons (row_nil (by decide)) LEs.nil))) ?_)
     refine qa (.row 3 zae y60) rfl ?_
     refine G_nil (zaa (k_ret (kB_ret (kC_ret ?_))))
     obtain rfl := Option.some.inj h
     refine ke (pt AF0 4 (.row 3 zae y60)) [boxI 53 w0 [.row 1 c_int y59.2.1, .xi y59.2.2]] rfl ?_ ⟨rfl, rfl⟩
     refine Sub.trans (SubU.to SubU.f1) ?_
     refine Sub.trans (SubU.to SubU.drop) ?_
     exact so (lq rfl lt0)
    ·refine zad (kr ?_)
     refine G_q rfl (op_eql rfl rfl ?_)
     refine qa (.xb (decide (x5_j2 = 4))) rfl ?_
     refine G_nil (zaa ?_)
     refine kd (p := x5_j2 = 4) rfl h (fun hc h => ?_) (fun hc h => ?_)
     ·refine zad (kr ?_)
      refine qm (pA w0 0) rfl ?_
      obtain ⟨y61, hy61, h⟩ := bnd1_some h
      refine G_l rfl (op_fun_1_0_1 (m_gen_Choices_Next_ok _ _ _ hy61) Tryz.func18 (by kernel_rfl) (LEs.cons (AV.le_eq rfl) (LEs.cons (AV.le_eq rfl) LEs.nil)) ?_)
      obtain ⟨y62, hy62, h⟩ := bnd1_some h
      refine G_q rfl (zai (m_law12_node_ok _ _ _ _ hy62) Tryz.func17 (by kernel_rfl) (LEs.cons (AV.le_eq rfl) (LEs.cons (AV.le_eq rfl) (LEs.cons (row_nil (by decide)) LEs.nil))) ?_)
      refine qa (.row 3 zae y62) rfl ?_
      refine G_nil (zaa (k_ret (kB_ret (kC_ret ?_))))
      obtain rfl := Option.some.inj h
      refine ke (pt AF0 4 (.row 3 zae y62)) [boxI 53 w0 [.row 1 c_int y61.2.1, .xi y61.2.2]] rfl ?_ ⟨rfl, rfl⟩
      refine Sub.trans (SubU.to SubU.f1) ?_
      refine Sub.trans (SubU.to SubU.drop) ?_
      exact so (lq rfl lt0)
     ·refine k_join1_0 h (fun (x45_j63 : Bool) => (pt (pt (pt (pt (pt AF0 0 (pA w0 0)) 1 (.xi a1)) 6 (.exact v6_j3)) 31 (.xi x5_j2)) 45 (.xb x45_j63))) (fun (x45_j63 : Bool) => [boxI 53 w0 [.row 1 c_int x0_0_j3, .xi x0_1_j3], vecT Tryz.prog 54 1 c_L_api_Code v6_j3 x6_j3]) (fun k63 h => ?_) (fun x45_j63 h => ?_)
      ·refine zad (kr ?_)
       refine G_q rfl (op_eql rfl rfl ?_)
       refine qa (.xb (decide (x5_j2 = 5))) rfl ?_
       refine G_nil (zaa ?_)
       refine kd (p := x5_j2 = 5) rfl h (fun hc h => ?_) (fun hc h => ?_)
       ·refine k_skip ?_
        refine zac ⟨_, h, ?_⟩
        exact so (l4 rfl rfl rfl rfl (lq rfl lt0))
       ·refine kr ?_
        refine G_q rfl (op_eql rfl rfl ?_)
        refine qa (.xb (decide (x5_j2 = 6))) rfl ?_
        refine G_nil ?_
        refine zac ⟨_, h, ?_⟩
        exact so (l4 rfl rfl rfl rfl (lq rfl lt0))
      ·refine kb (p := x45_j63) rfl h (fun hc h => ?_) (fun hc h => ?_)
       ·refine zad (kr ?_)
        refine qm (pA w0 0) rfl ?_
        refine qm (.xi a1) rfl ?_
        refine G_q rfl (op_sub rfl rfl rfl ?_)
        obtain ⟨y64, hy64, h⟩ := bnd1_some h
        refine G_l rfl (op_fun_1_0_1 (hself_law12_pat _ _ _ hy64) Tryz.func8 (by kernel_rfl) (LEs.cons (AV.le_eq rfl) (LEs.cons (AV.le_eq rfl) LEs.nil)) ?_)
        refine qm (pA w0 0) rfl ?_
        refine qm (.xi a1) rfl ?_
        refine G_q rfl (op_sub rfl rfl rfl ?_)
        obtain ⟨y65, hy65, h⟩ := bnd1_some h
        refine G_l rfl (op_fun_1_0_1 (hself_law12_pat _ _ _ hy65) Tryz.func8 (by kernel_rfl) (LEs.cons (AV.le_eq rfl) (LEs.cons (AV.le_eq rfl) LEs.nil)) ?_)
        refine G_q rfl (op_litT (n := 1) (enc := c_L_api_Code) [y64.1, y65.1] (CellsAll.cons rfl CellsOf.row (CellsAll.cons rfl CellsOf.row CellsAll.nil)) rfl (by kernel_rfl) (LEss.cons (LEs.cons (AV.le_eq rfl) LEs.nil) (LEss.cons (LEs.cons (AV.le_eq rfl) LEs.nil) LEss.nil)) ?_)
        obtain ⟨y66, hy66, h⟩ := bnd1_some h
        refine G_q rfl (zai (m_law12_node_ok _ _ _ _ hy66) Tryz.func17 (by kernel_rfl) (LEs.cons (AV.le_eq rfl) (LEs.cons (AV.le_eq rfl) (LEs.cons (AV.le_eq rfl) LEs.nil))) ?_)
        refine qa (.row 3 zae y66) rfl ?_
        refine G_nil (zaa (k_ret (kB_ret (kC_ret ?_))))
        obtain rfl := Option.some.inj h
        refine ke (pt AF0 4 (.row 3 zae y66)) [boxI 53 w0 [.row 1 c_int y65.2.1, .xi y65.2.2]] rfl ?_ ⟨rfl, rfl⟩
        refine Sub.trans (SubU.to SubU.f1) ?_
        refine Sub.trans (SubU.to SubU.drop) ?_
        exact so (lq rfl lt0)
       ·refine zad (kr ?_)
        refine G_q rfl (op_eql rfl rfl ?_)
        refine qa (.xb (decide (x5_j2 = 7))) rfl ?_
        refine G_nil (zaa ?_)
        refine kd (p := x5_j2 = 7) rfl h (fun hc h => ?_) (fun hc h => ?_)
        ·refine zad (kr ?_)
         refine qm (.exact v6_j3) rfl ?_
         refine G_sub rfl (SubU.trans SubU.f1 (SubU.freezeT2 (s1 := 6) (s2 := 60) rfl rfl len_c_L_api_Code)) ?_
         obtain ⟨y67, hy67, h⟩ := bnd1_some h
         refine G_q rfl (zai (m_law12_node_ok _ _ _ _ hy67) Tryz.func17 (by kernel_rfl) (LEs.cons (AV.le_eq rfl) (LEs.cons (AV.le_eq rfl) (LEs.cons (AV.le_eq rfl) LEs.nil))) ?_)
         refine qa (.row 3 zae y67) rfl ?_
         refine G_nil (zaa (k_ret (kB_ret (kC_ret ?_))))
         obtain rfl := Option.some.inj h
         refine ke (pt AF0 4 (.row 3 zae y67)) [boxI 53 w0 [.row 1 c_int x0_0_j3, .xi x0_1_j3]] rfl ?_ ⟨rfl, rfl⟩
         exact so (lq rfl lt0)
        ·refine k_join1_0 h (fun (x62_j68 : Bool) => (pt (pt (pt (pt (pt AF0 0 (pA w0 0)) 1 (.xi a1)) 6 (.exact v6_j3)) 31 (.xi x5_j2)) 62 (.xb x62_j68))) (fun (x62_j68 : Bool) => [boxI 53 w0 [.row 1 c_int x0_0_j3, .xi x0_1_j3], vecT Tryz.prog 54 1 c_L_api_Code v6_j3 x6_j3]) (fun k68 h => ?_) (fun x62_j68 h => ?_)
         ·refine zad (kr ?_)
          refine G_q rfl (op_eql rfl rfl ?_)
          refine qa (.xb (decide (x5_j2 = 8))) rfl ?_
          refine G_nil (zaa ?_)
          refine kd (p := x5_j2 = 8) rfl h (fun hc h => ?_) (fun hc h => ?_)
          ·refine k_skip ?_
           refine zac ⟨_, h, ?_⟩
           exact so (l4 rfl rfl rfl rfl (lq rfl lt0))
          ·refine kr ?_
           refine G_q rfl (op_eql rfl rfl ?_)
           refine qa (.xb (decide (x5_j2 = 9))) rfl ?_
           refine G_nil ?_
           refine zac ⟨_, h, ?_⟩
           exact so (l4 rfl rfl rfl rfl (lq rfl lt0))
         ·refine kb (p := x62_j68) rfl h (fun hc h => ?_) (fun hc h => ?_)
          ·refine zad (kr ?_)
           refine qm (pA w0 0) rfl ?_
           refine qm (.exact v6_j3) rfl ?_
           refine G_r rfl (opR_f1 (op_len_vec (by kernel_rfl) rfl ?_))
           refine G_q rfl (op_add rfl rfl rfl ?_)
           obtain ⟨y69, hy69, h⟩ := bnd1_some h
           refine G_l rfl (op_fun_1_0_1 (m_gen_Choices_Next_ok _ _ _ hy69) Tryz.func18 (by kernel_rfl) (LEs.cons (AV.le_eq rfl) (LEs.cons (AV.le_eq rfl) LEs.nil)) ?_)
           refine qa (.xi y69.1) rfl ?_
           refine G_nil (zaa (zad ?_))
           refine awp_sub (SubU.to (SubU.trans SubU.f1 (SubU.freezeT2 (s1 := 6) (s2 := 66) rfl rfl len_c_L_api_Code))) ?_
           refine k_plan [] [(0, 0), (0, 1), (0, 2), (0, 4), (0, 10), (0, 11), (0, 12), (2, 3), (2, 5), (0, 6), (0, 7), (0, 8), (2, 9), (2, 13), (0, 14)] hmixP (by kernel_rfl) ?_
           refine P_q no34_0 rfl (zaf (av := .row 1 c_L_api_Code x6_j3) rfl ?_)
           refine P_q no34_0 rfl (zaf (av := .xi y69.1) rfl ?_)
           obtain ⟨n70, h⟩ := need_some h
           refine P_q no34_0 rfl (op_slice_rowt (by kernel_rfl) rfl bnd_none (bnd_some rfl) (Int.le_refl 0) n70.1 n70.2 ?_)
           refine P_q no34_0 rfl (zaf (av := pA w0 0) rfl ?_)
           refine P_q no34_0 rfl (zaf (av := .row 1 c_L_api_Code x6_j3) rfl ?_)
           refine P_q no34_0 rfl (zaf (av := .xi y69.1) rfl ?_)
           obtain ⟨n71, h⟩ := need_some h
           refine P_q no34_0 rfl (op_slice_rowd (by kernel_rfl) rfl (bnd_some rfl) bnd_none n71.1 n71.2 (Int.le_refl _) ?_)
           obtain ⟨n72, h⟩ := need_some h
           refine P_l rfl (op_appN (enc := c_L_api_Code) (by kernel_rfl) rfl rfl oc_c_L_api_Code n72 (fun v73 => ?_))
           obtain ⟨y74, hy74, h⟩ := bnd1_some h
           refine P_l rfl (opB_f1 (op_fun_1_0_1 (m_gen_Choices_Next_ok _ _ _ hy74) Tryz.func18 (by kernel_rfl) (LEs.cons (AV.le_eq rfl) (LEs.cons (AV.le_eq rfl) LEs.nil)) ?_))
           refine P_q no34_0 rfl (op_add rfl rfl rfl ?_)
           obtain ⟨y75, hy75, h⟩ := bnd1_some h
           refine P_q no34_0 rfl (zai (m_law12_node_ok _ _ _ _ hy75) Tryz.func17 (by kernel_rfl) (LEs.cons (AV.le_eq rfl) (LEs.cons (AV.le_eq rfl) (LEs.cons (row_nil (by decide)) LEs.nil))) ?_)
           refine P_q no34_0 rfl (op_litT (n := 1) (enc := c_L_api_Code) [y75] (CellsAll.cons rfl CellsOf.row CellsAll.nil) rfl (by kernel_rfl) (LEss.cons (LEs.cons (AV.le_eq rfl) LEs.nil) LEss.nil) ?_)
           obtain ⟨n76, h⟩ := need_some h
           refine P_l rfl (opB_f1 (op_appT (by kernel_rfl) rfl rfl oc_c_L_api_Code n76 (fun v77 => ?_)))
           obtain ⟨n78, h⟩ := need_some h
           refine P_l rfl (op_appT (by kernel_rfl) rfl rfl oc_c_L_api_Code n78 (fun v79 => ?_))
           refine P_q no34_0 rfl (op_assign (av := .exact v79) rfl ?_)
           refine P_nil (zaa (zad (kr ?_)))
           refine qm (.xi y69.1) rfl ?_
           refine qm (.exact v79) rfl ?_
           refine G_sub rfl (SubU.freezeT3 (s1 := 9) (s2 := 83) (s3 := 85) rfl rfl rfl len_c_L_api_Code) ?_
           obtain ⟨y80, hy80, h⟩ := bnd1_some h
           refine G_q rfl (zai (m_law12_node_ok _ _ _ _ hy80) Tryz.func17 (by kernel_rfl) (LEs.cons (AV.le_eq rfl) (LEs.cons (AV.le_eq rfl) (LEs.cons (AV.le_eq rfl) LEs.nil))) ?_)
           refine qa (.row 3 zae y80) rfl ?_
           refine G_nil (zaa (k_ret (kB_ret (kC_ret ?_))))
           obtain rfl := Option.some.inj h
           refine ke (pt AF0 4 (.row 3 zae y80)) [boxI 53 w0 [.row 1 c_int y74.2.1, .xi y74.2.2]] rfl ?_ ⟨rfl, rfl⟩
           exact so (lq rfl lt0)
          ·refine zad (kr ?_)
           refine G_q rfl (op_eql rfl rfl ?_)
           refine qa (.xb (decide (x5_j2 = 10))) rfl ?_
           refine G_nil (zaa ?_)
           refine kd (p := x5_j2 = 10) rfl h (fun hc h => ?_) (fun hc h => ?_)
           ·refine zad (kr ?_)
            refine qm (.exact v6_j3) rfl ?_
            refine qm (.exact v6_j3) rfl ?_
            refine G_r rfl (opR_f1 (op_len_vec (by kernel_rfl) rfl ?_))
            refine G_q rfl (op_min rfl rfl ?_)
            refine G_sub rfl (SubU.trans SubU.f1 (SubU.freezeT3 (s1 := 6) (s2 := 90) (s3 := 89) rfl rfl rfl len_c_L_api_Code)) ?_
            obtain ⟨n81, h⟩ := need_some h
            refine G_q rfl (op_slice_rowt (by kernel_rfl) rfl bnd_none (bnd_some rfl) (Int.le_refl 0) n81.1 n81.2 ?_)
            obtain ⟨y82, hy82, h⟩ := bnd1_some h
            refine G_q rfl (zai (m_law12_node_ok _ _ _ _ hy82) Tryz.func17 (by kernel_rfl) (LEs.cons (AV.le_eq rfl) (LEs.cons (AV.le_eq rfl) (LEs.cons (AV.le_eq rfl) LEs.nil))) ?_)
            refine qa (.row 3 zae y82) rfl ?_
            refine G_nil (zaa (k_ret (kB_ret (kC_ret ?_))))
            obtain rfl := Option.some.inj h
            refine ke (pt AF0 4 (.row 3 zae y82)) [boxI 53 w0 [.row 1 c_int x0_0_j3, .xi x0_1_j3]] rfl ?_ ⟨rfl, rfl⟩
            exact so (lq rfl lt0)
           ·refine zad (kr ?_)
            refine G_q rfl (op_eql rfl rfl ?_)
            refine qa (.xb (decide (x5_j2 = 11))) rfl ?_
            refine G_nil (zaa ?_)
            refine kd (p := x5_j2 = 11) rfl h (fun hc h => ?_) (fun hc h => ?_)
            ·refine zad (kr ?_)
             refine qm (pA w0 0) rfl ?_
             obtain ⟨y83, hy83, h⟩ := bnd1_some h
             refine G_l rfl (op_fun_1_0_1 (m_gen_Choices_Next_ok _ _ _ hy83) Tryz.func18 (by kernel_rfl) (LEs.cons (AV.le_eq rfl) (LEs.cons (AV.le_eq rfl) LEs.nil)) ?_)
             refine qm (.exact v6_j3) rfl ?_
             refine G_sub rfl (SubU.trans SubU.f1 (SubU.freezeT2 (s1 := 6) (s2 := 99) rfl rfl len_c_L_api_Code)) ?_
             obtain ⟨y84, hy84, h⟩ := bnd1_some h
             refine G_q rfl (zai (m_law12_node_ok _ _ _ _ hy84) Tryz.func17 (by kernel_rfl) (LEs.cons (AV.le_eq rfl) (LEs.cons (AV.le_eq rfl) (LEs.cons (AV.le_eq rfl) LEs.nil))) ?_)
             refine qa (.row 3 zae y84) rfl ?_
             refine G_nil (zaa (k_ret (kB_ret (kC_ret ?_))))
             obtain rfl := Option.some.inj h
             refine ke (pt AF0 4 (.row 3 zae y84)) [boxI 53 w0 [.row 1 c_int y83.2.1, .xi y83.2.2]] rfl ?_ ⟨rfl, rfl⟩
             exact so (lq rfl lt0)
            ·refine zad (kr ?_)
             refine G_q rfl (op_eql rfl rfl ?_)
             refine qa (.xb (decide (x5_j2 = 12))) rfl ?_
             refine G_nil (zaa ?_)
             refine kd (p := x5_j2 = 12) rfl h (fun hc h => ?_) (fun hc h => ?_)
             ·refine zad ?_
              refine k_plan [] [(0, 0), (0, 1), (0, 5), (0, 6), (0, 7), (0, 9), (0, 10), (0, 11), (2, 2), (0, 3), (0, 4), (2, 8), (2, 12), (0, 13), (0, 14), (0, 15)] hmixP (by kernel_rfl) ?_
              refine P_q no34_0 rfl (op_litT (n := 1) (enc := c_int) [40, 40, 39] (CellsAll.cons rfl CellsOf.int (CellsAll.cons rfl CellsOf.int (CellsAll.cons rfl CellsOf.int CellsAll.nil))) rfl (by kernel_rfl) (LEss.cons (LEs.cons (AV.le_eq rfl) LEs.nil) (LEss.cons (LEs.cons (AV.le_eq rfl) LEs.nil) (LEss.cons (LEs.cons (AV.le_eq rfl) LEs.nil) LEss.nil))) ?_)
              refine P_q no34_0 rfl (zaf (av := pA w0 0) rfl ?_)
              refine P_q no34_0 rfl (zaf (av := pA w0 0) rfl ?_)
              refine P_q no34_0 rfl (zaf (av := .xi a1) rfl ?_)
              refine P_q no34_0 rfl (op_sub rfl rfl rfl ?_)
              refine P_q no34_0 rfl (zaf (av := pA w0 0) rfl ?_)
              refine P_q no34_0 rfl (zaf (av := .xi a1) rfl ?_)
              refine P_q no34_0 rfl (op_sub rfl rfl rfl ?_)
              obtain ⟨y85, hy85, h⟩ := bnd1_some h
              refine P_l rfl (op_fun_1_0_1 (m_gen_Choices_Next_ok _ _ _ hy85) Tryz.func18 (by kernel_rfl) (LEs.cons (AV.le_eq rfl) (LEs.cons (AV.le_eq rfl) LEs.nil)) ?_)
              obtain ⟨n86, h⟩ := need_some h
              refine P_q no34_0 rfl (zam (by kernel_rfl) rfl rfl n86.1 n86.2 ?_)
              refine P_q no34_0 rfl (zal (a := .xi (gi [40, 40, 39] y85.1)) (by kernel_rfl) rfl rfl ?_)
              obtain ⟨y87, hy87, h⟩ := bnd1_some h
              refine P_l rfl (op_fun_1_0_1 (hself_law12_pat _ _ _ hy87) Tryz.func8 (by kernel_rfl) (LEs.cons (AV.le_eq rfl) (LEs.cons (AV.le_eq rfl) LEs.nil)) ?_)
              obtain ⟨y88, hy88, h⟩ := bnd1_some h
              refine P_l rfl (op_fun_1_0_1 (hself_law12_pat _ _ _ hy88) Tryz.func8 (by kernel_rfl) (LEs.cons (AV.le_eq rfl) (LEs.cons (AV.le_eq rfl) LEs.nil)) ?_)
              refine P_q no34_0 rfl (op_litT (n := 1) (enc := c_L_api_Code) [y87.1, y88.1] (CellsAll.cons rfl CellsOf.row (CellsAll.cons rfl CellsOf.row CellsAll.nil)) rfl (by kernel_rfl) (LEss.cons (LEs.cons (AV.le_eq rfl) LEs.nil) (LEss.cons (LEs.cons (AV.le_eq rfl) LEs.nil) LEss.nil)) ?_)
              obtain ⟨y89, hy89, h⟩ := bnd1_some h
              refine P_q no34_0 rfl (zai (m_law12_node_ok _ _ _ _ hy89) Tryz.func17 (by kernel_rfl) (LEs.cons (AV.le_eq rfl) (LEs.cons (AV.le_eq rfl) (LEs.cons (AV.le_eq rfl) LEs.nil))) ?_)
              refine P_q no34_0 rfl (op_assign (av := .row 3 zae y89) rfl ?_)
              refine P_nil (zaa (k_ret (kB_ret (kC_ret ?_))))
              obtain rfl := Option.some.inj h
              refine ke (pt AF0 4 (.row 3 zae y89)) [boxI 53 w0 [.row 1 c_int y88.2.1, .xi y88.2.2]] rfl ?_ ⟨rfl, rfl⟩
              refine Sub.trans (SubU.to SubU.f1) ?_
              refine Sub.trans (SubU.to SubU.drop) ?_
              exact so (lq rfl lt0)
             ·refine k_skip (kB_normal (zaa (zad (kr ?_))))
              obtain ⟨y90, hy90, h⟩ := bnd1_some h
              refine G_q rfl (zai (m_law12_node_ok _ _ _ _ hy90) Tryz.func17 (by kernel_rfl) (LEs.cons (AV.le_eq rfl) (LEs.cons (AV.le_eq rfl) (LEs.cons (row_nil (by decide)) LEs.nil))) ?_)
              refine qa (.row 3 zae y90) rfl ?_
              refine G_nil (zaa (k_ret ?_))
              obtain rfl := Option.some.inj h
              refine ke (pt AF0 4 (.row 3 zae y90)) [boxI 53 w0 [.row 1 c_int x0_0_j3, .xi x0_1_j3]] rfl ?_ ⟨rfl, rfl⟩
              refine Sub.trans (SubU.to SubU.f1) ?_
              refine Sub.trans (SubU.to SubU.drop) ?_
              exact so (lq rfl lt0)
set_option maxHeartbeats 4000000 in
theorem m_law12_pat_S_ok : ∀ n : Nat, (∀ ⦃w0 : Nat⦄ (a0 : (List Int) × Int) (a1 : Int) (r : (List (Int × Int × Int)) × ((List Int) × Int)), m_law12_pat_S n a0 a1 = some r → Fun Tryz.prog 8 [(pA w0 0), (.exact (.int .i64 a1))] [boxI 53 w0 [.row 1 c_int a0.1, .exact (.int .i64 a0.2)]] (fun a s => a = .row 3 zae r.1 ∧ s = [boxI 53 w0 [.row 1 c_int r.2.1, .exact (.int .i64 r.2.2)]]))
  | 0 => (fun _ _ _ _ h => by have h' : (none : Option _) = some _ := h; cases h')
  | n + 1 => by
    have ih := m_law12_pat_S_ok n
    exact fun w0 a0 a1 r h => m_law12_pat_F_ok (m_law12_pat_S n) ih a0 a1 r h
theorem m_law12_pat_ok {w0 : Nat} (a0 : (List Int) × Int) (a1 : Int) (r : (List (Int × Int × Int)) × ((List Int) × Int)) (h : m_law12_pat a0 a1 = some r) : Fun Tryz.prog 8 [(pA w0 0), (.exact (.int .i64 a1))] [boxI 53 w0 [.row 1 c_int a0.1, .exact (.int .i64 a0.2)]] (fun a s => a = .row 3 zae r.1 ∧ s = [boxI 53 w0 [.row 1 c_int r.2.1, .exact (.int .i64 r.2.2)]]) := (m_law12_pat_S_ok FU) a0 a1 r h
set_option maxHeartbeats 4000000 in
theorem m_ref9_Bool_ok (a0 : Bool) (r : (List UInt8)) (h : m_ref9_Bool a0 = some r) : Pure Tryz.prog 25 [(.exact (.bool a0))] (.exact (.string (bs r))) := by
 unfold m_ref9_Bool at h
 refine Pure.ofFun (fun_of_awp Tryz.func25 rfl Tryz.ntmps25 (by simp) rfl (res1 rfl) fun E hE => k_end ?_)
 refine zad (kr ?_)
 refine qa (.xs ([] : List UInt8)) rfl ?_
 refine G_nil (zaa (zad (zad (kr ?_))))
 refine qm (.xb a0) rfl ?_
 refine G_nil (zaa ?_)
 refine kb (p := a0) rfl h (fun hc h => ?_) (fun hc h => ?_)
 ·refine zad (kr ?_)
  refine G_q rfl (op_litT (n := 1) (enc := c_uint8) [2, 1] (CellsAll.cons rfl CellsOf.int (CellsAll.cons rfl CellsOf.int CellsAll.nil)) rfl (by kernel_rfl) (LEss.cons (LEs.cons (AV.le_eq rfl) LEs.nil) (LEss.cons (LEs.cons (AV.le_eq rfl) LEs.nil) LEss.nil)) ?_)
  refine G_q rfl (op_bytesS rfl (by kernel_rfl) rfl ?_)
  refine qa (.exact (.string (bs [2, 1]))) rfl ?_
  refine G_nil (zaa (k_ret (kC_ret ?_)))
  obtain rfl := Option.some.inj h
  refine ke (pt AF0 2 (.exact (.string (bs [2, 1])))) [] rfl ?_ ⟨rfl, rfl⟩
  exact so (lq rfl lt0)
 ·refine k_skip (zaa (zad (kr ?_)))
  refine G_q rfl (op_litT (n := 1) (enc := c_uint8) [2, 0] (CellsAll.cons rfl CellsOf.int (CellsAll.cons rfl CellsOf.int CellsAll.nil)) rfl (by kernel_rfl) (LEss.cons (LEs.cons (AV.le_eq rfl) LEs.nil) (LEss.cons (LEs.cons (AV.le_eq rfl) LEs.nil) LEss.nil)) ?_)
  refine G_q rfl (op_bytesS rfl (by kernel_rfl) rfl ?_)
  refine qa (.exact (.string (bs [2, 0]))) rfl ?_
  refine G_nil (zaa (k_ret ?_))
  obtain rfl := Option.some.inj h
  refine ke (pt AF0 2 (.exact (.string (bs [2, 0])))) [] rfl ?_ ⟨rfl, rfl⟩
  exact so (lq rfl lt0)
set_option maxHeartbeats 4000000 in
theorem m_ref9_two_ok (a0 : Int) (r : (List UInt8)) (h : m_ref9_two a0 = some r) : Pure Tryz.prog 51 [(.exact (.int .i64 a0))] (.exact (.string (bs r))) := by
 unfold m_ref9_two at h
 refine Pure.ofFun (fun_of_awp Tryz.func51 rfl Tryz.ntmps51 (by simp) rfl (res1 rfl) fun E hE => k_end ?_)
 refine zad (kr ?_)
 refine qa (.xs ([] : List UInt8)) rfl ?_
 refine G_nil (zaa (zad (kr ?_)))
 refine qm (.xi a0) rfl ?_
 refine G_q rfl (op_shr rfl rfl (by decide) rfl ?_)
 refine G_q rfl (op_convInt (k := .u8) (r := (UInt8.toNat (u8i (Int.fdiv a0 (2 ^ min (Int.toNat 8) IntKind.i64.bits))) : Int)) (by kernel_rfl) rfl (u8i_eq _) ?_)
 refine qm (.xi a0) rfl ?_
 refine G_q rfl (op_convInt (k := .u8) (r := (UInt8.toNat (u8i a0) : Int)) (by kernel_rfl) rfl (u8i_eq _) ?_)
 refine G_q rfl (op_litT (n := 1) (enc := c_uint8) [u8i (Int.fdiv a0 (2 ^ min (Int.toNat 8) IntKind.i64.bits)), u8i a0] (CellsAll.cons rfl CellsOf.int (CellsAll.cons rfl CellsOf.int CellsAll.nil)) rfl (by kernel_rfl) (LEss.cons (LEs.cons (AV.le_eq rfl) LEs.nil) (LEss.cons (LEs.cons (AV.le_eq rfl) LEs.nil) LEss.nil)) ?_)
 refine G_q rfl (op_bytesS rfl (by kernel_rfl) rfl ?_)
 refine qa (.exact (.string (bs [u8i (Int.fdiv a0 (2 ^ min (Int.toNat 8) IntKind.i64.bits)), u8i a0]))) rfl ?_
 refine G_nil (zaa (k_ret ?_))
 obtain rfl := Option.some.inj h
 refine ke (pt AF0 2 (.exact (.string (bs [u8i (Int.fdiv a0 (2 ^ min (Int.toNat 8) IntKind.i64.bits)), u8i a0])))) [] rfl ?_ ⟨rfl, rfl⟩
 exact so (lq rfl lt0)
set_option maxHeartbeats 4000000 in
theorem m_ref9_Name_ok (a0 : Int) (r : (List UInt8)) (h : m_ref9_Name a0 = some r) : Pure Tryz.prog 26 [(.exact (.int .i64 a0))] (.exact (.string (bs r))) := by
 unfold m_ref9_Name at h
 refine Pure.ofFun (fun_of_awp Tryz.func26 rfl Tryz.ntmps26 (by simp) rfl (res1 rfl) fun E hE => k_end ?_)
 refine zad (kr ?_)
 refine qa (.xs ([] : List UInt8)) rfl ?_
 refine G_nil (zaa (zad ?_))
 refine k_join1_0 h (fun (x8_j3 : Bool) => (pt (pt AF0 0 (.xi a0)) 8 (.xb x8_j3))) (fun (x8_j3 : Bool) => []) (fun k3 h => ?_) (fun x8_j3 h => ?_)
 ·refine kr ?_
  refine qm (.xi a0) rfl ?_
  refine G_q rfl (op_lss rfl rfl ?_)
  refine qm (.xb (decide (a0 < 0))) rfl ?_
  refine G_split (p := a0 < 0) 5 rfl (fun hc => ?_) (fun hc => ?_)
  ·replace h := ite_t h hc
   refine G_n rfl rfl (G_n rfl rfl ?_)
   refine G_q rfl (zak rfl (av := .xb true) rfl ?_)
   refine G_nil ?_
   refine zac ⟨_, h, ?_⟩
   exact so (lq rfl (lq rfl lt0))
  ·replace h := ite_f h hc
   refine Gy_q rfl rfl rfl (zaf (av := .xi a0) rfl ?_)
   refine Gy_q rfl rfl rfl (op_gtr rfl rfl ?_)
   refine G_q rfl (zah rfl (av := .xb (decide (65535 < a0))) rfl ?_)
   refine G_nil ?_
   refine zac ⟨_, h, ?_⟩
   exact so (lq rfl (lq rfl lt0))
 ·refine kb (p := x8_j3) rfl h (fun hc h => ?_) (fun hc h => ?_)
  ·refine zad (kr ?_)
   refine qa (.xs ([] : List UInt8)) rfl ?_
   refine G_nil (zaa (k_ret (kC_ret ?_)))
   obtain rfl := Option.some.inj h
   refine ke (pt AF0 2 (.xs ([] : List UInt8))) [] rfl ?_ ⟨rfl, rfl⟩
   exact so (lq rfl lt0)
  ·refine k_skip (zaa (zad ?_))
   refine k_plan [] [(0, 0), (0, 1), (0, 2), (0, 3), (0, 4), (0, 5)] hmixP (by kernel_rfl) ?_
   refine P_q no34_0 rfl (op_litT (n := 1) (enc := c_uint8) [10] (CellsAll.cons rfl CellsOf.int CellsAll.nil) rfl (by kernel_rfl) (LEss.cons (LEs.cons (AV.le_eq rfl) LEs.nil) LEss.nil) ?_)
   refine P_q no34_0 rfl (op_bytesS rfl (by kernel_rfl) rfl ?_)
   refine P_q no34_0 rfl (zaf (av := .xi a0) rfl ?_)
   obtain ⟨y4, hy4, h⟩ := bnd1_some h
   refine P_q no34_0 rfl (zai (m_ref9_two_ok _ _ hy4) Tryz.func51 (by kernel_rfl) (LEs.cons (AV.le_eq rfl) LEs.nil) ?_)
   obtain ⟨n5, h⟩ := need_some h
   refine P_q no34_0 rfl (op_addS n5 rfl rfl ?_)
   refine P_q no34_0 rfl (op_assign (av := .xs ([10] ++ y4)) rfl ?_)
   refine P_nil (zaa (k_ret ?_))
   obtain rfl := Option.some.inj h
   refine ke (pt AF0 2 (.xs ([10] ++ y4))) [] rfl ?_ ⟨rfl, rfl⟩
   exact so (lq rfl lt0)
set_option maxHeartbeats 4000000 in
theorem m_ref9_ascending_ok (self_ref9_walk : (List UInt8) → Int → Bool → Option (Int × (List (List UInt8)) × Int)) (hself_ref9_walk : ∀ (a0 : List UInt8) (a1 : Int) (a2 : Bool) (r : Int × (List (List UInt8)) × Int), self_ref9_walk a0 a1 a2 = some r → Pure Tryz.prog 76 [(.exact (.string (bs a0))), (.exact (.int .i64 a1)), (.exact (.bool a2))] (.tup [.exact (.int .i64 r.1), .row 1 zab r.2.1, .exact (.int .i64 r.2.2)])) (self_ref9_order : (List UInt8) → (List UInt8) → Option Int) (hself_ref9_order : ∀ (a0 : List UInt8) (a1 : List UInt8) (r : Int), self_ref9_order a0 a1 = some r → Pure Tryz.prog 79 [(.exact (.string (bs a0))), (.exact (.string (bs a1)))] (.exact (.int .i64 r))) (a0 : List (List UInt8)) (a1 : Int) (r : Bool) (h : m_ref9_ascending self_ref9_walk self_ref9_order a0 a1 = some r) : Pure Tryz.prog 106 [(.row 1 zab a0), (.exact (.int .i64 a1))] (.exact (.bool r)) := by
 unfold m_ref9_ascending at h
 refine Pure.ofFun (fun_of_awp Tryz.func106 rfl Tryz.ntmps106 (by simp) rfl (res1 rfl) fun E hE => k_end ?_)
 refine zad (kr ?_)
 refine qa (.xb false) rfl ?_
 refine G_nil (zaa ?_)
 refine k_join0_0 h (AF0) ([]) (fun k1 h => ?_) (fun  h => ?_)
 ·refine zad (kr ?_)
  refine qm (.xi a1) rfl ?_
  refine qa (.xi a1) rfl ?_
  refine G_nil (zaa (k_block ?_))
  refine k_loop1_0 (m_ref9_ascending_L2 self_ref9_order a0 a1 k1) (m_ref9_ascending_B2 self_ref9_order a0 a1 k1) (fun _ => rfl) (fun m _ => rfl) h (fun (x5_l2 : Int) => (pt (pt (pt AF0 0 (.row 1 zab a0)) 1 (.xi a1)) 5 (.xi x5_l2))) (fun (x5_l2 : Int) => []) ?_ (fun rec2 x5_l2 h => ?_)
  ·exact so (lq rfl (lq rfl (lq rfl lt0)))
  ·unfold m_ref9_ascending_B2 at h
   refine zad (zad (kr ?_))
   refine qm (.xi x5_l2) rfl ?_
   refine qm (.row 1 zab a0) rfl ?_
   refine G_q rfl (op_len_row (by kernel_rfl) rfl ?_)
   refine G_q rfl (op_lss rfl rfl ?_)
   refine G_nil (zaa ?_)
   refine kd (p := x5_l2 < (List.length a0 : Int)) rfl h (fun hc h => ?_) (fun hc h => ?_)
   ·refine k_skip (zaa (zad (k_block (zad ?_))))
    refine k_plan [] [(0, 0), (0, 1), (0, 2), (0, 3), (0, 4), (0, 5), (0, 6), (0, 7), (0, 8), (0, 9), (0, 10), (0, 11)] hmixP (by kernel_rfl) ?_
    refine P_q no34_0 rfl (zaf (av := .row 1 zab a0) rfl ?_)
    refine P_q no34_0 rfl (zaf (av := .xi x5_l2) rfl ?_)
    refine P_q no34_0 rfl (zaf (av := .xi a1) rfl ?_)
    refine P_q no34_0 rfl (op_sub rfl rfl rfl ?_)
    obtain ⟨n18, h⟩ := need_some h
    refine P_q no34_0 rfl (zam (by kernel_rfl) rfl rfl n18.1 n18.2 ?_)
    refine P_q no34_0 rfl (zal (a := .xs (gi a0 (i64 (x5_l2 - a1)))) (by kernel_rfl) rfl rfl ?_)
    refine P_q no34_0 rfl (zaf (av := .row 1 zab a0) rfl ?_)
    refine P_q no34_0 rfl (zaf (av := .xi x5_l2) rfl ?_)
    obtain ⟨n19, h⟩ := need_some h
    refine P_q no34_0 rfl (zam (by kernel_rfl) rfl rfl n19.1 n19.2 ?_)
    refine P_q no34_0 rfl (zal (a := .xs (gi a0 x5_l2)) (by kernel_rfl) rfl rfl ?_)
    obtain ⟨y20, hy20, h⟩ := bnd1_some h
    refine P_q no34_0 rfl (zai (hself_ref9_order _ _ _ hy20) Tryz.func79 (by kernel_rfl) (LEs.cons (AV.le_eq rfl) (LEs.cons (AV.le_eq rfl) LEs.nil)) ?_)
    refine P_q no34_0 rfl (op_geq rfl rfl ?_)
    refine P_nil (zaa ?_)
    refine kd (p := 0 ≤ y20) rfl h (fun hc h => ?_) (fun hc h => ?_)
    ·refine zad (kr ?_)
     refine qa (.xb false) rfl ?_
     refine G_nil (zaa (k_ret (kB_ret (kC_ret (kI_ret (kB_ret (kI_ret ?_)))))))
     obtain rfl := Option.some.inj h
     refine ke (pt AF0 4 (.xb false)) [] rfl ?_ ⟨rfl, rfl⟩
     exact so (lq rfl lt0)
    ·refine k_skip (kB_normal (zaa (kr ?_)))
     refine qm (.xi x5_l2) rfl ?_
     refine qm (.xi a1) rfl ?_
     refine G_q rfl (op_add rfl rfl rfl ?_)
     refine qa (.xi (i64 (x5_l2 + a1))) rfl ?_
     refine G_nil ?_
     refine zac ⟨_, h, ?_⟩
     exact so (lq rfl (lq rfl (lq rfl lt0)))
   ·refine k_exit (kC_exit (kI_exit (kB_exit ?_)))
    refine zac ⟨h, ?_⟩
    exact Sub.of_le lt0
 ·refine zad (kr ?_)
  refine qa (.xb true) rfl ?_
  refine G_nil (zaa (k_ret ?_))
  obtain rfl := Option.some.inj h
  refine ke (pt AF0 4 (.xb true)) [] rfl ?_ ⟨rfl, rfl⟩
  exact so (lq rfl lt0)
set_option maxHeartbeats 4000000 in
theorem m_ref9_number_ok (a0 : List UInt8) (r : Int) (h : m_ref9_number a0 = some r) : Pure Tryz.prog 94 [(.exact (.string (bs a0)))] (.exact (.int .i64 r)) := by
 unfold m_ref9_number at h
 refine Pure.ofFun (fun_of_awp Tryz.func94 rfl Tryz.ntmps94 (by simp) rfl (res1 rfl) fun E hE => k_end ?_)
 refine zad (kr ?_)
 refine qa (.xi 0) rfl ?_
 refine G_nil (zaa (zad (kr ?_)))
 refine qa (.exact (.int .u64 0)) rfl ?_
 refine G_nil (zaa ?_)
 refine k_join1_0 h (fun (x3_j1 : Int) => (pt AF0 3 (.exact (.int .u64 x3_j1)))) (fun (x3_j1 : Int) => []) (fun k1 h => ?_) (fun x3_j1 h => ?_)
 ·refine zad (kr ?_)
  refine qa (.xi 0) rfl ?_
  refine G_nil (zaa (k_block ?_))
  refine k_loop2_0 (m_ref9_number_L2 a0 k1) (m_ref9_number_B2 a0 k1) (fun _ _ => rfl) (fun m _ _ => rfl) h (fun (x3_l2 : Int) (x4_l2 : Int) => (pt (pt (pt AF0 0 (.xs a0)) 3 (.exact (.int .u64 x3_l2))) 4 (.xi x4_l2))) (fun (x3_l2 : Int) (x4_l2 : Int) => []) ?_ (fun rec2 x3_l2 x4_l2 h => ?_)
  ·exact so (lq rfl (lq rfl (lq rfl lt0)))
  ·unfold m_ref9_number_B2 at h
   refine zad (zad (kr ?_))
   refine qm (.xi x4_l2) rfl ?_
   refine G_q rfl (op_lss rfl rfl ?_)
   refine G_nil (zaa ?_)
   refine kd (p := x4_l2 < 8) rfl h (fun hc h => ?_) (fun hc h => ?_)
   ·refine k_skip (zaa (zad (k_block (kr ?_))))
    refine qm (.exact (.int .u64 x3_l2)) rfl ?_
    refine G_q rfl (op_shl rfl rfl (by decide) rfl ?_)
    refine qm (.xs a0) rfl ?_
    refine qm (.xi x4_l2) rfl ?_
    obtain ⟨n8, h⟩ := need_some h
    refine G_q rfl (op_index_str (by kernel_rfl) rfl rfl n8.1 n8.2 ?_)
    refine G_q rfl (op_convInt (k := .u64) (r := (UInt8.toNat (gi a0 x4_l2) : Int)) (by kernel_rfl) rfl (wrap_u8 rfl _) ?_)
    refine G_q rfl (op_or rfl rfl rfl ?_)
    refine qa (.exact (.int .u64 (bOr .u64 (IntKind.u64.wrap (x3_l2 * 2 ^ min (Int.toNat 8) IntKind.u64.bits)) (UInt8.toNat (gi a0 x4_l2) : Int)))) rfl ?_
    refine G_nil (kB_normal (zaa (kr ?_)))
    refine qm (.xi x4_l2) rfl ?_
    refine G_q rfl (op_add rfl rfl rfl ?_)
    refine qa (.xi (i64 (x4_l2 + 1))) rfl ?_
    refine G_nil ?_
    refine zac ⟨_, _, h, ?_⟩
    exact so (lq rfl (lq rfl (lq rfl lt0)))
   ·refine k_exit (kC_exit (kI_exit (kB_exit ?_)))
    refine zac ⟨_, h, ?_⟩
    exact so (lq rfl lt0)
 ·refine zad (kr ?_)
  refine qm (.exact (.int .u64 x3_j1)) rfl ?_
  refine G_q rfl (op_convInt (k := .i64) (by kernel_rfl) rfl rfl ?_)
  refine qa (.xi (i64 (x3_j1))) rfl ?_
  refine G_nil (zaa (k_ret ?_))
  obtain rfl := Option.some.inj h
  refine ke (pt AF0 2 (.xi (i64 (x3_j1)))) [] rfl ?_ ⟨rfl, rfl⟩
  exact so (lq rfl lt0)
end Go.Proofs.YtpfdeahcjlfijaaGreat
/- The functions compute their models, by program. -/
namespace Go.Proofs.YtpfdeahcjlfijaaGreat
open Go.RowKit
attribute [local irreducible] AV.exact AV.top AV.row AV.ptr AV.agg AV.tup AV.eptr AV.fn AV.nilq AV.nilqn opA opB opM opR Quiet Loud Reads wpG awp den Sub SubU Pure Fun vecI vecT boxI CellsAll CellsOf OneC LEs LEss
set_option maxRecDepth 100000

set_option maxHeartbeats 4000000 in
theorem m_ref9_small_ok (a0 : List UInt8) (a1 : Int) (a2 : Int) (r : Bool) (h : m_ref9_small a0 a1 a2 = some r) : Pure Tryz.prog 107 [(.exact (.string (bs a0))), (.exact (.int .i64 a1)), (.exact (.int .i64 a2))] (.exact (.bool r)) := by
 unfold m_ref9_small at h
 refine Pure.ofFun (fun_of_awp Tryz.func107 rfl Tryz.ntmps107 (by simp) rfl (res1 rfl) fun E hE => k_end ?_)
 refine zad (kr ?_)
 refine qa (.xb false) rfl ?_
 refine G_nil (zaa ?_)
 refine k_join1_0 h (fun (x6_j1 : Bool) => (pt AF0 6 (.xb x6_j1))) (fun (x6_j1 : Bool) => []) (fun k1 h => ?_) (fun x6_j1 h => ?_)
 ·refine kr ?_
  refine qm (.xs a0) rfl ?_
  obtain ⟨n7, h⟩ := need_some h
  refine G_q rfl (op_index_str (by kernel_rfl) rfl rfl n7.1 n7.2 ?_)
  refine G_q rfl (op_convInt (k := .i64) (r := (UInt8.toNat (gi a0 0) : Int)) (by kernel_rfl) rfl (wrap_u8 rfl _) ?_)
  refine G_q rfl (op_eql rfl rfl ?_)
  refine qm (.xb (decide ((UInt8.toNat (gi a0 0) : Int) = 1))) rfl ?_
  refine G_split (p := (UInt8.toNat (gi a0 0) : Int) = 1) 11 rfl (fun hc => ?_) (fun hc => ?_)
  ·replace h := ite_t h hc
   refine Gy_q rfl rfl rfl (zaf (av := .xs a0) rfl ?_)
   obtain ⟨n8, h⟩ := need_some h
   refine Gy_q rfl rfl rfl (op_slice_strd (by kernel_rfl) rfl (bnd_some rfl) bnd_none (by decide) n8 (Int.le_refl _) ?_)
   obtain ⟨y9, hy9, h⟩ := bnd1_some h
   refine Gy_q rfl rfl rfl (zai (m_ref9_number_ok _ _ hy9) Tryz.func94 (by kernel_rfl) (LEs.cons (AV.le_eq rfl) LEs.nil) ?_)
   refine Gy_q rfl rfl rfl (zaf (av := .xi a1) rfl ?_)
   refine Gy_q rfl rfl rfl (op_geq rfl rfl ?_)
   refine G_q rfl (zak rfl (av := .xb (decide (a1 ≤ y9))) rfl ?_)
   refine qm (.xb (decide (a1 ≤ y9))) rfl ?_
   refine G_split (p := a1 ≤ y9) 18 rfl (fun hc => ?_) (fun hc => ?_)
   ·replace h := ite_t h hc
    refine Gy_q rfl rfl rfl (zaf (av := .xs a0) rfl ?_)
    obtain ⟨n10, h⟩ := need_some h
    refine Gy_q rfl rfl rfl (op_slice_strd (by kernel_rfl) rfl (bnd_some rfl) bnd_none (by decide) n10 (Int.le_refl _) ?_)
    obtain ⟨y11, hy11, h⟩ := bnd1_some h
    refine Gy_q rfl rfl rfl (zai (m_ref9_number_ok _ _ hy11) Tryz.func94 (by kernel_rfl) (LEs.cons (AV.le_eq rfl) LEs.nil) ?_)
    refine Gy_q rfl rfl rfl (zaf (av := .xi a2) rfl ?_)
    refine Gy_q rfl rfl rfl (op_leq rfl rfl ?_)
    refine G_q rfl (zak rfl (av := .xb (decide (y11 ≤ a2))) rfl ?_)
    refine qa (.xb (decide (y11 ≤ a2))) rfl ?_
    refine G_nil ?_
    refine zac ⟨_, h, ?_⟩
    exact so (lq rfl lt0)
   ·replace h := ite_f h hc
    refine G_n rfl rfl (G_n rfl rfl (G_n rfl rfl (G_n rfl rfl (G_n rfl rfl ?_))))
    refine G_q rfl (zah rfl (av := .xb false) rfl ?_)
    refine qa (.xb false) rfl ?_
    refine G_nil ?_
    refine zac ⟨_, h, ?_⟩
    exact so (lq rfl lt0)
  ·replace h := ite_f h hc
   refine G_n rfl rfl (G_n rfl rfl (G_n rfl rfl (G_n rfl rfl (G_n rfl rfl ?_))))
   refine G_q rfl (zah rfl (av := .xb false) rfl ?_)
   refine qm (.xb false) rfl ?_
   refine G_n rfl rfl (G_n rfl rfl (G_n rfl rfl (G_n rfl rfl (G_n rfl rfl ?_))))
   refine G_q rfl (zah rfl (av := .xb false) rfl ?_)
   refine qa (.xb false) rfl ?_
   refine G_nil ?_
   refine zac ⟨_, h, ?_⟩
   exact so (lq rfl lt0)
 ·refine k_ret ?_
  obtain rfl := Option.some.inj h
  refine ke (pt AF0 6 (.xb x6_j1)) [] rfl ?_ ⟨rfl, rfl⟩
  exact so (lq rfl lt0)
set_option maxHeartbeats 4000000 in
theorem m_ref9_parted_ok (self_ref9_walk : (List UInt8) → Int → Bool → Option (Int × (List (List UInt8)) × Int)) (hself_ref9_walk : ∀ (a0 : List UInt8) (a1 : Int) (a2 : Bool) (r : Int × (List (List UInt8)) × Int), self_ref9_walk a0 a1 a2 = some r → Pure Tryz.prog 76 [(.exact (.string (bs a0))), (.exact (.int .i64 a1)), (.exact (.bool a2))] (.tup [.exact (.int .i64 r.1), .row 1 zab r.2.1, .exact (.int .i64 r.2.2)])) (self_ref9_order : (List UInt8) → (List UInt8) → Option Int) (hself_ref9_order : ∀ (a0 : List UInt8) (a1 : List UInt8) (r : Int), self_ref9_order a0 a1 = some r → Pure Tryz.prog 79 [(.exact (.string (bs a0))), (.exact (.string (bs a1)))] (.exact (.int .i64 r))) (a0 : Int) (a1 : List (List UInt8)) (r : Bool) (h : m_ref9_parted self_ref9_walk self_ref9_order a0 a1 = some r) : Pure Tryz.prog 92 [(.exact (.int .i64 a0)), (.row 1 zab a1)] (.exact (.bool r)) := by
 unfold m_ref9_parted at h
 refine Pure.ofFun (fun_of_awp Tryz.func92 rfl Tryz.ntmps92 (by simp) rfl (res1 rfl) fun E hE => k_end ?_)
 refine zad (kr ?_)
 refine qa (.xb false) rfl ?_
 refine G_nil (zaa (zad (zad (kr ?_))))
 refine qm (.xi a0) rfl ?_
 refine G_nil (zaa (k_block (zad (kr ?_))))
 refine G_q rfl (op_eql rfl rfl ?_)
 refine qa (.xb (decide (a0 = 3))) rfl ?_
 refine G_nil (zaa ?_)
 refine kd (p := a0 = 3) rfl h (fun hc h => ?_) (fun hc h => ?_)
 ·refine k_join1_0 h (fun (x4_j1 : Bool) => (pt AF0 4 (.xb x4_j1))) (fun (x4_j1 : Bool) => []) (fun k1 h => ?_) (fun x4_j1 h => ?_)
  ·refine kr ?_
   refine qm (.row 1 zab a1) rfl ?_
   refine G_q rfl (op_len_row (by kernel_rfl) rfl ?_)
   refine G_q rfl (op_geq rfl rfl ?_)
   refine qm (.xb (decide (2 ≤ (List.length a1 : Int)))) rfl ?_
   refine G_split (p := 2 ≤ (List.length a1 : Int)) 11 rfl (fun hc => ?_) (fun hc => ?_)
   ·replace h := ite_t h hc
    refine Gy_q rfl rfl rfl (zaf (av := .row 1 zab a1) rfl ?_)
    refine Gy_q rfl rfl rfl (op_len_row (by kernel_rfl) rfl ?_)
    refine Gy_q rfl rfl rfl (op_leq rfl rfl ?_)
    refine G_q rfl (zak rfl (av := .xb (decide ((List.length a1 : Int) ≤ 8))) rfl ?_)
    refine qa (.xb (decide ((List.length a1 : Int) ≤ 8))) rfl ?_
    refine G_nil ?_
    refine zac ⟨_, h, ?_⟩
    exact so (lq rfl lt0)
   ·replace h := ite_f h hc
    refine G_n rfl rfl (G_n rfl rfl (G_n rfl rfl ?_))
    refine G_q rfl (zah rfl (av := .xb false) rfl ?_)
    refine qa (.xb false) rfl ?_
    refine G_nil ?_
    refine zac ⟨_, h, ?_⟩
    exact so (lq rfl lt0)
  ·refine k_ret (kB_ret (kC_ret ?_))
   obtain rfl := Option.some.inj h
   refine ke (pt AF0 4 (.xb x4_j1)) [] rfl ?_ ⟨rfl, rfl⟩
   exact so (lq rfl lt0)
 ·refine zad (kr ?_)
  refine G_q rfl (op_eql rfl rfl ?_)
  refine qa (.xb (decide (a0 = 5))) rfl ?_
  refine G_nil (zaa ?_)
  refine kd (p := a0 = 5) rfl h (fun hc h => ?_) (fun hc h => ?_)
  ·refine zad (kr ?_)
   refine qm (.row 1 zab a1) rfl ?_
   obtain ⟨y2, hy2, h⟩ := bnd1_some h
   refine G_q rfl (zai (m_ref9_ascending_ok self_ref9_walk hself_ref9_walk self_ref9_order hself_ref9_order _ _ _ hy2) Tryz.func106 (by kernel_rfl) (LEs.cons (AV.le_eq rfl) (LEs.cons (AV.le_eq rfl) LEs.nil)) ?_)
   refine qa (.xb y2) rfl ?_
   refine G_nil (zaa (k_ret (kB_ret (kC_ret ?_))))
   obtain rfl := Option.some.inj h
   refine ke (pt AF0 4 (.xb y2)) [] rfl ?_ ⟨rfl, rfl⟩
   exact so (lq rfl lt0)
  ·refine zad (kr ?_)
   refine G_q rfl (op_eql rfl rfl ?_)
   refine qa (.xb (decide (a0 = 6))) rfl ?_
   refine G_nil (zaa ?_)
   refine kd (p := a0 = 6) rfl h (fun hc h => ?_) (fun hc h => ?_)
   ·refine k_join1_0 h (fun (x4_j3 : Bool) => (pt AF0 4 (.xb x4_j3))) (fun (x4_j3 : Bool) => []) (fun k3 h => ?_) (fun x4_j3 h => ?_)
    ·refine kr ?_
     refine qm (.row 1 zab a1) rfl ?_
     refine G_q rfl (op_len_row (by kernel_rfl) rfl ?_)
     refine G_q rfl (op_rem rfl rfl (by decide) rfl ?_)
     refine G_q rfl (op_eql rfl rfl ?_)
     refine qm (.xb (decide ((Int.tmod (List.length a1 : Int) 2) = 0))) rfl ?_
     refine G_split (p := (Int.tmod (List.length a1 : Int) 2) = 0) 26 rfl (fun hc => ?_) (fun hc => ?_)
     ·replace h := ite_t h hc
      refine Gy_q rfl rfl rfl (zaf (av := .row 1 zab a1) rfl ?_)
      obtain ⟨y5, hy5, h⟩ := bnd1_some h
      refine Gy_q rfl rfl rfl (zai (m_ref9_ascending_ok self_ref9_walk hself_ref9_walk self_ref9_order hself_ref9_order _ _ _ hy5) Tryz.func106 (by kernel_rfl) (LEs.cons (AV.le_eq rfl) (LEs.cons (AV.le_eq rfl) LEs.nil)) ?_)
      refine G_q rfl (zak rfl (av := .xb y5) rfl ?_)
      refine qa (.xb y5) rfl ?_
      refine G_nil ?_
      refine zac ⟨_, h, ?_⟩
      exact so (lq rfl lt0)
     ·replace h := ite_f h hc
      refine G_n rfl rfl (G_n rfl rfl ?_)
      refine G_q rfl (zah rfl (av := .xb false) rfl ?_)
      refine qa (.xb false) rfl ?_
      refine G_nil ?_
      refine zac ⟨_, h, ?_⟩
      exact so (lq rfl lt0)
    ·refine k_ret (kB_ret (kC_ret ?_))
     obtain rfl := Option.some.inj h
     refine ke (pt AF0 4 (.xb x4_j3)) [] rfl ?_ ⟨rfl, rfl⟩
     exact so (lq rfl lt0)
   ·refine zad (kr ?_)
    refine G_q rfl (op_eql rfl rfl ?_)
    refine qa (.xb (decide (a0 = 7))) rfl ?_
    refine G_nil (zaa ?_)
    refine kd (p := a0 = 7) rfl h (fun hc h => ?_) (fun hc h => ?_)
    ·refine k_join1_0 h (fun (x4_j6 : Bool) => (pt AF0 4 (.xb x4_j6))) (fun (x4_j6 : Bool) => []) (fun k6 h => ?_) (fun x4_j6 h => ?_)
     ·refine kr ?_
      refine qm (.row 1 zab a1) rfl ?_
      refine G_q rfl (op_len_row (by kernel_rfl) rfl ?_)
      refine G_q rfl (op_geq rfl rfl ?_)
      refine qm (.xb (decide (1 ≤ (List.length a1 : Int)))) rfl ?_
      refine G_split (p := 1 ≤ (List.length a1 : Int)) 35 rfl (fun hc => ?_) (fun hc => ?_)
      ·replace h := ite_t h hc
       refine Gy_q rfl rfl rfl (zaf (av := .row 1 zab a1) rfl ?_)
       refine Gy_q rfl rfl rfl (op_len_row (by kernel_rfl) rfl ?_)
       refine Gy_q rfl rfl rfl (op_leq rfl rfl ?_)
       refine G_q rfl (zak rfl (av := .xb (decide ((List.length a1 : Int) ≤ 9))) rfl ?_)
       refine qm (.xb (decide ((List.length a1 : Int) ≤ 9))) rfl ?_
       refine G_split (p := (List.length a1 : Int) ≤ 9) 40 rfl (fun hc => ?_) (fun hc => ?_)
       ·replace h := ite_t h hc
        refine Gy_q rfl rfl rfl (zaf (av := .row 1 zab a1) rfl ?_)
        obtain ⟨n9, h⟩ := need_some h
        refine Gy_q rfl rfl rfl (zam (by kernel_rfl) rfl rfl n9.1 n9.2 ?_)
        refine Gy_q rfl rfl rfl (zal (a := .xs (gi a1 0)) (by kernel_rfl) rfl rfl ?_)
        obtain ⟨n10, h⟩ := need_some h
        refine Gy_q rfl rfl rfl (op_index_str (by kernel_rfl) rfl rfl n10.1 n10.2 ?_)
        refine Gy_q rfl rfl rfl (op_convInt (k := .i64) (r := (UInt8.toNat (gi (gi a1 0) 0) : Int)) (by kernel_rfl) rfl (wrap_u8 rfl _) ?_)
        refine Gy_q rfl rfl rfl (op_eql rfl rfl ?_)
        refine G_q rfl (zak rfl (av := .xb (decide ((UInt8.toNat (gi (gi a1 0) 0) : Int) = 10))) rfl ?_)
        refine qa (.xb (decide ((UInt8.toNat (gi (gi a1 0) 0) : Int) = 10))) rfl ?_
        refine G_nil ?_
        refine zac ⟨_, h, ?_⟩
        exact so (lq rfl lt0)
       ·replace h := ite_f h hc
        refine G_n rfl rfl (G_n rfl rfl (G_n rfl rfl (G_n rfl rfl (G_n rfl rfl (G_n rfl rfl ?_)))))
        refine G_q rfl (zah rfl (av := .xb false) rfl ?_)
        refine qa (.xb false) rfl ?_
        refine G_nil ?_
        refine zac ⟨_, h, ?_⟩
        exact so (lq rfl lt0)
      ·replace h := ite_f h hc
       refine G_n rfl rfl (G_n rfl rfl (G_n rfl rfl ?_))
       refine G_q rfl (zah rfl (av := .xb false) rfl ?_)
       refine qm (.xb false) rfl ?_
       refine G_n rfl rfl (G_n rfl rfl (G_n rfl rfl (G_n rfl rfl (G_n rfl rfl (G_n rfl rfl ?_)))))
       refine G_q rfl (zah rfl (av := .xb false) rfl ?_)
       refine qa (.xb false) rfl ?_
       refine G_nil ?_
       refine zac ⟨_, h, ?_⟩
       exact so (lq rfl lt0)
     ·refine k_ret (kB_ret (kC_ret ?_))
      obtain rfl := Option.some.inj h
      refine ke (pt AF0 4 (.xb x4_j6)) [] rfl ?_ ⟨rfl, rfl⟩
      exact so (lq rfl lt0)
    ·refine zad (kr ?_)
     refine G_q rfl (op_eql rfl rfl ?_)
     refine qa (.xb (decide (a0 = 8))) rfl ?_
     refine G_nil (zaa ?_)
     refine kd (p := a0 = 8) rfl h (fun hc h => ?_) (fun hc h => ?_)
     ·refine k_join1_0 h (fun (x4_j11 : Bool) => (pt AF0 4 (.xb x4_j11))) (fun (x4_j11 : Bool) => []) (fun k11 h => ?_) (fun x4_j11 h => ?_)
      ·refine kr ?_
       refine qm (.row 1 zab a1) rfl ?_
       refine G_q rfl (op_len_row (by kernel_rfl) rfl ?_)
       refine G_q rfl (op_geq rfl rfl ?_)
       refine qm (.xb (decide (1 ≤ (List.length a1 : Int)))) rfl ?_
       refine G_split (p := 1 ≤ (List.length a1 : Int)) 53 rfl (fun hc => ?_) (fun hc => ?_)
       ·replace h := ite_t h hc
        refine Gy_q rfl rfl rfl (zaf (av := .row 1 zab a1) rfl ?_)
        refine Gy_q rfl rfl rfl (op_len_row (by kernel_rfl) rfl ?_)
        refine Gy_q rfl rfl rfl (op_leq rfl rfl ?_)
        refine G_q rfl (zak rfl (av := .xb (decide ((List.length a1 : Int) ≤ 33))) rfl ?_)
        refine qm (.xb (decide ((List.length a1 : Int) ≤ 33))) rfl ?_
        refine G_split (p := (List.length a1 : Int) ≤ 33) 58 rfl (fun hc => ?_) (fun hc => ?_)
        ·replace h := ite_t h hc
         refine Gy_q rfl rfl rfl (zaf (av := .row 1 zab a1) rfl ?_)
         obtain ⟨n14, h⟩ := need_some h
         refine Gy_q rfl rfl rfl (zam (by kernel_rfl) rfl rfl n14.1 n14.2 ?_)
         refine Gy_q rfl rfl rfl (zal (a := .xs (gi a1 0)) (by kernel_rfl) rfl rfl ?_)
         obtain ⟨y15, hy15, h⟩ := bnd1_some h
         refine Gy_q rfl rfl rfl (zai (m_ref9_small_ok _ _ _ _ hy15) Tryz.func107 (by kernel_rfl) (LEs.cons (AV.le_eq rfl) (LEs.cons (AV.le_eq rfl) (LEs.cons (AV.le_eq rfl) LEs.nil))) ?_)
         refine G_q rfl (zak rfl (av := .xb y15) rfl ?_)
         refine qa (.xb y15) rfl ?_
         refine G_nil ?_
         refine zac ⟨_, h, ?_⟩
         exact so (lq rfl lt0)
        ·replace h := ite_f h hc
         refine G_n rfl rfl (G_n rfl rfl (G_n rfl rfl (G_n rfl rfl ?_)))
         refine G_q rfl (zah rfl (av := .xb false) rfl ?_)
         refine qa (.xb false) rfl ?_
         refine G_nil ?_
         refine zac ⟨_, h, ?_⟩
         exact so (lq rfl lt0)
       ·replace h := ite_f h hc
        refine G_n rfl rfl (G_n rfl rfl (G_n rfl rfl ?_))
        refine G_q rfl (zah rfl (av := .xb false) rfl ?_)
        refine qm (.xb false) rfl ?_
        refine G_n rfl rfl (G_n rfl rfl (G_n rfl rfl (G_n rfl rfl ?_)))
        refine G_q rfl (zah rfl (av := .xb false) rfl ?_)
        refine qa (.xb false) rfl ?_
        refine G_nil ?_
        refine zac ⟨_, h, ?_⟩
        exact so (lq rfl lt0)
      ·refine k_ret (kB_ret (kC_ret ?_))
       obtain rfl := Option.some.inj h
       refine ke (pt AF0 4 (.xb x4_j11)) [] rfl ?_ ⟨rfl, rfl⟩
       exact so (lq rfl lt0)
     ·refine zad (kr ?_)
      refine G_q rfl (op_eql rfl rfl ?_)
      refine qa (.xb (decide (a0 = 9))) rfl ?_
      refine G_nil (zaa ?_)
      refine kd (p := a0 = 9) rfl h (fun hc h => ?_) (fun hc h => ?_)
      ·refine k_join1_0 h (fun (x4_j16 : Bool) => (pt AF0 4 (.xb x4_j16))) (fun (x4_j16 : Bool) => []) (fun k16 h => ?_) (fun x4_j16 h => ?_)
       ·refine kr ?_
        refine qm (.row 1 zab a1) rfl ?_
        refine G_q rfl (op_len_row (by kernel_rfl) rfl ?_)
        refine G_q rfl (op_geq rfl rfl ?_)
        refine qm (.xb (decide (1 ≤ (List.length a1 : Int)))) rfl ?_
        refine G_split (p := 1 ≤ (List.length a1 : Int)) 69 rfl (fun hc => ?_) (fun hc => ?_)
        ·replace h := ite_t h hc
         refine Gy_q rfl rfl rfl (zaf (av := .row 1 zab a1) rfl ?_)
         obtain ⟨n19, h⟩ := need_some h
         refine Gy_q rfl rfl rfl (zam (by kernel_rfl) rfl rfl n19.1 n19.2 ?_)
         refine Gy_q rfl rfl rfl (zal (a := .xs (gi a1 0)) (by kernel_rfl) rfl rfl ?_)
         obtain ⟨y20, hy20, h⟩ := bnd1_some h
         refine Gy_q rfl rfl rfl (zai (m_ref9_small_ok _ _ _ _ hy20) Tryz.func107 (by kernel_rfl) (LEs.cons (AV.le_eq rfl) (LEs.cons (AV.le_eq rfl) (LEs.cons (AV.le_eq rfl) LEs.nil))) ?_)
         refine G_q rfl (zak rfl (av := .xb y20) rfl ?_)
         refine qa (.xb y20) rfl ?_
         refine G_nil ?_
         refine zac ⟨_, h, ?_⟩
         exact so (lq rfl lt0)
        ·replace h := ite_f h hc
         refine G_n rfl rfl (G_n rfl rfl (G_n rfl rfl (G_n rfl rfl ?_)))
         refine G_q rfl (zah rfl (av := .xb false) rfl ?_)
         refine qa (.xb false) rfl ?_
         refine G_nil ?_
         refine zac ⟨_, h, ?_⟩
         exact so (lq rfl lt0)
       ·refine k_ret (kB_ret (kC_ret ?_))
        obtain rfl := Option.some.inj h
        refine ke (pt AF0 4 (.xb x4_j16)) [] rfl ?_ ⟨rfl, rfl⟩
        exact so (lq rfl lt0)
      ·refine k_skip (kB_normal (zaa (zad (kr ?_))))
       refine qa (.xb true) rfl ?_
       refine G_nil (zaa (k_ret ?_))
       obtain rfl := Option.some.inj h
       refine ke (pt AF0 4 (.xb true)) [] rfl ?_ ⟨rfl, rfl⟩
       exact so (lq rfl lt0)
set_option maxHeartbeats 4000000 in
theorem m_ref9_walk_F_ok (self_ref9_walk : (List UInt8) → Int → Bool → Option (Int × (List (List UInt8)) × Int)) (hself_ref9_walk : ∀ (a0 : List UInt8) (a1 : Int) (a2 : Bool) (r : Int × (List (List UInt8)) × Int), self_ref9_walk a0 a1 a2 = some r → Pure Tryz.prog 76 [(.exact (.string (bs a0))), (.exact (.int .i64 a1)), (.exact (.bool a2))] (.tup [.exact (.int .i64 r.1), .row 1 zab r.2.1, .exact (.int .i64 r.2.2)])) (self_ref9_order : (List UInt8) → (List UInt8) → Option Int) (hself_ref9_order : ∀ (a0 : List UInt8) (a1 : List UInt8) (r : Int), self_ref9_order a0 a1 = some r → Pure Tryz.prog 79 [(.exact (.string (bs a0))), (.exact (.string (bs a1)))] (.exact (.int .i64 r))) (a0 : List UInt8) (a1 : Int) (a2 : Bool) (r : Int × (List (List UInt8)) × Int) (h : m_ref9_walk_F self_ref9_walk self_ref9_order a0 a1 a2 = some r) : Pure Tryz.prog 76 [(.exact (.string (bs a0))), (.exact (.int .i64 a1)), (.exact (.bool a2))] (.tup [.exact (.int .i64 r.1), .row 1 zab r.2.1, .exact (.int .i64 r.2.2)]) := by
 unfold m_ref9_walk_F at h
 refine Pure.ofFun (fun_of_awp Tryz.func76 rfl Tryz.ntmps76 (by simp) rfl (res3 rfl) fun E hE => k_end ?_)
 refine zad (kr ?_)
 refine qa (.xi 0) rfl ?_
 refine qa (.exact (.slice none 0 0)) rfl ?_
 refine qa (.xi 0) rfl ?_
 refine G_nil (zaa (zad ?_))
 refine k_join1_0 h (fun (x24_j3 : Bool) => (pt (pt (pt (pt AF0 0 (.xs a0)) 1 (.xi a1)) 2 (.xb a2)) 24 (.xb x24_j3))) (fun (x24_j3 : Bool) => []) (fun k3 h => ?_) (fun x24_j3 h => ?_)
 ·refine kr ?_
  refine qm (.xs a0) rfl ?_
  refine G_q rfl (op_lenS (by kernel_rfl) rfl ?_)
  refine G_q rfl (op_lss rfl rfl ?_)
  refine qm (.xb (decide ((List.length a0 : Int) < 2))) rfl ?_
  refine G_split (p := (List.length a0 : Int) < 2) 21 rfl (fun hc => ?_) (fun hc => ?_)
  ·replace h := ite_t h hc
   refine G_n rfl rfl (G_n rfl rfl ?_)
   refine G_q rfl (zak rfl (av := .xb true) rfl ?_)
   refine G_nil ?_
   refine zac ⟨_, h, ?_⟩
   exact so (l4 rfl rfl rfl rfl lt0)
  ·replace h := ite_f h hc
   refine Gy_q rfl rfl rfl (zaf (av := .xi a1) rfl ?_)
   refine Gy_q rfl rfl rfl (op_eql rfl rfl ?_)
   refine G_q rfl (zah rfl (av := .xb (decide (a1 = 0))) rfl ?_)
   refine G_nil ?_
   refine zac ⟨_, h, ?_⟩
   exact so (l4 rfl rfl rfl rfl lt0)
 ·refine kb (p := x24_j3) rfl h (fun hc h => ?_) (fun hc h => ?_)
  ·refine zad (kr ?_)
   refine qa (.xi 0) rfl ?_
   refine qa (.exact (.slice none 0 0)) rfl ?_
   refine qa (.xi 0) rfl ?_
   refine G_nil (zaa (k_ret (kC_ret ?_)))
   obtain rfl := Option.some.inj h
   refine ke (pt (pt (pt AF0 6 (.xi 0)) 7 (.row 1 zab [])) 8 (.xi 0)) [] rfl ?_ ⟨rfl, rfl⟩
   exact so (lq rfl (AF.le_put (row_nil (by decide)) (lq rfl lt0)))
  ·refine k_skip (zaa (zad (zad (kr ?_))))
   refine qm (.xs a0) rfl ?_
   obtain ⟨n8, h⟩ := need_some h
   refine G_q rfl (op_index_str (by kernel_rfl) rfl rfl n8.1 n8.2 ?_)
   refine G_q rfl (op_convInt (k := .i64) (r := (UInt8.toNat (gi a0 0) : Int)) (by kernel_rfl) rfl (wrap_u8 rfl _) ?_)
   refine qa (.xi (UInt8.toNat (gi a0 0) : Int)) rfl ?_
   refine G_nil (zaa (k_block (zad (kr ?_))))
   refine qm (.xi (UInt8.toNat (gi a0 0) : Int)) rfl ?_
   refine G_q rfl (op_eql rfl rfl ?_)
   refine qa (.xb (decide ((UInt8.toNat (gi a0 0) : Int) = 1))) rfl ?_
   refine G_nil (zaa ?_)
   refine kd (p := (UInt8.toNat (gi a0 0) : Int) = 1) rfl h (fun hc h => ?_) (fun hc h => ?_)
   ·refine zad (zad (kr ?_))
    refine qm (.xs a0) rfl ?_
    refine G_q rfl (op_lenS (by kernel_rfl) rfl ?_)
    refine G_q rfl (op_lss rfl rfl ?_)
    refine G_nil (zaa ?_)
    refine kd (p := (List.length a0 : Int) < 9) rfl h (fun hc h => ?_) (fun hc h => ?_)
    ·refine zad (kr ?_)
     refine qa (.xi 0) rfl ?_
     refine qa (.exact (.slice none 0 0)) rfl ?_
     refine qa (.xi 0) rfl ?_
     refine G_nil (zaa (k_ret (kC_ret (kB_ret (kC_ret ?_)))))
     obtain rfl := Option.some.inj h
     refine ke (pt (pt (pt AF0 6 (.xi 0)) 7 (.row 1 zab [])) 8 (.xi 0)) [] rfl ?_ ⟨rfl, rfl⟩
     exact so (lq rfl (AF.le_put (row_nil (by decide)) (lq rfl lt0)))
    ·refine k_skip (zaa (zad (kr ?_)))
     refine qa (.xi 9) rfl ?_
     refine qa (.exact (.slice none 0 0)) rfl ?_
     refine qa (.xi 1) rfl ?_
     refine G_nil (zaa (k_ret (kB_ret (kC_ret ?_))))
     obtain rfl := Option.some.inj h
     refine ke (pt (pt (pt AF0 6 (.xi 9)) 7 (.row 1 zab [])) 8 (.xi 1)) [] rfl ?_ ⟨rfl, rfl⟩
     exact so (lq rfl (AF.le_put (row_nil (by decide)) (lq rfl lt0)))
   ·refine zad (kr ?_)
    refine qm (.xi (UInt8.toNat (gi a0 0) : Int)) rfl ?_
    refine G_q rfl (op_eql rfl rfl ?_)
    refine qa (.xb (decide ((UInt8.toNat (gi a0 0) : Int) = 2))) rfl ?_
    refine G_nil (zaa ?_)
    refine kd (p := (UInt8.toNat (gi a0 0) : Int) = 2) rfl h (fun hc h => ?_) (fun hc h => ?_)
    ·refine zad (zad (kr ?_))
     refine qm (.xs a0) rfl ?_
     obtain ⟨n9, h⟩ := need_some h
     refine G_q rfl (op_index_str (by kernel_rfl) rfl rfl n9.1 n9.2 ?_)
     refine G_q rfl (op_gtrU (a := (gi a0 1)) (b := 1) rfl rfl ?_)
     refine G_nil (zaa ?_)
     refine kd (p := 1 < (gi a0 1)) rfl h (fun hc h => ?_) (fun hc h => ?_)
     ·refine zad (kr ?_)
      refine qa (.xi 0) rfl ?_
      refine qa (.exact (.slice none 0 0)) rfl ?_
      refine qa (.xi 0) rfl ?_
      refine G_nil (zaa (k_ret (kC_ret (kB_ret (kC_ret ?_)))))
      obtain rfl := Option.some.inj h
      refine ke (pt (pt (pt AF0 6 (.xi 0)) 7 (.row 1 zab [])) 8 (.xi 0)) [] rfl ?_ ⟨rfl, rfl⟩
      exact so (lq rfl (AF.le_put (row_nil (by decide)) (lq rfl lt0)))
     ·refine k_skip (zaa (zad (kr ?_)))
      refine qa (.xi 2) rfl ?_
      refine qa (.exact (.slice none 0 0)) rfl ?_
      refine qa (.xi 1) rfl ?_
      refine G_nil (zaa (k_ret (kB_ret (kC_ret ?_))))
      obtain rfl := Option.some.inj h
      refine ke (pt (pt (pt AF0 6 (.xi 2)) 7 (.row 1 zab [])) 8 (.xi 1)) [] rfl ?_ ⟨rfl, rfl⟩
      exact so (lq rfl (AF.le_put (row_nil (by decide)) (lq rfl lt0)))
    ·refine k_join1_0 h (fun (x40_j10 : Bool) => (pt (pt (pt (pt (pt AF0 0 (.xs a0)) 1 (.xi a1)) 2 (.xb a2)) 9 (.xi (UInt8.toNat (gi a0 0) : Int))) 40 (.xb x40_j10))) (fun (x40_j10 : Bool) => []) (fun k10 h => ?_) (fun x40_j10 h => ?_)
     ·refine kr ?_
      refine qm (.xs a0) rfl ?_
      refine G_q rfl (op_lenS (by kernel_rfl) rfl ?_)
      refine G_q rfl (op_lss rfl rfl ?_)
      refine qm (.xb (decide ((List.length a0 : Int) < 3))) rfl ?_
      refine G_split (p := (List.length a0 : Int) < 3) 44 rfl (fun hc => ?_) (fun hc => ?_)
      ·replace h := ite_t h hc
       refine G_n rfl rfl (G_n rfl rfl ?_)
       refine G_q rfl (zak rfl (av := .xb true) rfl ?_)
       refine qm (.xb true) rfl ?_
       refine G_n rfl rfl (G_n rfl rfl ?_)
       refine G_q rfl (zak rfl (av := .xb true) rfl ?_)
       refine qa (.xb true) rfl ?_
       refine G_nil ?_
       refine zac ⟨_, h, ?_⟩
       exact so (l4 rfl rfl rfl rfl (lq rfl lt0))
      ·replace h := ite_f h hc
       refine Gy_q rfl rfl rfl (zaf (av := .xi (UInt8.toNat (gi a0 0) : Int)) rfl ?_)
       refine Gy_q rfl rfl rfl (op_lss rfl rfl ?_)
       refine G_q rfl (zah rfl (av := .xb (decide ((UInt8.toNat (gi a0 0) : Int) < 3))) rfl ?_)
       refine qm (.xb (decide ((UInt8.toNat (gi a0 0) : Int) < 3))) rfl ?_
       refine G_split (p := (UInt8.toNat (gi a0 0) : Int) < 3) 48 rfl (fun hc => ?_) (fun hc => ?_)
       ·replace h := ite_t h hc
        refine G_n rfl rfl (G_n rfl rfl ?_)
        refine G_q rfl (zak rfl (av := .xb true) rfl ?_)
        refine qa (.xb true) rfl ?_
        refine G_nil ?_
        refine zac ⟨_, h, ?_⟩
        exact so (l4 rfl rfl rfl rfl (lq rfl lt0))
       ·replace h := ite_f h hc
        refine Gy_q rfl rfl rfl (zaf (av := .xi (UInt8.toNat (gi a0 0) : Int)) rfl ?_)
        refine Gy_q rfl rfl rfl (op_gtr rfl rfl ?_)
        refine G_q rfl (zah rfl (av := .xb (decide (10 < (UInt8.toNat (gi a0 0) : Int)))) rfl ?_)
        refine qa (.xb (decide (10 < (UInt8.toNat (gi a0 0) : Int)))) rfl ?_
        refine G_nil ?_
        refine zac ⟨_, h, ?_⟩
        exact so (l4 rfl rfl rfl rfl (lq rfl lt0))
     ·refine kb (p := x40_j10) rfl h (fun hc h => ?_) (fun hc h => ?_)
      ·refine zad (kr ?_)
       refine qa (.xi 0) rfl ?_
       refine qa (.exact (.slice none 0 0)) rfl ?_
       refine qa (.xi 0) rfl ?_
       refine G_nil (zaa (k_ret (kB_ret (kC_ret ?_))))
       obtain rfl := Option.some.inj h
       refine ke (pt (pt (pt AF0 6 (.xi 0)) 7 (.row 1 zab [])) 8 (.xi 0)) [] rfl ?_ ⟨rfl, rfl⟩
       exact so (lq rfl (AF.le_put (row_nil (by decide)) (lq rfl lt0)))
      ·refine zad (kr ?_)
       refine qm (.xi (UInt8.toNat (gi a0 0) : Int)) rfl ?_
       refine G_q rfl (op_eql rfl rfl ?_)
       refine qa (.xb (decide ((UInt8.toNat (gi a0 0) : Int) = 10))) rfl ?_
       refine G_nil (zaa ?_)
       refine kd (p := (UInt8.toNat (gi a0 0) : Int) = 10) rfl h (fun hc h => ?_) (fun hc h => ?_)
       ·refine zad (kr ?_)
        refine qa (.xi 3) rfl ?_
        refine qa (.exact (.slice none 0 0)) rfl ?_
        refine qa (.xi 1) rfl ?_
        refine G_nil (zaa (k_ret (kB_ret (kC_ret ?_))))
        obtain rfl := Option.some.inj h
        refine ke (pt (pt (pt AF0 6 (.xi 3)) 7 (.row 1 zab [])) 8 (.xi 1)) [] rfl ?_ ⟨rfl, rfl⟩
        exact so (lq rfl (AF.le_put (row_nil (by decide)) (lq rfl lt0)))
       ·refine k_skip (kB_normal (zaa (zad ?_)))
        refine k_plan [] [(0, 0), (0, 1), (0, 2), (0, 3), (0, 4), (0, 5), (0, 6), (0, 7), (0, 8)] hmixP (by kernel_rfl) ?_
        refine P_q no34_0 rfl (zaf (av := .xs a0) rfl ?_)
        obtain ⟨n11, h⟩ := need_some h
        refine P_q no34_0 rfl (op_index_str (by kernel_rfl) rfl rfl n11.1 n11.2 ?_)
        refine P_q no34_0 rfl (op_convInt (k := .i64) (r := (UInt8.toNat (gi a0 1) : Int)) (by kernel_rfl) rfl (wrap_u8 rfl _) ?_)
        refine P_q no34_0 rfl (op_shl rfl rfl (by decide) rfl ?_)
        refine P_q no34_0 rfl (zaf (av := .xs a0) rfl ?_)
        obtain ⟨n12, h⟩ := need_some h
        refine P_q no34_0 rfl (op_index_str (by kernel_rfl) rfl rfl n12.1 n12.2 ?_)
        refine P_q no34_0 rfl (op_convInt (k := .i64) (r := (UInt8.toNat (gi a0 2) : Int)) (by kernel_rfl) rfl (wrap_u8 rfl _) ?_)
        refine P_q no34_0 rfl (op_or rfl rfl rfl ?_)
        refine P_q no34_0 rfl (op_assign (av := .xi (bOr .i64 (i64 ((UInt8.toNat (gi a0 1) : Int) * 2 ^ min (Int.toNat 8) IntKind.i64.bits)) (UInt8.toNat (gi a0 2) : Int))) rfl ?_)
        refine P_nil (zaa (zad (kr ?_)))
        refine qa (.xi 3) rfl ?_
        refine qa (.xi 0) rfl ?_
        refine G_nil (zaa (zad (kr ?_)))
        refine qa (.exact (.slice none 0 0)) rfl ?_
        refine G_nil (zaa ?_)
        refine k_join3_1 h (fun (x11_j13 : Int) (x12_j13 : Int) (x13_j13 : List (List UInt8)) (v13_j13 : Value) => (pt (pt (pt (pt (pt AF0 0 (.xs a0)) 2 (.xb a2)) 11 (.xi x11_j13)) 12 (.xi x12_j13)) 13 (.exact v13_j13))) (fun (x11_j13 : Int) (x12_j13 : Int) (x13_j13 : List (List UInt8)) (v13_j13 : Value) => [vecT Tryz.prog 27 1 zab v13_j13 x13_j13]) (fun k13 h => ?_) (fun x11_j13 x12_j13 x13_j13 v13_j13 h => ?_)
        ·refine zad (kr ?_)
         refine qa (.xi 0) rfl ?_
         refine G_nil (zaa (k_block ?_))
         refine k_loop4_1 (m_ref9_walk_L2 self_ref9_walk a0 a1 a2 k13) (m_ref9_walk_B2 self_ref9_walk a0 a1 a2 k13) (fun _ _ _ _ => rfl) (fun m _ _ _ _ => rfl) h (fun (x11_l2 : Int) (x12_l2 : Int) (x13_l2 : List (List UInt8)) (x14_l2 : Int) (v13_l2 : Value) => (pt (pt (pt (pt (pt (pt (pt (pt AF0 0 (.xs a0)) 1 (.xi a1)) 2 (.xb a2)) 10 (.xi (bOr .i64 (i64 ((UInt8.toNat (gi a0 1) : Int) * 2 ^ min (Int.toNat 8) IntKind.i64.bits)) (UInt8.toNat (gi a0 2) : Int)))) 11 (.xi x11_l2)) 12 (.xi x12_l2)) 13 (.exact v13_l2)) 14 (.xi x14_l2))) (fun (x11_l2 : Int) (x12_l2 : Int) (x13_l2 : List (List UInt8)) (x14_l2 : Int) (v13_l2 : Value) => [vecT Tryz.prog 27 1 zab v13_l2 x13_l2]) (.slice none 0 0) ?_ (fun rec2 x11_l2 x12_l2 x13_l2 x14_l2 v13_l2 h => ?_)
         ·refine Sub.trans (SubU.to (SubU.nilT (P := Tryz.prog) (t := 27) (n := 1) (enc := zab))) ?_
          exact so (l4 rfl rfl rfl rfl (l4 rfl rfl rfl rfl lt0))
         ·unfold m_ref9_walk_B2 at h
          refine zad (zad (kr ?_))
          refine qm (.xi x14_l2) rfl ?_
          refine qm (.xi (bOr .i64 (i64 ((UInt8.toNat (gi a0 1) : Int) * 2 ^ min (Int.toNat 8) IntKind.i64.bits)) (UInt8.toNat (gi a0 2) : Int))) rfl ?_
          refine G_q rfl (op_lss rfl rfl ?_)
          refine G_nil (zaa ?_)
          refine kd (p := x14_l2 < (bOr .i64 (i64 ((UInt8.toNat (gi a0 1) : Int) * 2 ^ min (Int.toNat 8) IntKind.i64.bits)) (UInt8.toNat (gi a0 2) : Int))) rfl h (fun hc h => ?_) (fun hc h => ?_)
          ·refine k_skip (zaa (zad (k_block (zad (kr ?_)))))
           refine qm (.xs a0) rfl ?_
           refine qm (.xi x11_l2) rfl ?_
           obtain ⟨n40, h⟩ := need_some h
           refine G_q rfl (op_slice_strd (by kernel_rfl) rfl (bnd_some rfl) bnd_none n40.1 n40.2 (Int.le_refl _) ?_)
           refine qm (.xi a1) rfl ?_
           refine G_q rfl (op_sub rfl rfl rfl ?_)
           refine qm (.xb a2) rfl ?_
           obtain ⟨y41, hy41, h⟩ := bnd1_some h
           refine G_q rfl (zai (hself_ref9_walk _ _ _ _ hy41) Tryz.func76 (by kernel_rfl) (LEs.cons (AV.le_eq rfl) (LEs.cons (AV.le_eq rfl) (LEs.cons (AV.le_eq rfl) LEs.nil))) ?_)
           refine qm (.tup [.xi y41.1, .row 1 zab y41.2.1, .xi y41.2.2]) rfl ?_
           refine G_q rfl (op_extract (av := .xi y41.1) rfl rfl ?_)
           refine G_q rfl (op_extract (av := .row 1 zab y41.2.1) rfl rfl ?_)
           refine G_q rfl (op_extract (av := .xi y41.2.2) rfl rfl ?_)
           refine qa (.xi y41.1) rfl ?_
           refine qa (.row 1 zab y41.2.1) rfl ?_
           refine qa (.xi y41.2.2) rfl ?_
           refine G_nil (zaa (zad (zad (kr ?_))))
           refine qm (.xi y41.1) rfl ?_
           refine G_q rfl (op_eql rfl rfl ?_)
           refine G_nil (zaa ?_)
           refine kd (p := y41.1 = 0) rfl h (fun hc h => ?_) (fun hc h => ?_)
           ·refine zad (kr ?_)
            refine qa (.xi 0) rfl ?_
            refine qa (.exact (.slice none 0 0)) rfl ?_
            refine qa (.xi 0) rfl ?_
            refine G_nil (zaa (k_ret (kC_ret (kB_ret (kC_ret (kI_ret (kB_ret (kI_ret ?_))))))))
            obtain rfl := Option.some.inj h
            refine ke (pt (pt (pt AF0 6 (.xi 0)) 7 (.row 1 zab [])) 8 (.xi 0)) [] rfl ?_ ⟨rfl, rfl⟩
            refine Sub.trans (SubU.to SubU.drop) ?_
            exact so (lq rfl (AF.le_put (row_nil (by decide)) (lq rfl lt0)))
           ·refine k_skip (zaa (zad (kr ?_)))
            refine qm (.exact v13_l2) rfl ?_
            refine qm (.xs a0) rfl ?_
            refine qm (.xi x11_l2) rfl ?_
            refine qm (.xi x11_l2) rfl ?_
            refine qm (.xi y41.1) rfl ?_
            refine G_q rfl (op_add rfl rfl rfl ?_)
            obtain ⟨n42, h⟩ := need_some h
            refine G_q rfl (op_slice_str (by kernel_rfl) rfl (bnd_some rfl) (bnd_some rfl) n42.1 n42.2.1 n42.2.2 ?_)
            refine G_q rfl (op_litT (n := 1) (enc := zab) [List.take (Int.toNat (i64 (x11_l2 + y41.1)) - Int.toNat x11_l2) (List.drop (Int.toNat x11_l2) a0)] (CellsAll.cons rfl CellsOf.str CellsAll.nil) rfl (by kernel_rfl) (LEss.cons (LEs.cons (AV.le_eq rfl) LEs.nil) LEss.nil) ?_)
            obtain ⟨n43, h⟩ := need_some h
            refine G_l rfl (op_appT (by kernel_rfl) rfl rfl oc_c_api_Value n43 (fun v44 => ?_))
            refine qa (.exact v44) rfl ?_
            refine G_nil (zaa (zad (kr ?_)))
            refine qm (.xi x11_l2) rfl ?_
            refine qm (.xi y41.1) rfl ?_
            refine G_q rfl (op_add rfl rfl rfl ?_)
            refine qa (.xi (i64 (x11_l2 + y41.1))) rfl ?_
            refine G_nil (zaa (kr ?_))
            refine qm (.xi x12_l2) rfl ?_
            refine qm (.xi y41.2.2) rfl ?_
            refine G_q rfl (op_max rfl rfl ?_)
            refine qa (.xi (max x12_l2 y41.2.2)) rfl ?_
            refine G_nil (kB_normal (zaa (kr ?_)))
            refine qm (.xi x14_l2) rfl ?_
            refine G_q rfl (op_add rfl rfl rfl ?_)
            refine qa (.xi (i64 (x14_l2 + 1))) rfl ?_
            refine G_nil ?_
            refine zac ⟨_, _, _, _, v44, h, ?_⟩
            exact so (l4 rfl rfl rfl rfl (l4 rfl rfl rfl rfl lt0))
          ·refine k_exit (kC_exit (kI_exit (kB_exit ?_)))
           refine zac ⟨_, _, _, v13_l2, h, ?_⟩
           exact so (l4 rfl rfl rfl rfl (lq rfl lt0))
        ·refine zad ?_
         refine k_join2_0 h (fun (x13_j51 : List (List UInt8)) (x104_j51 : Bool) => (pt (pt (pt (pt AF0 11 (.xi x11_j13)) 12 (.xi x12_j13)) 13 (.row 1 zab x13_j51)) 104 (.xb x104_j51))) (fun (x13_j51 : List (List UInt8)) (x104_j51 : Bool) => []) (fun k51 h => ?_) (fun x13_j51 x104_j51 h => ?_)
         ·refine kr ?_
          refine qm (.xb a2) rfl ?_
          refine qm (.xb a2) rfl ?_
          refine G_splitB (c := a2) 97 rfl (fun hc => ?_) (fun hc => ?_)
          ·replace h := ite_t h hc
           refine Gy_q rfl rfl rfl (zaf (av := .xs a0) rfl ?_)
           obtain ⟨n54, h⟩ := need_some h
           refine Gy_q rfl rfl rfl (op_index_str (by kernel_rfl) rfl rfl n54.1 n54.2 ?_)
           refine Gy_q rfl rfl rfl (op_convInt (k := .i64) (r := (UInt8.toNat (gi a0 0) : Int)) (by kernel_rfl) rfl (wrap_u8 rfl _) ?_)
           refine Gy_q rfl rfl rfl (zaf (av := .exact v13_j13) rfl ?_)
           refine G_sub rfl (SubU.freezeT2 (s1 := 13) (s2 := 101) rfl rfl len_c_api_Value) ?_
           obtain ⟨y55, hy55, h⟩ := bnd1_some h
           refine Gy_q rfl rfl rfl (zai (m_ref9_parted_ok self_ref9_walk hself_ref9_walk self_ref9_order hself_ref9_order _ _ _ hy55) Tryz.func92 (by kernel_rfl) (LEs.cons (AV.le_eq rfl) (LEs.cons (AV.le_eq rfl) LEs.nil)) ?_)
           refine Gy_q rfl rfl rfl (op_not rfl ?_)
           refine G_q rfl (zak rfl (av := .xb (!y55)) rfl ?_)
           refine G_nil ?_
           refine zac ⟨_, _, h, ?_⟩
           exact so (l4 rfl rfl rfl rfl lt0)
          ·replace h := ite_f h hc
           refine G_n rfl rfl (G_n rfl rfl (G_n rfl rfl (G_n rfl rfl (G_n rfl rfl (G_n rfl rfl ?_)))))
           refine G_q rfl (zah rfl (av := .xb false) rfl ?_)
           refine G_nil ?_
           refine zac ⟨_, _, h, ?_⟩
           refine Sub.trans (SubU.to (SubU.freezeT (s := 13) rfl len_c_api_Value)) ?_
           exact so (l4 rfl rfl rfl rfl lt0)
         ·refine kb (p := x104_j51) rfl h (fun hc h => ?_) (fun hc h => ?_)
          ·refine zad (kr ?_)
           refine qa (.xi 0) rfl ?_
           refine qa (.exact (.slice none 0 0)) rfl ?_
           refine qa (.xi 0) rfl ?_
           refine G_nil (zaa (k_ret (kC_ret ?_)))
           obtain rfl := Option.some.inj h
           refine ke (pt (pt (pt AF0 6 (.xi 0)) 7 (.row 1 zab [])) 8 (.xi 0)) [] rfl ?_ ⟨rfl, rfl⟩
           exact so (lq rfl (AF.le_put (row_nil (by decide)) (lq rfl lt0)))
          ·refine k_skip (zaa (zad (kr ?_)))
           refine qm (.xi x11_j13) rfl ?_
           refine qm (.row 1 zab x13_j51) rfl ?_
           refine qm (.xi x12_j13) rfl ?_
           refine G_q rfl (op_add rfl rfl rfl ?_)
           refine qa (.xi x11_j13) rfl ?_
           refine qa (.row 1 zab x13_j51) rfl ?_
           refine qa (.xi (i64 (x12_j13 + 1))) rfl ?_
           refine G_nil (zaa (k_ret ?_))
           obtain rfl := Option.some.inj h
           refine ke (pt (pt (pt AF0 6 (.xi x11_j13)) 7 (.row 1 zab x13_j51)) 8 (.xi (i64 (x12_j13 + 1)))) [] rfl ?_ ⟨rfl, rfl⟩
           exact so (lq rfl (lq rfl (lq rfl lt0)))
set_option maxHeartbeats 4000000 in
theorem m_ref9_sign_ok (a0 : Bool) (a1 : Bool) (r : Int) (h : m_ref9_sign a0 a1 = some r) : Pure Tryz.prog 80 [(.exact (.bool a0)), (.exact (.bool a1))] (.exact (.int .i64 r)) := by
 unfold m_ref9_sign at h
 refine Pure.ofFun (fun_of_awp Tryz.func80 rfl Tryz.ntmps80 (by simp) rfl (res1 rfl) fun E hE => k_end ?_)
 refine zad (kr ?_)
 refine qa (.xi 0) rfl ?_
 refine G_nil (zaa (zad (k_block (zad (kr ?_)))))
 refine qm (.xb a0) rfl ?_
 refine qa (.xb a0) rfl ?_
 refine G_nil (zaa ?_)
 refine kb (p := a0) rfl h (fun hc h => ?_) (fun hc h => ?_)
 ·refine zad (kr ?_)
  refine qa (.xi (-1)) rfl ?_
  refine G_nil (zaa (k_ret (kB_ret (kC_ret ?_))))
  obtain rfl := Option.some.inj h
  refine ke (pt AF0 4 (.xi (-1))) [] rfl ?_ ⟨rfl, rfl⟩
  exact so (lq rfl lt0)
 ·refine zad (kr ?_)
  refine qm (.xb a1) rfl ?_
  refine qa (.xb a1) rfl ?_
  refine G_nil (zaa ?_)
  refine kb (p := a1) rfl h (fun hc h => ?_) (fun hc h => ?_)
  ·refine zad (kr ?_)
   refine qa (.xi 1) rfl ?_
   refine G_nil (zaa (k_ret (kB_ret (kC_ret ?_))))
   obtain rfl := Option.some.inj h
   refine ke (pt AF0 4 (.xi 1)) [] rfl ?_ ⟨rfl, rfl⟩
   exact so (lq rfl lt0)
  ·refine k_skip (kB_normal (zaa (zad (kr ?_))))
   refine qa (.xi 0) rfl ?_
   refine G_nil (zaa (k_ret ?_))
   obtain rfl := Option.some.inj h
   refine ke (pt AF0 4 (.xi 0)) [] rfl ?_ ⟨rfl, rfl⟩
   exact so (lq rfl lt0)
set_option maxHeartbeats 4000000 in
theorem m_ref9_order_F_ok (self_ref9_walk : (List UInt8) → Int → Bool → Option (Int × (List (List UInt8)) × Int)) (hself_ref9_walk : ∀ (a0 : List UInt8) (a1 : Int) (a2 : Bool) (r : Int × (List (List UInt8)) × Int), self_ref9_walk a0 a1 a2 = some r → Pure Tryz.prog 76 [(.exact (.string (bs a0))), (.exact (.int .i64 a1)), (.exact (.bool a2))] (.tup [.exact (.int .i64 r.1), .row 1 zab r.2.1, .exact (.int .i64 r.2.2)])) (self_ref9_order : (List UInt8) → (List UInt8) → Option Int) (hself_ref9_order : ∀ (a0 : List UInt8) (a1 : List UInt8) (r : Int), self_ref9_order a0 a1 = some r → Pure Tryz.prog 79 [(.exact (.string (bs a0))), (.exact (.string (bs a1)))] (.exact (.int .i64 r))) (a0 : List UInt8) (a1 : List UInt8) (r : Int) (h : m_ref9_order_F self_ref9_walk self_ref9_order a0 a1 = some r) : Pure Tryz.prog 79 [(.exact (.string (bs a0))), (.exact (.string (bs a1)))] (.exact (.int .i64 r)) := by
 unfold m_ref9_order_F at h
 refine Pure.ofFun (fun_of_awp Tryz.func79 rfl Tryz.ntmps79 (by simp) rfl (res1 rfl) fun E hE => k_end ?_)
 refine zad (kr ?_)
 refine qa (.xi 0) rfl ?_
 refine G_nil (zaa (zad (k_block (zad (kr ?_)))))
 refine qm (.xs a0) rfl ?_
 refine qm (.xs a1) rfl ?_
 refine G_q rfl (op_eqlS rfl rfl ?_)
 refine qa (.xb (decide (a0 = a1))) rfl ?_
 refine G_nil (zaa ?_)
 refine kd (p := a0 = a1) rfl h (fun hc h => ?_) (fun hc h => ?_)
 ·refine zad (kr ?_)
  refine qa (.xi 0) rfl ?_
  refine G_nil (zaa (k_ret (kB_ret (kC_ret ?_))))
  obtain rfl := Option.some.inj h
  refine ke (pt AF0 4 (.xi 0)) [] rfl ?_ ⟨rfl, rfl⟩
  exact so (lq rfl lt0)
 ·refine zad ?_
  refine k_plan [] [(0, 0), (0, 1), (0, 2), (0, 3), (0, 4), (0, 5)] hmixP (by kernel_rfl) ?_
  refine P_q no34_0 rfl (zaf (av := .xs a0) rfl ?_)
  obtain ⟨n19, h⟩ := need_some h
  refine P_q no34_0 rfl (op_index_str (by kernel_rfl) rfl rfl n19.1 n19.2 ?_)
  refine P_q no34_0 rfl (zaf (av := .xs a1) rfl ?_)
  obtain ⟨n20, h⟩ := need_some h
  refine P_q no34_0 rfl (op_index_str (by kernel_rfl) rfl rfl n20.1 n20.2 ?_)
  refine P_q no34_0 rfl (op_neqU (a := (gi a0 0)) (b := (gi a1 0)) rfl rfl ?_)
  refine P_q no34_0 rfl (op_assign (av := .xb (decide (¬ (gi a0 0) = (gi a1 0)))) rfl ?_)
  refine P_nil (zaa ?_)
  refine kd (p := ¬ (gi a0 0) = (gi a1 0)) rfl h (fun hc h => ?_) (fun hc h => ?_)
  ·refine zad ?_
   refine k_plan [] [(0, 0), (0, 1), (0, 2), (0, 3), (0, 4), (0, 5), (0, 6)] hmixP (by kernel_rfl) ?_
   refine P_q no34_0 rfl (zaf (av := .xs a0) rfl ?_)
   obtain ⟨n21, h⟩ := need_some h
   refine P_q no34_0 rfl (op_index_str (by kernel_rfl) rfl rfl n21.1 n21.2 ?_)
   refine P_q no34_0 rfl (zaf (av := .xs a1) rfl ?_)
   obtain ⟨n22, h⟩ := need_some h
   refine P_q no34_0 rfl (op_index_str (by kernel_rfl) rfl rfl n22.1 n22.2 ?_)
   refine P_q no34_0 rfl (op_lssU (a := (gi a0 0)) (b := (gi a1 0)) rfl rfl ?_)
   obtain ⟨y23, hy23, h⟩ := bnd1_some h
   refine P_q no34_0 rfl (zai (m_ref9_sign_ok _ _ _ hy23) Tryz.func80 (by kernel_rfl) (LEs.cons (AV.le_eq rfl) (LEs.cons (AV.le_eq rfl) LEs.nil)) ?_)
   refine P_q no34_0 rfl (op_assign (av := .xi y23) rfl ?_)
   refine P_nil (zaa (k_ret (kB_ret (kC_ret ?_))))
   obtain rfl := Option.some.inj h
   refine ke (pt AF0 4 (.xi y23)) [] rfl ?_ ⟨rfl, rfl⟩
   exact so (lq rfl lt0)
  ·refine zad (kr ?_)
   refine qm (.xs a0) rfl ?_
   obtain ⟨n24, h⟩ := need_some h
   refine G_q rfl (op_index_str (by kernel_rfl) rfl rfl n24.1 n24.2 ?_)
   refine G_q rfl (op_convInt (k := .i64) (r := (UInt8.toNat (gi a0 0) : Int)) (by kernel_rfl) rfl (wrap_u8 rfl _) ?_)
   refine G_q rfl (op_eql rfl rfl ?_)
   refine qa (.xb (decide ((UInt8.toNat (gi a0 0) : Int) = 1))) rfl ?_
   refine G_nil (zaa ?_)
   refine kd (p := (UInt8.toNat (gi a0 0) : Int) = 1) rfl h (fun hc h => ?_) (fun hc h => ?_)
   ·refine zad ?_
    refine k_plan [] [(0, 0), (0, 1), (0, 2), (0, 3), (0, 4), (0, 5), (0, 6), (0, 7)] hmixP (by kernel_rfl) ?_
    refine P_q no34_0 rfl (zaf (av := .xs a0) rfl ?_)
    obtain ⟨n25, h⟩ := need_some h
    refine P_q no34_0 rfl (op_slice_strd (by kernel_rfl) rfl (bnd_some rfl) bnd_none (by decide) n25 (Int.le_refl _) ?_)
    obtain ⟨y26, hy26, h⟩ := bnd1_some h
    refine P_q no34_0 rfl (zai (m_ref9_number_ok _ _ hy26) Tryz.func94 (by kernel_rfl) (LEs.cons (AV.le_eq rfl) LEs.nil) ?_)
    refine P_q no34_0 rfl (zaf (av := .xs a1) rfl ?_)
    obtain ⟨n27, h⟩ := need_some h
    refine P_q no34_0 rfl (op_slice_strd (by kernel_rfl) rfl (bnd_some rfl) bnd_none (by decide) n27 (Int.le_refl _) ?_)
    obtain ⟨y28, hy28, h⟩ := bnd1_some h
    refine P_q no34_0 rfl (zai (m_ref9_number_ok _ _ hy28) Tryz.func94 (by kernel_rfl) (LEs.cons (AV.le_eq rfl) LEs.nil) ?_)
    refine P_q no34_0 rfl (op_assign (av := .xi y26) rfl ?_)
    refine P_q no34_0 rfl (op_assign (av := .xi y28) rfl ?_)
    refine P_nil (zaa (zad (kr ?_)))
    refine qm (.xi y26) rfl ?_
    refine qm (.xi y28) rfl ?_
    refine G_q rfl (op_lss rfl rfl ?_)
    refine qm (.xi y26) rfl ?_
    refine qm (.xi y28) rfl ?_
    refine G_q rfl (op_gtr rfl rfl ?_)
    obtain ⟨y29, hy29, h⟩ := bnd1_some h
    refine G_q rfl (zai (m_ref9_sign_ok _ _ _ hy29) Tryz.func80 (by kernel_rfl) (LEs.cons (AV.le_eq rfl) (LEs.cons (AV.le_eq rfl) LEs.nil)) ?_)
    refine qa (.xi y29) rfl ?_
    refine G_nil (zaa (k_ret (kB_ret (kC_ret ?_))))
    obtain rfl := Option.some.inj h
    refine ke (pt AF0 4 (.xi y29)) [] rfl ?_ ⟨rfl, rfl⟩
    exact so (lq rfl lt0)
   ·refine k_join1_0 h (fun (x49_j30 : Bool) => (pt (pt (pt AF0 0 (.xs a0)) 1 (.xs a1)) 49 (.xb x49_j30))) (fun (x49_j30 : Bool) => []) (fun k30 h => ?_) (fun x49_j30 h => ?_)
    ·refine kr ?_
     refine qm (.xs a0) rfl ?_
     obtain ⟨n33, h⟩ := need_some h
     refine G_q rfl (op_index_str (by kernel_rfl) rfl rfl n33.1 n33.2 ?_)
     refine G_q rfl (op_convInt (k := .i64) (r := (UInt8.toNat (gi a0 0) : Int)) (by kernel_rfl) rfl (wrap_u8 rfl _) ?_)
     refine G_q rfl (op_eql rfl rfl ?_)
     refine qm (.xb (decide ((UInt8.toNat (gi a0 0) : Int) = 2))) rfl ?_
     refine G_split (p := (UInt8.toNat (gi a0 0) : Int) = 2) 54 rfl (fun hc => ?_) (fun hc => ?_)
     ·replace h := ite_t h hc
      refine G_n rfl rfl (G_n rfl rfl (G_n rfl rfl (G_n rfl rfl ?_)))
      refine G_q rfl (zak rfl (av := .xb true) rfl ?_)
      refine qa (.xb true) rfl ?_
      refine G_nil ?_
      refine zac ⟨_, h, ?_⟩
      exact so (lq rfl (lq rfl (lq rfl lt0)))
     ·replace h := ite_f h hc
      refine Gy_q rfl rfl rfl (zaf (av := .xs a0) rfl ?_)
      obtain ⟨n34, h⟩ := need_some h
      refine Gy_q rfl rfl rfl (op_index_str (by kernel_rfl) rfl rfl n34.1 n34.2 ?_)
      refine Gy_q rfl rfl rfl (op_convInt (k := .i64) (r := (UInt8.toNat (gi a0 0) : Int)) (by kernel_rfl) rfl (wrap_u8 rfl _) ?_)
      refine Gy_q rfl rfl rfl (op_eql rfl rfl ?_)
      refine G_q rfl (zah rfl (av := .xb (decide ((UInt8.toNat (gi a0 0) : Int) = 10))) rfl ?_)
      refine qa (.xb (decide ((UInt8.toNat (gi a0 0) : Int) = 10))) rfl ?_
      refine G_nil ?_
      refine zac ⟨_, h, ?_⟩
      exact so (lq rfl (lq rfl (lq rfl lt0)))
    ·refine kb (p := x49_j30) rfl h (fun hc h => ?_) (fun hc h => ?_)
     ·refine zad (kr ?_)
      refine qm (.xs a0) rfl ?_
      refine qm (.xs a1) rfl ?_
      refine G_q rfl (op_lssS rfl rfl ?_)
      refine qm (.xs a0) rfl ?_
      refine qm (.xs a1) rfl ?_
      refine G_q rfl (op_gtrS rfl rfl ?_)
      obtain ⟨y35, hy35, h⟩ := bnd1_some h
      refine G_q rfl (zai (m_ref9_sign_ok _ _ _ hy35) Tryz.func80 (by kernel_rfl) (LEs.cons (AV.le_eq rfl) (LEs.cons (AV.le_eq rfl) LEs.nil)) ?_)
      refine qa (.xi y35) rfl ?_
      refine G_nil (zaa (k_ret (kB_ret (kC_ret ?_))))
      obtain rfl := Option.some.inj h
      refine ke (pt AF0 4 (.xi y35)) [] rfl ?_ ⟨rfl, rfl⟩
      exact so (lq rfl lt0)
     ·refine k_skip (kB_normal (zaa (zad (kr ?_))))
      refine qm (.xs a0) rfl ?_
      obtain ⟨y36, hy36, h⟩ := bnd1_some h
      refine G_q rfl (zai (hself_ref9_walk _ _ _ _ hy36) Tryz.func76 (by kernel_rfl) (LEs.cons (AV.le_eq rfl) (LEs.cons (AV.le_eq rfl) (LEs.cons (AV.le_eq rfl) LEs.nil))) ?_)
      refine qm (.tup [.xi y36.1, .row 1 zab y36.2.1, .xi y36.2.2]) rfl ?_
      refine G_q rfl (op_extract (av := .xi y36.1) rfl rfl ?_)
      refine G_q rfl (op_extract (av := .row 1 zab y36.2.1) rfl rfl ?_)
      refine G_q rfl (op_extract (av := .xi y36.2.2) rfl rfl ?_)
      refine qa (.xi y36.1) rfl ?_
      refine qa (.row 1 zab y36.2.1) rfl ?_
      refine qa (.xi y36.2.2) rfl ?_
      refine G_nil (zaa (zad (kr ?_)))
      refine qm (.xs a1) rfl ?_
      obtain ⟨y37, hy37, h⟩ := bnd1_some h
      refine G_q rfl (zai (hself_ref9_walk _ _ _ _ hy37) Tryz.func76 (by kernel_rfl) (LEs.cons (AV.le_eq rfl) (LEs.cons (AV.le_eq rfl) (LEs.cons (AV.le_eq rfl) LEs.nil))) ?_)
      refine qm (.tup [.xi y37.1, .row 1 zab y37.2.1, .xi y37.2.2]) rfl ?_
      refine G_q rfl (op_extract (av := .xi y37.1) rfl rfl ?_)
      refine G_q rfl (op_extract (av := .row 1 zab y37.2.1) rfl rfl ?_)
      refine G_q rfl (op_extract (av := .xi y37.2.2) rfl rfl ?_)
      refine qa (.xi y37.1) rfl ?_
      refine qa (.row 1 zab y37.2.1) rfl ?_
      refine qa (.xi y37.2.2) rfl ?_
      refine G_nil (zaa ?_)
      refine k_join0_0 h ((pt (pt AF0 8 (.row 1 zab y36.2.1)) 11 (.row 1 zab y37.2.1))) ([]) (fun k38 h => ?_) (fun  h => ?_)
      ·refine zad (kr ?_)
       refine qa (.xi 0) rfl ?_
       refine G_nil (zaa (k_block ?_))
       refine k_loop1_0 (m_ref9_order_L2 self_ref9_order y36 y37 k38) (m_ref9_order_B2 self_ref9_order y36 y37 k38) (fun _ => rfl) (fun m _ => rfl) h (fun (x13_l2 : Int) => (pt (pt (pt AF0 8 (.row 1 zab y36.2.1)) 11 (.row 1 zab y37.2.1)) 13 (.xi x13_l2))) (fun (x13_l2 : Int) => []) ?_ (fun rec2 x13_l2 h => ?_)
       ·exact so (lq rfl (lq rfl (lq rfl lt0)))
       ·unfold m_ref9_order_B2 at h
        refine zad ?_
        refine k_join1_0 h (fun (x88_j72 : Bool) => (pt (pt (pt (pt AF0 8 (.row 1 zab y36.2.1)) 11 (.row 1 zab y37.2.1)) 13 (.xi x13_l2)) 88 (.xb x88_j72))) (fun (x88_j72 : Bool) => []) (fun k72 h => ?_) (fun x88_j72 h => ?_)
        ·refine kr ?_
         refine qm (.xi x13_l2) rfl ?_
         refine qm (.row 1 zab y36.2.1) rfl ?_
         refine G_q rfl (op_len_row (by kernel_rfl) rfl ?_)
         refine G_q rfl (op_lss rfl rfl ?_)
         refine qm (.xb (decide (x13_l2 < (List.length y36.2.1 : Int)))) rfl ?_
         refine G_split (p := x13_l2 < (List.length y36.2.1 : Int)) 83 rfl (fun hc => ?_) (fun hc => ?_)
         ·replace h := ite_t h hc
          refine Gy_q rfl rfl rfl (zaf (av := .xi x13_l2) rfl ?_)
          refine Gy_q rfl rfl rfl (zaf (av := .row 1 zab y37.2.1) rfl ?_)
          refine Gy_q rfl rfl rfl (op_len_row (by kernel_rfl) rfl ?_)
          refine Gy_q rfl rfl rfl (op_lss rfl rfl ?_)
          refine G_q rfl (zak rfl (av := .xb (decide (x13_l2 < (List.length y37.2.1 : Int)))) rfl ?_)
          refine G_nil ?_
          refine zac ⟨_, h, ?_⟩
          exact so (l4 rfl rfl rfl rfl lt0)
         ·replace h := ite_f h hc
          refine G_n rfl rfl (G_n rfl rfl (G_n rfl rfl (G_n rfl rfl ?_)))
          refine G_q rfl (zah rfl (av := .xb false) rfl ?_)
          refine G_nil ?_
          refine zac ⟨_, h, ?_⟩
          exact so (l4 rfl rfl rfl rfl lt0)
        ·refine kb (p := x88_j72) rfl h (fun hc h => ?_) (fun hc h => ?_)
         ·refine k_skip (zaa (zad (k_block (zad ?_))))
          refine k_plan [] [(0, 0), (0, 1), (0, 2), (0, 3), (0, 4), (0, 5), (0, 6), (0, 7), (0, 8), (0, 9)] hmixP (by kernel_rfl) ?_
          refine P_q no34_0 rfl (zaf (av := .row 1 zab y36.2.1) rfl ?_)
          refine P_q no34_0 rfl (zaf (av := .xi x13_l2) rfl ?_)
          obtain ⟨n73, h⟩ := need_some h
          refine P_q no34_0 rfl (zam (by kernel_rfl) rfl rfl n73.1 n73.2 ?_)
          refine P_q no34_0 rfl (zal (a := .xs (gi y36.2.1 x13_l2)) (by kernel_rfl) rfl rfl ?_)
          refine P_q no34_0 rfl (zaf (av := .row 1 zab y37.2.1) rfl ?_)
          refine P_q no34_0 rfl (zaf (av := .xi x13_l2) rfl ?_)
          obtain ⟨n74, h⟩ := need_some h
          refine P_q no34_0 rfl (zam (by kernel_rfl) rfl rfl n74.1 n74.2 ?_)
          refine P_q no34_0 rfl (zal (a := .xs (gi y37.2.1 x13_l2)) (by kernel_rfl) rfl rfl ?_)
          obtain ⟨y75, hy75, h⟩ := bnd1_some h
          refine P_q no34_0 rfl (zai (hself_ref9_order _ _ _ hy75) Tryz.func79 (by kernel_rfl) (LEs.cons (AV.le_eq rfl) (LEs.cons (AV.le_eq rfl) LEs.nil)) ?_)
          refine P_q no34_0 rfl (op_assign (av := .xi y75) rfl ?_)
          refine P_nil (zaa (zad (kr ?_)))
          refine qm (.xi y75) rfl ?_
          refine G_q rfl (op_neq rfl rfl ?_)
          refine G_nil (zaa ?_)
          refine kd (p := ¬ y75 = 0) rfl h (fun hc h => ?_) (fun hc h => ?_)
          ·refine zad (kr ?_)
           refine qm (.xi y75) rfl ?_
           refine qa (.xi y75) rfl ?_
           refine G_nil (zaa (k_ret (kB_ret (kC_ret (kI_ret (kB_ret (kI_ret ?_)))))))
           obtain rfl := Option.some.inj h
           refine ke (pt AF0 4 (.xi y75)) [] rfl ?_ ⟨rfl, rfl⟩
           exact so (lq rfl lt0)
          ·refine k_skip (kB_normal (zaa (kr ?_)))
           refine qm (.xi x13_l2) rfl ?_
           refine G_q rfl (op_add rfl rfl rfl ?_)
           refine qa (.xi (i64 (x13_l2 + 1))) rfl ?_
           refine G_nil ?_
           refine zac ⟨_, h, ?_⟩
           exact so (lq rfl (lq rfl (lq rfl lt0)))
         ·refine k_exit (kC_exit (kI_exit (kB_exit ?_)))
          refine zac ⟨h, ?_⟩
          exact so (lq rfl (lq rfl lt0))
      ·refine zad (kr ?_)
       refine qm (.row 1 zab y36.2.1) rfl ?_
       refine G_q rfl (op_len_row (by kernel_rfl) rfl ?_)
       refine qm (.row 1 zab y37.2.1) rfl ?_
       refine G_q rfl (op_len_row (by kernel_rfl) rfl ?_)
       refine G_q rfl (op_lss rfl rfl ?_)
       refine qm (.row 1 zab y36.2.1) rfl ?_
       refine G_q rfl (op_len_row (by kernel_rfl) rfl ?_)
       refine qm (.row 1 zab y37.2.1) rfl ?_
       refine G_q rfl (op_len_row (by kernel_rfl) rfl ?_)
       refine G_q rfl (op_gtr rfl rfl ?_)
       obtain ⟨y76, hy76, h⟩ := bnd1_some h
       refine G_q rfl (zai (m_ref9_sign_ok _ _ _ hy76) Tryz.func80 (by kernel_rfl) (LEs.cons (AV.le_eq rfl) (LEs.cons (AV.le_eq rfl) LEs.nil)) ?_)
       refine qa (.xi y76) rfl ?_
       refine G_nil (zaa (k_ret ?_))
       obtain rfl := Option.some.inj h
       refine ke (pt AF0 4 (.xi y76)) [] rfl ?_ ⟨rfl, rfl⟩
       exact so (lq rfl lt0)
set_option maxHeartbeats 4000000 in
theorem m_ref9_walk_S_ok : ∀ n : Nat, (∀ (a0 : List UInt8) (a1 : Int) (a2 : Bool) (r : Int × (List (List UInt8)) × Int), (m_ref9_walk_S n).1 a0 a1 a2 = some r → Pure Tryz.prog 76 [(.exact (.string (bs a0))), (.exact (.int .i64 a1)), (.exact (.bool a2))] (.tup [.exact (.int .i64 r.1), .row 1 zab r.2.1, .exact (.int .i64 r.2.2)])) ∧ (∀ (a0 : List UInt8) (a1 : List UInt8) (r : Int), (m_ref9_walk_S n).2 a0 a1 = some r → Pure Tryz.prog 79 [(.exact (.string (bs a0))), (.exact (.string (bs a1)))] (.exact (.int .i64 r)))
  | 0 => ⟨(fun _ _ _ _ h => by have h' : (none : Option _) = some _ := h; cases h'), (fun _ _ _ h => by have h' : (none : Option _) = some _ := h; cases h')⟩
  | n + 1 => by
    have ih := m_ref9_walk_S_ok n
    exact ⟨fun a0 a1 a2 r h => m_ref9_walk_F_ok (m_ref9_walk_S n).1 ih.1 (m_ref9_walk_S n).2 ih.2 a0 a1 a2 r h, fun a0 a1 r h => m_ref9_order_F_ok (m_ref9_walk_S n).1 ih.1 (m_ref9_walk_S n).2 ih.2 a0 a1 r h⟩
theorem m_ref9_walk_ok (a0 : List UInt8) (a1 : Int) (a2 : Bool) (r : Int × (List (List UInt8)) × Int) (h : m_ref9_walk a0 a1 a2 = some r) : Pure Tryz.prog 76 [(.exact (.string (bs a0))), (.exact (.int .i64 a1)), (.exact (.bool a2))] (.tup [.exact (.int .i64 r.1), .row 1 zab r.2.1, .exact (.int .i64 r.2.2)]) := (m_ref9_walk_S_ok FU).1 a0 a1 a2 r h
theorem m_ref9_order_ok (a0 : List UInt8) (a1 : List UInt8) (r : Int) (h : m_ref9_order a0 a1 = some r) : Pure Tryz.prog 79 [(.exact (.string (bs a0))), (.exact (.string (bs a1)))] (.exact (.int .i64 r)) := (m_ref9_walk_S_ok FU).2 a0 a1 r h
set_option maxHeartbeats 4000000 in
theorem m_ref9_read_ok (a0 : List UInt8) (a1 : Int) (r : Int × (List (List UInt8)) × Int) (h : m_ref9_read a0 a1 = some r) : Pure Tryz.prog 46 [(.exact (.string (bs a0))), (.exact (.int .i64 a1))] (.tup [.exact (.int .i64 r.1), .row 1 zab r.2.1, .exact (.int .i64 r.2.2)]) := by
 unfold m_ref9_read at h
 refine Pure.ofFun (fun_of_awp Tryz.func46 rfl Tryz.ntmps46 (by simp) rfl (res3 rfl) fun E hE => k_end ?_)
 refine zad (kr ?_)
 refine qa (.xi 0) rfl ?_
 refine qa (.exact (.slice none 0 0)) rfl ?_
 refine qa (.xi 0) rfl ?_
 refine G_nil (zaa (zad (kr ?_)))
 refine qm (.xs a0) rfl ?_
 refine qm (.xi a1) rfl ?_
 obtain ⟨y1, hy1, h⟩ := bnd1_some h
 refine G_q rfl (zai (m_ref9_walk_ok _ _ _ _ hy1) Tryz.func76 (by kernel_rfl) (LEs.cons (AV.le_eq rfl) (LEs.cons (AV.le_eq rfl) (LEs.cons (AV.le_eq rfl) LEs.nil))) ?_)
 refine G_q rfl (op_extract (av := .xi y1.1) rfl rfl ?_)
 refine G_q rfl (op_extract (av := .row 1 zab y1.2.1) rfl rfl ?_)
 refine G_q rfl (op_extract (av := .xi y1.2.2) rfl rfl ?_)
 refine qa (.xi y1.1) rfl ?_
 refine qa (.row 1 zab y1.2.1) rfl ?_
 refine qa (.xi y1.2.2) rfl ?_
 refine G_nil (zaa (k_ret ?_))
 obtain rfl := Option.some.inj h
 refine ke (pt (pt (pt AF0 4 (.xi y1.1)) 5 (.row 1 zab y1.2.1)) 6 (.xi y1.2.2)) [] rfl ?_ ⟨rfl, rfl⟩
 exact so (lq rfl (lq rfl (lq rfl lt0)))
set_option maxHeartbeats 4000000 in
theorem m_ref9_Valid_ok (a0 : List UInt8) (r : Bool) (h : m_ref9_Valid a0 = some r) : Pure Tryz.prog 21 [(.exact (.string (bs a0)))] (.exact (.bool r)) := by
 unfold m_ref9_Valid at h
 refine Pure.ofFun (fun_of_awp Tryz.func21 rfl Tryz.ntmps21 (by simp) rfl (res1 rfl) fun E hE => k_end ?_)
 refine zad (kr ?_)
 refine qa (.xb false) rfl ?_
 refine G_nil (zaa (zad (zad (kr ?_))))
 refine qm (.xs a0) rfl ?_
 refine G_q rfl (op_lenS (by kernel_rfl) rfl ?_)
 refine G_q rfl (op_gtr rfl rfl ?_)
 refine G_nil (zaa ?_)
 refine kd (p := 131072 < (List.length a0 : Int)) rfl h (fun hc h => ?_) (fun hc h => ?_)
 ·refine zad (kr ?_)
  refine qa (.xb false) rfl ?_
  refine G_nil (zaa (k_ret (kC_ret ?_)))
  obtain rfl := Option.some.inj h
  refine ke (pt AF0 2 (.xb false)) [] rfl ?_ ⟨rfl, rfl⟩
  exact so (lq rfl lt0)
 ·refine k_skip (zaa (zad (kr ?_)))
  refine qm (.xs a0) rfl ?_
  obtain ⟨y1, hy1, h⟩ := bnd1_some h
  refine G_q rfl (zai (m_ref9_read_ok _ _ _ hy1) Tryz.func46 (by kernel_rfl) (LEs.cons (AV.le_eq rfl) (LEs.cons (AV.le_eq rfl) LEs.nil)) ?_)
  refine qm (.tup [.xi y1.1, .row 1 zab y1.2.1, .xi y1.2.2]) rfl ?_
  refine G_q rfl (op_extract (av := .xi y1.1) rfl rfl ?_)
  refine G_q rfl (op_extract (av := .row 1 zab y1.2.1) rfl rfl ?_)
  refine G_q rfl (op_extract (av := .xi y1.2.2) rfl rfl ?_)
  refine qa (.xi y1.1) rfl ?_
  refine qa (.row 1 zab y1.2.1) rfl ?_
  refine qa (.xi y1.2.2) rfl ?_
  refine G_nil (zaa ?_)
  refine k_join1_0 h (fun (x2_j2 : Bool) => (pt AF0 2 (.xb x2_j2))) (fun (x2_j2 : Bool) => []) (fun k2 h => ?_) (fun x2_j2 h => ?_)
  ·refine kr ?_
   refine qm (.xi y1.1) rfl ?_
   refine G_q rfl (op_gtr rfl rfl ?_)
   refine qm (.xb (decide (0 < y1.1))) rfl ?_
   refine G_split (p := 0 < y1.1) 17 rfl (fun hc => ?_) (fun hc => ?_)
   ·replace h := ite_t h hc
    refine Gy_q rfl rfl rfl (zaf (av := .xi y1.1) rfl ?_)
    refine Gy_q rfl rfl rfl (zaf (av := .xs a0) rfl ?_)
    refine Gy_q rfl rfl rfl (op_lenS (by kernel_rfl) rfl ?_)
    refine Gy_q rfl rfl rfl (op_eql rfl rfl ?_)
    refine G_q rfl (zak rfl (av := .xb (decide (y1.1 = (List.length a0 : Int)))) rfl ?_)
    refine qa (.xb (decide (y1.1 = (List.length a0 : Int)))) rfl ?_
    refine G_nil ?_
    refine zac ⟨_, h, ?_⟩
    exact so (lq rfl lt0)
   ·replace h := ite_f h hc
    refine G_n rfl rfl (G_n rfl rfl (G_n rfl rfl (G_n rfl rfl ?_)))
    refine G_q rfl (zah rfl (av := .xb false) rfl ?_)
    refine qa (.xb false) rfl ?_
    refine G_nil ?_
    refine zac ⟨_, h, ?_⟩
    exact so (lq rfl lt0)
  ·refine k_ret ?_
   obtain rfl := Option.some.inj h
   refine ke (pt AF0 2 (.xb x2_j2)) [] rfl ?_ ⟨rfl, rfl⟩
   exact so (lq rfl lt0)
set_option maxHeartbeats 4000000 in
theorem m_ref9_all_ok (a0 : List (List UInt8)) (r : Bool) (h : m_ref9_all a0 = some r) : Pure Tryz.prog 43 [(.row 1 zab a0)] (.exact (.bool r)) := by
 unfold m_ref9_all at h
 refine Pure.ofFun (fun_of_awp Tryz.func43 rfl Tryz.ntmps43 (by simp) rfl (res1 rfl) fun E hE => k_end ?_)
 refine zad (kr ?_)
 refine qa (.xb false) rfl ?_
 refine G_nil (zaa ?_)
 refine k_join0_0 h (AF0) ([]) (fun k1 h => ?_) (fun  h => ?_)
 ·refine zad (kr ?_)
  refine qa (.xi 0) rfl ?_
  refine G_nil (zaa (k_block ?_))
  refine k_loop1_0 (m_ref9_all_L2 a0 k1) (m_ref9_all_B2 a0 k1) (fun _ => rfl) (fun m _ => rfl) h (fun (x3_l2 : Int) => (pt (pt AF0 0 (.row 1 zab a0)) 3 (.xi x3_l2))) (fun (x3_l2 : Int) => []) ?_ (fun rec2 x3_l2 h => ?_)
  ·exact so (lq rfl (lq rfl lt0))
  ·unfold m_ref9_all_B2 at h
   refine zad (zad (kr ?_))
   refine qm (.xi x3_l2) rfl ?_
   refine qm (.row 1 zab a0) rfl ?_
   refine G_q rfl (op_len_row (by kernel_rfl) rfl ?_)
   refine G_q rfl (op_lss rfl rfl ?_)
   refine G_nil (zaa ?_)
   refine kd (p := x3_l2 < (List.length a0 : Int)) rfl h (fun hc h => ?_) (fun hc h => ?_)
   ·refine k_skip (zaa (zad (k_block (zad (kr ?_)))))
    refine qm (.row 1 zab a0) rfl ?_
    refine qm (.xi x3_l2) rfl ?_
    obtain ⟨n13, h⟩ := need_some h
    refine G_q rfl (zam (by kernel_rfl) rfl rfl n13.1 n13.2 ?_)
    refine G_q rfl (zal (a := .xs (gi a0 x3_l2)) (by kernel_rfl) rfl rfl ?_)
    obtain ⟨y14, hy14, h⟩ := bnd1_some h
    refine G_q rfl (zai (m_ref9_Valid_ok _ _ hy14) Tryz.func21 (by kernel_rfl) (LEs.cons (AV.le_eq rfl) LEs.nil) ?_)
    refine G_q rfl (op_not rfl ?_)
    refine G_nil (zaa ?_)
    refine kb (p := !y14) rfl h (fun hc h => ?_) (fun hc h => ?_)
    ·refine zad (kr ?_)
     refine qa (.xb false) rfl ?_
     refine G_nil (zaa (k_ret (kB_ret (kC_ret (kI_ret (kB_ret (kI_ret ?_)))))))
     obtain rfl := Option.some.inj h
     refine ke (pt AF0 2 (.xb false)) [] rfl ?_ ⟨rfl, rfl⟩
     exact so (lq rfl lt0)
    ·refine k_skip (kB_normal (zaa (kr ?_)))
     refine qm (.xi x3_l2) rfl ?_
     refine G_q rfl (op_add rfl rfl rfl ?_)
     refine qa (.xi (i64 (x3_l2 + 1))) rfl ?_
     refine G_nil ?_
     refine zac ⟨_, h, ?_⟩
     exact so (lq rfl (lq rfl lt0))
   ·refine k_exit (kC_exit (kI_exit (kB_exit ?_)))
    refine zac ⟨h, ?_⟩
    exact Sub.of_le lt0
 ·refine zad (kr ?_)
  refine qa (.xb true) rfl ?_
  refine G_nil (zaa (k_ret ?_))
  obtain rfl := Option.some.inj h
  refine ke (pt AF0 2 (.xb true)) [] rfl ?_ ⟨rfl, rfl⟩
  exact so (lq rfl lt0)
set_option maxHeartbeats 4000000 in
theorem m_ref9_checked_ok (a0 : List UInt8) (r : (List UInt8)) (h : m_ref9_checked a0 = some r) : Pure Tryz.prog 75 [(.exact (.string (bs a0)))] (.exact (.string (bs r))) := by
 unfold m_ref9_checked at h
 refine Pure.ofFun (fun_of_awp Tryz.func75 rfl Tryz.ntmps75 (by simp) rfl (res1 rfl) fun E hE => k_end ?_)
 refine zad (kr ?_)
 refine qa (.xs ([] : List UInt8)) rfl ?_
 refine G_nil (zaa (zad (zad (kr ?_))))
 refine qm (.xs a0) rfl ?_
 obtain ⟨y1, hy1, h⟩ := bnd1_some h
 refine G_q rfl (zai (m_ref9_Valid_ok _ _ hy1) Tryz.func21 (by kernel_rfl) (LEs.cons (AV.le_eq rfl) LEs.nil) ?_)
 refine G_nil (zaa ?_)
 refine kb (p := y1) rfl h (fun hc h => ?_) (fun hc h => ?_)
 ·refine zad (kr ?_)
  refine qm (.xs a0) rfl ?_
  refine qa (.xs a0) rfl ?_
  refine G_nil (zaa (k_ret (kC_ret ?_)))
  obtain rfl := Option.some.inj h
  refine ke (pt AF0 2 (.xs a0)) [] rfl ?_ ⟨rfl, rfl⟩
  exact so (lq rfl lt0)
 ·refine k_skip (zaa (zad (kr ?_)))
  refine qa (.xs ([] : List UInt8)) rfl ?_
  refine G_nil (zaa (k_ret ?_))
  obtain rfl := Option.some.inj h
  refine ke (pt AF0 2 (.xs ([] : List UInt8))) [] rfl ?_ ⟨rfl, rfl⟩
  exact so (lq rfl lt0)
set_option maxHeartbeats 4000000 in
theorem m_ref9_compound_ok (a0 : Int) (a1 : List (List UInt8)) (r : (List UInt8)) (h : m_ref9_compound a0 a1 = some r) : Pure Tryz.prog 44 [(.exact (.int .i64 a0)), (.row 1 zab a1)] (.exact (.string (bs r))) := by
 unfold m_ref9_compound at h
 refine Pure.ofFun (fun_of_awp Tryz.func44 rfl Tryz.ntmps44 (by simp) rfl (res1 rfl) fun E hE => k_end ?_)
 refine zad (kr ?_)
 refine qa (.xs ([] : List UInt8)) rfl ?_
 refine G_nil (zaa (zad (zad (kr ?_))))
 refine qm (.row 1 zab a1) rfl ?_
 refine G_q rfl (op_len_row (by kernel_rfl) rfl ?_)
 refine G_q rfl (op_gtr rfl rfl ?_)
 refine G_nil (zaa ?_)
 refine kd (p := 65535 < (List.length a1 : Int)) rfl h (fun hc h => ?_) (fun hc h => ?_)
 ·refine zad (kr ?_)
  refine qa (.xs ([] : List UInt8)) rfl ?_
  refine G_nil (zaa (k_ret (kC_ret ?_)))
  obtain rfl := Option.some.inj h
  refine ke (pt AF0 4 (.xs ([] : List UInt8))) [] rfl ?_ ⟨rfl, rfl⟩
  exact so (lq rfl lt0)
 ·refine k_skip (zaa (zad ?_))
  refine k_plan [] [(0, 0), (0, 1), (0, 2), (0, 3), (0, 4), (0, 5), (0, 6), (0, 7), (0, 8)] hmixP (by kernel_rfl) ?_
  refine P_q no34_0 rfl (zaf (av := .xi a0) rfl ?_)
  refine P_q no34_0 rfl (op_convInt (k := .u8) (r := (UInt8.toNat (u8i a0) : Int)) (by kernel_rfl) rfl (u8i_eq _) ?_)
  refine P_q no34_0 rfl (op_litT (n := 1) (enc := c_uint8) [u8i a0] (CellsAll.cons rfl CellsOf.int CellsAll.nil) rfl (by kernel_rfl) (LEss.cons (LEs.cons (AV.le_eq rfl) LEs.nil) LEss.nil) ?_)
  refine P_q no34_0 rfl (op_bytesS rfl (by kernel_rfl) rfl ?_)
  refine P_q no34_0 rfl (zaf (av := .row 1 zab a1) rfl ?_)
  refine P_q no34_0 rfl (op_len_row (by kernel_rfl) rfl ?_)
  obtain ⟨y1, hy1, h⟩ := bnd1_some h
  refine P_q no34_0 rfl (zai (m_ref9_two_ok _ _ hy1) Tryz.func51 (by kernel_rfl) (LEs.cons (AV.le_eq rfl) LEs.nil) ?_)
  obtain ⟨n2, h⟩ := need_some h
  refine P_q no34_0 rfl (op_addS n2 rfl rfl ?_)
  refine P_q no34_0 rfl (op_assign (av := .xs ([u8i a0] ++ y1)) rfl ?_)
  refine P_nil (zaa ?_)
  refine k_join1_0 h (fun (x5_j3 : List UInt8) => (pt (pt AF0 1 (.row 1 zab a1)) 5 (.xs x5_j3))) (fun (x5_j3 : List UInt8) => []) (fun k3 h => ?_) (fun x5_j3 h => ?_)
  ·refine zad (kr ?_)
   refine qa (.xi 0) rfl ?_
   refine G_nil (zaa (k_block ?_))
   refine k_loop2_0 (m_ref9_compound_L2 a1 k3) (m_ref9_compound_B2 a1 k3) (fun _ _ => rfl) (fun m _ _ => rfl) h (fun (x5_l2 : List UInt8) (x6_l2 : Int) => (pt (pt (pt AF0 1 (.row 1 zab a1)) 5 (.xs x5_l2)) 6 (.xi x6_l2))) (fun (x5_l2 : List UInt8) (x6_l2 : Int) => []) ?_ (fun rec2 x5_l2 x6_l2 h => ?_)
   ·exact so (lq rfl (lq rfl (lq rfl lt0)))
   ·unfold m_ref9_compound_B2 at h
    refine zad (zad (kr ?_))
    refine qm (.xi x6_l2) rfl ?_
    refine qm (.row 1 zab a1) rfl ?_
    refine G_q rfl (op_len_row (by kernel_rfl) rfl ?_)
    refine G_q rfl (op_lss rfl rfl ?_)
    refine G_nil (zaa ?_)
    refine kd (p := x6_l2 < (List.length a1 : Int)) rfl h (fun hc h => ?_) (fun hc h => ?_)
    ·refine k_skip (zaa (zad (k_block (zad ?_))))
     refine k_join1_0 h (fun (x36_j114 : Bool) => (pt (pt (pt (pt AF0 1 (.row 1 zab a1)) 5 (.xs x5_l2)) 6 (.xi x6_l2)) 36 (.xb x36_j114))) (fun (x36_j114 : Bool) => []) (fun k114 h => ?_) (fun x36_j114 h => ?_)
     ·refine kr ?_
      refine qm (.row 1 zab a1) rfl ?_
      refine qm (.xi x6_l2) rfl ?_
      obtain ⟨n116, h⟩ := need_some h
      refine G_q rfl (zam (by kernel_rfl) rfl rfl n116.1 n116.2 ?_)
      refine G_q rfl (zal (a := .xs (gi a1 x6_l2)) (by kernel_rfl) rfl rfl ?_)
      refine G_q rfl (op_eqlS rfl rfl ?_)
      refine qm (.xb (decide ((gi a1 x6_l2) = ([] : List UInt8)))) rfl ?_
      refine G_split (p := (gi a1 x6_l2) = ([] : List UInt8)) 32 rfl (fun hc => ?_) (fun hc => ?_)
      ·replace h := ite_t h hc
       refine G_n rfl rfl (G_n rfl rfl (G_n rfl rfl ?_))
       refine G_q rfl (zak rfl (av := .xb true) rfl ?_)
       refine G_nil ?_
       refine zac ⟨_, h, ?_⟩
       exact so (l4 rfl rfl rfl rfl lt0)
      ·replace h := ite_f h hc
       refine Gy_q rfl rfl rfl (zaf (av := .xs x5_l2) rfl ?_)
       refine Gy_q rfl rfl rfl (op_lenS (by kernel_rfl) rfl ?_)
       refine Gy_q rfl rfl rfl (op_gtr rfl rfl ?_)
       refine G_q rfl (zah rfl (av := .xb (decide (131072 < (List.length x5_l2 : Int)))) rfl ?_)
       refine G_nil ?_
       refine zac ⟨_, h, ?_⟩
       exact so (l4 rfl rfl rfl rfl lt0)
     ·refine kb (p := x36_j114) rfl h (fun hc h => ?_) (fun hc h => ?_)
      ·refine zad (kr ?_)
       refine qa (.xs ([] : List UInt8)) rfl ?_
       refine G_nil (zaa (k_ret (kC_ret (kB_ret (kC_ret (kI_ret (kB_ret (kI_ret ?_))))))))
       obtain rfl := Option.some.inj h
       refine ke (pt AF0 4 (.xs ([] : List UInt8))) [] rfl ?_ ⟨rfl, rfl⟩
       exact so (lq rfl lt0)
      ·refine k_skip (zaa (kr ?_))
       refine qm (.xs x5_l2) rfl ?_
       refine qm (.row 1 zab a1) rfl ?_
       refine qm (.xi x6_l2) rfl ?_
       obtain ⟨n117, h⟩ := need_some h
       refine G_q rfl (zam (by kernel_rfl) rfl rfl n117.1 n117.2 ?_)
       refine G_q rfl (zal (a := .xs (gi a1 x6_l2)) (by kernel_rfl) rfl rfl ?_)
       obtain ⟨n118, h⟩ := need_some h
       refine G_q rfl (op_addS n118 rfl rfl ?_)
       refine qa (.xs (x5_l2 ++ (gi a1 x6_l2))) rfl ?_
       refine G_nil (kB_normal (zaa (kr ?_)))
       refine qm (.xi x6_l2) rfl ?_
       refine G_q rfl (op_add rfl rfl rfl ?_)
       refine qa (.xi (i64 (x6_l2 + 1))) rfl ?_
       refine G_nil ?_
       refine zac ⟨_, _, h, ?_⟩
       exact so (lq rfl (lq rfl (lq rfl lt0)))
    ·refine k_exit (kC_exit (kI_exit (kB_exit ?_)))
     refine zac ⟨_, h, ?_⟩
     exact so (lq rfl (lq rfl lt0))
  ·refine zad (zad (kr ?_))
   refine qm (.xs x5_j3) rfl ?_
   obtain ⟨y122, hy122, h⟩ := bnd1_some h
   refine G_q rfl (zai (m_ref9_read_ok _ _ _ hy122) Tryz.func46 (by kernel_rfl) (LEs.cons (AV.le_eq rfl) (LEs.cons (AV.le_eq rfl) LEs.nil)) ?_)
   refine qm (.tup [.xi y122.1, .row 1 zab y122.2.1, .xi y122.2.2]) rfl ?_
   refine G_q rfl (op_extract (av := .xi y122.1) rfl rfl ?_)
   refine G_q rfl (op_extract (av := .row 1 zab y122.2.1) rfl rfl ?_)
   refine G_q rfl (op_extract (av := .xi y122.2.2) rfl rfl ?_)
   refine qa (.xi y122.1) rfl ?_
   refine qa (.row 1 zab y122.2.1) rfl ?_
   refine qa (.xi y122.2.2) rfl ?_
   refine G_nil (zaa ?_)
   refine k_join1_0 h (fun (x59_j123 : Bool) => (pt (pt AF0 5 (.xs x5_j3)) 59 (.xb x59_j123))) (fun (x59_j123 : Bool) => []) (fun k123 h => ?_) (fun x59_j123 h => ?_)
   ·refine kr ?_
    refine qm (.xi y122.1) rfl ?_
    refine qm (.xs x5_j3) rfl ?_
    refine G_q rfl (op_lenS (by kernel_rfl) rfl ?_)
    refine G_q rfl (op_neq rfl rfl ?_)
    refine qm (.xb (decide (¬ y122.1 = (List.length x5_j3 : Int)))) rfl ?_
    refine G_split (p := ¬ y122.1 = (List.length x5_j3 : Int)) 53 rfl (fun hc => ?_) (fun hc => ?_)
    ·replace h := ite_t h hc
     refine G_n rfl rfl (G_n rfl rfl (G_n rfl rfl (G_n rfl rfl (G_n rfl rfl ?_))))
     refine G_q rfl (zak rfl (av := .xb true) rfl ?_)
     refine G_nil ?_
     refine zac ⟨_, h, ?_⟩
     exact so (lq rfl (lq rfl lt0))
    ·replace h := ite_f h hc
     refine Gy_q rfl rfl rfl (zaf (av := .row 1 zab y122.2.1) rfl ?_)
     refine Gy_q rfl rfl rfl (op_len_row (by kernel_rfl) rfl ?_)
     refine Gy_q rfl rfl rfl (zaf (av := .row 1 zab a1) rfl ?_)
     refine Gy_q rfl rfl rfl (op_len_row (by kernel_rfl) rfl ?_)
     refine Gy_q rfl rfl rfl (op_neq rfl rfl ?_)
     refine G_q rfl (zah rfl (av := .xb (decide (¬ (List.length y122.2.1 : Int) = (List.length a1 : Int)))) rfl ?_)
     refine G_nil ?_
     refine zac ⟨_, h, ?_⟩
     exact so (lq rfl (lq rfl lt0))
   ·refine kb (p := x59_j123) rfl h (fun hc h => ?_) (fun hc h => ?_)
    ·refine zad (kr ?_)
     refine qa (.xs ([] : List UInt8)) rfl ?_
     refine G_nil (zaa (k_ret (kC_ret ?_)))
     obtain rfl := Option.some.inj h
     refine ke (pt AF0 4 (.xs ([] : List UInt8))) [] rfl ?_ ⟨rfl, rfl⟩
     exact so (lq rfl lt0)
    ·refine k_skip (zaa (zad (kr ?_)))
     refine qm (.xs x5_j3) rfl ?_
     obtain ⟨y124, hy124, h⟩ := bnd1_some h
     refine G_q rfl (zai (m_ref9_checked_ok _ _ hy124) Tryz.func75 (by kernel_rfl) (LEs.cons (AV.le_eq rfl) LEs.nil) ?_)
     refine qa (.xs y124) rfl ?_
     refine G_nil (zaa (k_ret ?_))
     obtain rfl := Option.some.inj h
     refine ke (pt AF0 4 (.xs y124)) [] rfl ?_ ⟨rfl, rfl⟩
     exact so (lq rfl lt0)
set_option maxHeartbeats 4000000 in
theorem m_ref9_Make_ok (a0 : Int) (a1 : List (List UInt8)) (r : (List UInt8)) (h : m_ref9_Make a0 a1 = some r) : Pure Tryz.prog 19 [(.exact (.int .i64 a0)), (.row 1 zab a1)] (.exact (.string (bs r))) := by
 unfold m_ref9_Make at h
 refine Pure.ofFun (fun_of_awp Tryz.func19 rfl Tryz.ntmps19 (by simp) rfl (res1 rfl) fun E hE => k_end ?_)
 refine zad (kr ?_)
 refine qa (.xs ([] : List UInt8)) rfl ?_
 refine G_nil (zaa (zad (zad (kr ?_))))
 refine qm (.row 1 zab a1) rfl ?_
 obtain ⟨y1, hy1, h⟩ := bnd1_some h
 refine G_q rfl (zai (m_ref9_all_ok _ _ hy1) Tryz.func43 (by kernel_rfl) (LEs.cons (AV.le_eq rfl) LEs.nil) ?_)
 refine G_q rfl (op_not rfl ?_)
 refine G_nil (zaa ?_)
 refine kb (p := !y1) rfl h (fun hc h => ?_) (fun hc h => ?_)
 ·refine zad (kr ?_)
  refine qa (.xs ([] : List UInt8)) rfl ?_
  refine G_nil (zaa (k_ret (kC_ret ?_)))
  obtain rfl := Option.some.inj h
  refine ke (pt AF0 4 (.xs ([] : List UInt8))) [] rfl ?_ ⟨rfl, rfl⟩
  exact so (lq rfl lt0)
 ·refine k_skip (zaa (zad (kr ?_)))
  refine qm (.xi a0) rfl ?_
  refine qm (.row 1 zab a1) rfl ?_
  obtain ⟨y2, hy2, h⟩ := bnd1_some h
  refine G_q rfl (zai (m_ref9_compound_ok _ _ _ hy2) Tryz.func44 (by kernel_rfl) (LEs.cons (AV.le_eq rfl) (LEs.cons (AV.le_eq rfl) LEs.nil)) ?_)
  refine qa (.xs y2) rfl ?_
  refine G_nil (zaa (k_ret ?_))
  obtain rfl := Option.some.inj h
  refine ke (pt AF0 4 (.xs y2)) [] rfl ?_ ⟨rfl, rfl⟩
  exact so (lq rfl lt0)
end Go.Proofs.YtpfdeahcjlfijaaGreat
/- The functions compute their models, by program. -/
namespace Go.Proofs.YtpfdeahcjlfijaaGreat
open Go.RowKit
attribute [local irreducible] AV.exact AV.top AV.row AV.ptr AV.agg AV.tup AV.eptr AV.fn AV.nilq AV.nilqn opA opB opM opR Quiet Loud Reads wpG awp den Sub SubU Pure Fun vecI vecT boxI CellsAll CellsOf OneC LEs LEss
set_option maxRecDepth 100000

set_option maxHeartbeats 4000000 in
theorem m_gen_Choices_Values_ok {w0 : Nat} (self_gen_Choices_Value : ((List Int) × Int) → Int → Option ((List UInt8) × ((List Int) × Int))) (hself_gen_Choices_Value : ∀ ⦃w0 : Nat⦄ (a0 : (List Int) × Int) (a1 : Int) (r : (List UInt8) × ((List Int) × Int)), self_gen_Choices_Value a0 a1 = some r → Fun Tryz.prog 9 [(pA w0 0), (.exact (.int .i64 a1))] [boxI 53 w0 [.row 1 c_int a0.1, .exact (.int .i64 a0.2)]] (fun a s => a = .exact (.string (bs r.1)) ∧ s = [boxI 53 w0 [.row 1 c_int r.2.1, .exact (.int .i64 r.2.2)]])) (a0 : (List Int) × Int) (a1 : Int) (a2 : Int) (r : (List (List UInt8)) × ((List Int) × Int)) (h : m_gen_Choices_Values self_gen_Choices_Value a0 a1 a2 = some r) : Fun Tryz.prog 27 [(pA w0 0), (.exact (.int .i64 a1)), (.exact (.int .i64 a2))] [boxI 53 w0 [.row 1 c_int a0.1, .exact (.int .i64 a0.2)]] (fun a s => a = .row 1 zab r.1 ∧ s = [boxI 53 w0 [.row 1 c_int r.2.1, .exact (.int .i64 r.2.2)]]) := by
 unfold m_gen_Choices_Values at h
 refine fun_of_awp Tryz.func27 rfl Tryz.ntmps27 (by simp) rfl (res1 rfl) fun E hE => k_end ?_
 refine zad (kr ?_)
 refine qa (.exact (.slice none 0 0)) rfl ?_
 refine G_nil (zaa (zad (kr ?_)))
 refine qa (.exact (.slice none 0 0)) rfl ?_
 refine G_nil (zaa ?_)
 refine k_join3_1 h (fun (x0_0_j1 : List Int) (x0_1_j1 : Int) (x7_j1 : List (List UInt8)) (v7_j1 : Value) => (pt (pt AF0 0 (pA w0 0)) 7 (.exact v7_j1))) (fun (x0_0_j1 : List Int) (x0_1_j1 : Int) (x7_j1 : List (List UInt8)) (v7_j1 : Value) => [boxI 53 w0 [.row 1 c_int x0_0_j1, .xi x0_1_j1], vecT Tryz.prog 27 1 zab v7_j1 x7_j1]) (fun k1 h => ?_) (fun x0_0_j1 x0_1_j1 x7_j1 v7_j1 h => ?_)
 ·refine zad (kr ?_)
  refine qm (pA w0 0) rfl ?_
  refine qm (.xi a2) rfl ?_
  obtain ⟨y13, hy13, h⟩ := bnd1_some h
  refine G_l rfl (op_fun_1_0_1 (m_gen_Choices_Next_ok _ _ _ hy13) Tryz.func18 (by kernel_rfl) (LEs.cons (AV.le_eq rfl) (LEs.cons (AV.le_eq rfl) LEs.nil)) ?_)
  refine qa (.xi y13.1) rfl ?_
  refine G_nil (zaa (k_block ?_))
  refine k_loop4_1 (m_gen_Choices_Values_L2 self_gen_Choices_Value a1 k1) (m_gen_Choices_Values_B2 self_gen_Choices_Value a1 k1) (fun _ _ _ _ => rfl) (fun m _ _ _ _ => rfl) h (fun (x0_0_l2 : List Int) (x0_1_l2 : Int) (x7_l2 : List (List UInt8)) (x8_l2 : Int) (v7_l2 : Value) => (pt (pt (pt (pt AF0 0 (pA w0 0)) 1 (.xi a1)) 7 (.exact v7_l2)) 8 (.xi x8_l2))) (fun (x0_0_l2 : List Int) (x0_1_l2 : Int) (x7_l2 : List (List UInt8)) (x8_l2 : Int) (v7_l2 : Value) => [boxI 53 w0 [.row 1 c_int x0_0_l2, .xi x0_1_l2], vecT Tryz.prog 27 1 zab v7_l2 x7_l2]) (.slice none 0 0) ?_ (fun rec2 x0_0_l2 x0_1_l2 x7_l2 x8_l2 v7_l2 h => ?_)
  ·refine Sub.trans (SubU.to (SubU.nilT (P := Tryz.prog) (t := 27) (n := 1) (enc := zab))) ?_
   refine Sub.trans (SubU.to SubU.f1) ?_
   exact so (l4 rfl rfl rfl rfl lt0)
  ·unfold m_gen_Choices_Values_B2 at h
   refine zad (zad (kr ?_))
   refine qm (.xi x8_l2) rfl ?_
   refine G_q rfl (op_gtr rfl rfl ?_)
   refine G_nil (zaa ?_)
   refine kd (p := 0 < x8_l2) rfl h (fun hc h => ?_) (fun hc h => ?_)
   ·refine k_skip (zaa (zad (k_block (kr ?_))))
    refine qm (.exact v7_l2) rfl ?_
    refine qm (pA w0 0) rfl ?_
    refine qm (.xi a1) rfl ?_
    obtain ⟨y20, hy20, h⟩ := bnd1_some h
    refine G_l rfl (op_fun_1_0_1 (hself_gen_Choices_Value _ _ _ hy20) Tryz.func9 (by kernel_rfl) (LEs.cons (AV.le_eq rfl) (LEs.cons (AV.le_eq rfl) LEs.nil)) ?_)
    refine G_q rfl (op_litT (n := 1) (enc := zab) [y20.1] (CellsAll.cons rfl CellsOf.str CellsAll.nil) rfl (by kernel_rfl) (LEss.cons (LEs.cons (AV.le_eq rfl) LEs.nil) LEss.nil) ?_)
    obtain ⟨n21, h⟩ := need_some h
    refine G_l rfl (opB_f1 (op_appT (by kernel_rfl) rfl rfl oc_c_api_Value n21 (fun v22 => ?_)))
    refine qa (.exact v22) rfl ?_
    refine G_nil (kB_normal (zaa (kr ?_)))
    refine qm (.xi x8_l2) rfl ?_
    refine G_q rfl (op_sub rfl rfl rfl ?_)
    refine qa (.xi (i64 (x8_l2 - 1))) rfl ?_
    refine G_nil ?_
    refine zac ⟨_, _, _, _, v22, h, ?_⟩
    refine Sub.trans (SubU.to SubU.f1) ?_
    exact so (l4 rfl rfl rfl rfl lt0)
   ·refine k_exit (kC_exit (kI_exit (kB_exit ?_)))
    refine zac ⟨_, _, _, v7_l2, h, ?_⟩
    exact so (lq rfl (lq rfl lt0))
 ·refine zad (kr ?_)
  refine qm (.exact v7_j1) rfl ?_
  refine qa (.exact v7_j1) rfl ?_
  refine G_nil (zaa (k_ret ?_))
  obtain rfl := Option.some.inj h
  refine ke (pt AF0 6 (.row 1 zab x7_j1)) [boxI 53 w0 [.row 1 c_int x0_0_j1, .xi x0_1_j1]] rfl ?_ ⟨rfl, rfl⟩
  refine Sub.trans (SubU.to SubU.f1) ?_
  refine Sub.trans (SubU.to (SubU.freezeT (s := 6) rfl len_c_api_Value)) ?_
  exact so (lq rfl lt0)
set_option maxHeartbeats 4000000 in
theorem m_ref9_Compare_ok (a0 : List UInt8) (a1 : List UInt8) (r : Int) (h : m_ref9_Compare a0 a1 = some r) : Pure Tryz.prog 52 [(.exact (.string (bs a0))), (.exact (.string (bs a1)))] (.exact (.int .i64 r)) := by
 unfold m_ref9_Compare at h
 refine Pure.ofFun (fun_of_awp Tryz.func52 rfl Tryz.ntmps52 (by simp) rfl (res1 rfl) fun E hE => k_end ?_)
 refine zad (kr ?_)
 refine qa (.xi 0) rfl ?_
 refine G_nil (zaa (zad (kr ?_)))
 refine qm (.xs a0) rfl ?_
 obtain ⟨y1, hy1, h⟩ := bnd1_some h
 refine G_q rfl (zai (m_ref9_Valid_ok _ _ hy1) Tryz.func21 (by kernel_rfl) (LEs.cons (AV.le_eq rfl) LEs.nil) ?_)
 refine qm (.xs a1) rfl ?_
 obtain ⟨y2, hy2, h⟩ := bnd1_some h
 refine G_q rfl (zai (m_ref9_Valid_ok _ _ hy2) Tryz.func21 (by kernel_rfl) (LEs.cons (AV.le_eq rfl) LEs.nil) ?_)
 refine qa (.xb y1) rfl ?_
 refine qa (.xb y2) rfl ?_
 refine G_nil (zaa (zad (k_block ?_)))
 refine k_join1_0 h (fun (x11_j7 : Bool) => (pt (pt (pt (pt (pt AF0 0 (.xs a0)) 1 (.xs a1)) 5 (.xb y1)) 6 (.xb y2)) 11 (.xb x11_j7))) (fun (x11_j7 : Bool) => []) (fun k7 h => ?_) (fun x11_j7 h => ?_)
 ·refine kr ?_
  refine qm (.xb y1) rfl ?_
  refine qm (.xb y1) rfl ?_
  refine G_splitB (c := y1) 13 rfl (fun hc => ?_) (fun hc => ?_)
  ·replace h := ite_t h hc
   refine Gy_q rfl rfl rfl (zaf (av := .xb y2) rfl ?_)
   refine G_q rfl (zak rfl (av := .xb y2) rfl ?_)
   refine qa (.xb y2) rfl ?_
   refine G_nil ?_
   refine zac ⟨_, h, ?_⟩
   exact so (l4 rfl rfl rfl rfl (lq rfl lt0))
  ·replace h := ite_f h hc
   refine G_n rfl rfl ?_
   refine G_q rfl (zah rfl (av := .xb false) rfl ?_)
   refine qa (.xb false) rfl ?_
   refine G_nil ?_
   refine zac ⟨_, h, ?_⟩
   exact so (l4 rfl rfl rfl rfl (lq rfl lt0))
 ·refine kb (p := x11_j7) rfl h (fun hc h => ?_) (fun hc h => ?_)
  ·refine zad (kr ?_)
   refine qm (.xs a0) rfl ?_
   refine qm (.xs a1) rfl ?_
   obtain ⟨y8, hy8, h⟩ := bnd1_some h
   refine G_q rfl (zai (m_ref9_order_ok _ _ _ hy8) Tryz.func79 (by kernel_rfl) (LEs.cons (AV.le_eq rfl) (LEs.cons (AV.le_eq rfl) LEs.nil)) ?_)
   refine qa (.xi y8) rfl ?_
   refine G_nil (zaa (k_ret (kB_ret (kC_ret ?_))))
   obtain rfl := Option.some.inj h
   refine ke (pt AF0 4 (.xi y8)) [] rfl ?_ ⟨rfl, rfl⟩
   exact so (lq rfl lt0)
  ·refine zad (kr ?_)
   refine qm (.xb y1) rfl ?_
   refine qm (.xb y2) rfl ?_
   refine G_q rfl (op_neqB (a := y1) (b := y2) (by kernel_rfl) rfl rfl ?_)
   refine qa (.xb (decide (¬ y1 = y2))) rfl ?_
   refine G_nil (zaa ?_)
   refine kd (p := ¬ y1 = y2) rfl h (fun hc h => ?_) (fun hc h => ?_)
   ·refine zad (kr ?_)
    refine qm (.xb y2) rfl ?_
    refine qm (.xb y1) rfl ?_
    obtain ⟨y9, hy9, h⟩ := bnd1_some h
    refine G_q rfl (zai (m_ref9_sign_ok _ _ _ hy9) Tryz.func80 (by kernel_rfl) (LEs.cons (AV.le_eq rfl) (LEs.cons (AV.le_eq rfl) LEs.nil)) ?_)
    refine qa (.xi y9) rfl ?_
    refine G_nil (zaa (k_ret (kB_ret (kC_ret ?_))))
    obtain rfl := Option.some.inj h
    refine ke (pt AF0 4 (.xi y9)) [] rfl ?_ ⟨rfl, rfl⟩
    exact so (lq rfl lt0)
   ·refine k_skip (kB_normal (zaa (zad (kr ?_))))
    refine qm (.xs a0) rfl ?_
    refine qm (.xs a1) rfl ?_
    refine G_q rfl (op_lssS rfl rfl ?_)
    refine qm (.xs a0) rfl ?_
    refine qm (.xs a1) rfl ?_
    refine G_q rfl (op_gtrS rfl rfl ?_)
    obtain ⟨y10, hy10, h⟩ := bnd1_some h
    refine G_q rfl (zai (m_ref9_sign_ok _ _ _ hy10) Tryz.func80 (by kernel_rfl) (LEs.cons (AV.le_eq rfl) (LEs.cons (AV.le_eq rfl) LEs.nil)) ?_)
    refine qa (.xi y10) rfl ?_
    refine G_nil (zaa (k_ret ?_))
    obtain rfl := Option.some.inj h
    refine ke (pt AF0 4 (.xi y10)) [] rfl ?_ ⟨rfl, rfl⟩
    exact so (lq rfl lt0)
set_option maxHeartbeats 4000000 in
theorem m_ref9_Sort_ok (a0 : List (List UInt8)) (r : (List (List UInt8))) (h : m_ref9_Sort a0 = some r) : Pure Tryz.prog 30 [(.row 1 zab a0)] (.row 1 zab r) := by
 unfold m_ref9_Sort at h
 refine Pure.ofFun (fun_of_awp Tryz.func30 rfl Tryz.ntmps30 (by simp) rfl (res1 rfl) fun E hE => k_end ?_)
 refine zad (kr ?_)
 refine qa (.exact (.slice none 0 0)) rfl ?_
 refine G_nil (zaa (zad (kr ?_)))
 refine qa (.exact (.slice none 0 0)) rfl ?_
 refine G_nil (zaa ?_)
 refine k_join1_1 h (fun (x3_j1 : List (List UInt8)) (v3_j1 : Value) => (pt AF0 3 (.exact v3_j1))) (fun (x3_j1 : List (List UInt8)) (v3_j1 : Value) => [vecT Tryz.prog 27 1 zab v3_j1 x3_j1]) (fun k1 h => ?_) (fun x3_j1 v3_j1 h => ?_)
 ·refine zad (kr ?_)
  refine qa (.xi 0) rfl ?_
  refine G_nil (zaa (k_block ?_))
  refine k_loop2_1 (m_ref9_Sort_L14 a0 k1) (m_ref9_Sort_B14 a0 k1) (fun _ _ => rfl) (fun m _ _ => rfl) h (fun (x3_l14 : List (List UInt8)) (x4_l14 : Int) (v3_l14 : Value) => (pt (pt (pt AF0 0 (.row 1 zab a0)) 3 (.exact v3_l14)) 4 (.xi x4_l14))) (fun (x3_l14 : List (List UInt8)) (x4_l14 : Int) (v3_l14 : Value) => [vecT Tryz.prog 27 1 zab v3_l14 x3_l14]) (.slice none 0 0) ?_ (fun rec14 x3_l14 x4_l14 v3_l14 h => ?_)
  ·refine Sub.trans (SubU.to (SubU.nilT (P := Tryz.prog) (t := 27) (n := 1) (enc := zab))) ?_
   exact so (lq rfl (lq rfl (lq rfl lt0)))
  ·unfold m_ref9_Sort_B14 at h
   refine zad (zad (kr ?_))
   refine qm (.xi x4_l14) rfl ?_
   refine qm (.row 1 zab a0) rfl ?_
   refine G_q rfl (op_len_row (by kernel_rfl) rfl ?_)
   refine G_q rfl (op_lss rfl rfl ?_)
   refine G_nil (zaa ?_)
   refine kd (p := x4_l14 < (List.length a0 : Int)) rfl h (fun hc h => ?_) (fun hc h => ?_)
   ·refine k_skip (zaa ?_)
    refine k_join1_1 h (fun (x3_j844 : List (List UInt8)) (v3_j844 : Value) => (pt (pt (pt AF0 0 (.row 1 zab a0)) 3 (.exact v3_j844)) 4 (.xi x4_l14))) (fun (x3_j844 : List (List UInt8)) (v3_j844 : Value) => [vecT Tryz.prog 27 1 zab v3_j844 x3_j844]) (fun k844 h => ?_) (fun x3_j844 v3_j844 h => ?_)
    ·refine k_block (zad (kr ?_))
     refine qm (.exact v3_l14) rfl ?_
     refine G_r rfl (op_len_vec (by kernel_rfl) rfl ?_)
     refine qa (.xi (List.length x3_l14 : Int)) rfl ?_
     refine G_nil (zaa ?_)
     refine k_join1_0 h (fun (x5_j955 : Int) => (pt (pt (pt (pt AF0 0 (.row 1 zab a0)) 3 (.exact v3_l14)) 4 (.xi x4_l14)) 5 (.xi x5_j955))) (fun (x5_j955 : Int) => [vecT Tryz.prog 27 1 zab v3_l14 x3_l14]) (fun k955 h => ?_) (fun x5_j955 h => ?_)
     ·refine k_block ?_
      refine k_loop1_0 (m_ref9_Sort_L26 a0 x3_l14 x4_l14 k955) (m_ref9_Sort_B26 a0 x3_l14 x4_l14 k955) (fun _ => rfl) (fun m _ => rfl) h (fun (x5_l26 : Int) => (pt (pt (pt (pt AF0 0 (.row 1 zab a0)) 3 (.exact v3_l14)) 4 (.xi x4_l14)) 5 (.xi x5_l26))) (fun (x5_l26 : Int) => [vecT Tryz.prog 27 1 zab v3_l14 x3_l14]) ?_ (fun rec26 x5_l26 h => ?_)
      ·exact so (l4 rfl rfl rfl rfl lt0)
      ·unfold m_ref9_Sort_B26 at h
       refine zad ?_
       refine k_join1_0 h (fun (x28_j1040 : Bool) => (pt (pt (pt (pt (pt AF0 0 (.row 1 zab a0)) 3 (.exact v3_l14)) 4 (.xi x4_l14)) 5 (.xi x5_l26)) 28 (.xb x28_j1040))) (fun (x28_j1040 : Bool) => [vecT Tryz.prog 27 1 zab v3_l14 x3_l14]) (fun k1040 h => ?_) (fun x28_j1040 h => ?_)
       ·refine k_plan [] [(0, 0), (0, 1), (0, 2), (0, 3), (0, 4), (0, 5), (0, 8), (0, 9), (0, 10), (0, 11), (1, 6), (1, 7), (0, 12), (0, 13), (0, 14)] hmixP (by kernel_rfl) ?_
        refine P_q no34_0 rfl (zaf (av := .xi x5_l26) rfl ?_)
        refine P_q no34_0 rfl (op_gtr rfl rfl ?_)
        refine P_q no34_0 rfl (zaf (av := .xb (decide (0 < x5_l26))) rfl ?_)
        refine P_split (p := 0 < x5_l26) 16 rfl (fun hc => ?_) (fun hc => ?_)
        ·replace h := ite_t h hc
         refine Py_q no34_0 rfl rfl rfl (zaf (av := .exact v3_l14) rfl ?_)
         refine Py_q no34_0 rfl rfl rfl (zaf (av := .xi x5_l26) rfl ?_)
         refine Py_q no34_0 rfl rfl rfl (op_sub rfl rfl rfl ?_)
         refine Py_q no34_0 rfl rfl rfl (zaf (av := .row 1 zab a0) rfl ?_)
         refine Py_q no34_0 rfl rfl rfl (zaf (av := .xi x4_l14) rfl ?_)
         obtain ⟨n1044, h⟩ := need_some h
         refine Py_q no34_0 rfl rfl rfl (zam (by kernel_rfl) rfl rfl n1044.1 n1044.2 ?_)
         refine Py_q no34_0 rfl rfl rfl (zal (a := .xs (gi a0 x4_l14)) (by kernel_rfl) rfl rfl ?_)
         obtain ⟨n1045, h⟩ := need_some h
         refine Py_r rfl rfl rfl (op_index_vec (by kernel_rfl) rfl rfl n1045.1 n1045.2 ?_)
         refine Py_r rfl rfl rfl (op_load_vec1 (i := i64 (x5_l26 - 1)) (o := 0) (a := .xs (gi x3_l14 (i64 (x5_l26 - 1)))) (by kernel_rfl) len_c_api_Value rfl n1045.1 n1045.2 rfl ?_)
         obtain ⟨y1046, hy1046, h⟩ := bnd1_some h
         refine Py_q no34_0 rfl rfl rfl (zai (m_ref9_Compare_ok _ _ _ hy1046) Tryz.func52 (by kernel_rfl) (LEs.cons (AV.le_eq rfl) (LEs.cons (AV.le_eq rfl) LEs.nil)) ?_)
         refine Py_q no34_0 rfl rfl rfl (op_gtr rfl rfl ?_)
         refine P_q no34_0 rfl (zak rfl (av := .xb (decide (0 < y1046))) rfl ?_)
         refine P_nil ?_
         refine zac ⟨_, h, ?_⟩
         exact so (l4 rfl rfl rfl rfl (lq rfl lt0))
        ·replace h := ite_f h hc
         refine P_n no34_0 rfl rfl rfl ?_
         refine P_n no34_0 rfl rfl rfl ?_
         refine P_n no34_0 rfl rfl rfl ?_
         refine P_n no34_0 rfl rfl rfl ?_
         refine P_n no34_0 rfl rfl rfl ?_
         refine P_n no34_0 rfl rfl rfl ?_
         refine P_n no34_0 rfl rfl rfl ?_
         refine P_n no34_1 rfl rfl rfl ?_
         refine P_n no34_1 rfl rfl rfl ?_
         refine P_n no34_0 rfl rfl rfl ?_
         refine P_n no34_0 rfl rfl rfl ?_
         refine P_q no34_0 rfl (zah rfl (av := .xb false) rfl ?_)
         refine P_nil ?_
         refine zac ⟨_, h, ?_⟩
         exact so (l4 rfl rfl rfl rfl (lq rfl lt0))
       ·refine kb (p := x28_j1040) rfl h (fun hc h => ?_) (fun hc h => ?_)
        ·refine k_skip (zaa (k_block (kr ?_)))
         refine qm (.xi x5_l26) rfl ?_
         refine G_q rfl (op_sub rfl rfl rfl ?_)
         refine qa (.xi (i64 (x5_l26 - 1))) rfl ?_
         refine G_nil (kB_normal ?_)
         refine zac ⟨_, h, ?_⟩
         exact so (l4 rfl rfl rfl rfl lt0)
        ·refine k_exit (kC_exit (kI_exit (kB_exit ?_)))
         refine zac ⟨_, h, ?_⟩
         exact so (l4 rfl rfl rfl rfl lt0)
     ·refine zad ?_
      refine k_join1_0 h (fun (x44_j1053 : Bool) => (pt (pt (pt (pt (pt AF0 0 (.row 1 zab a0)) 3 (.exact v3_l14)) 4 (.xi x4_l14)) 5 (.xi x5_j955)) 44 (.xb x44_j1053))) (fun (x44_j1053 : Bool) => [vecT Tryz.prog 27 1 zab v3_l14 x3_l14]) (fun k1053 h => ?_) (fun x44_j1053 h => ?_)
      ·refine k_plan [] [(0, 0), (0, 1), (0, 2), (0, 3), (0, 4), (0, 5), (0, 8), (0, 9), (0, 10), (0, 11), (1, 6), (1, 7), (0, 12), (0, 13)] hmixP (by kernel_rfl) ?_
       refine P_q no34_0 rfl (zaf (av := .xi x5_j955) rfl ?_)
       refine P_q no34_0 rfl (op_gtr rfl rfl ?_)
       refine P_q no34_0 rfl (zaf (av := .xb (decide (0 < x5_j955))) rfl ?_)
       refine P_split (p := 0 < x5_j955) 33 rfl (fun hc => ?_) (fun hc => ?_)
       ·replace h := ite_t h hc
        refine Py_q no34_0 rfl rfl rfl (zaf (av := .exact v3_l14) rfl ?_)
        refine Py_q no34_0 rfl rfl rfl (zaf (av := .xi x5_j955) rfl ?_)
        refine Py_q no34_0 rfl rfl rfl (op_sub rfl rfl rfl ?_)
        refine Py_q no34_0 rfl rfl rfl (zaf (av := .row 1 zab a0) rfl ?_)
        refine Py_q no34_0 rfl rfl rfl (zaf (av := .xi x4_l14) rfl ?_)
        obtain ⟨n1056, h⟩ := need_some h
        refine Py_q no34_0 rfl rfl rfl (zam (by kernel_rfl) rfl rfl n1056.1 n1056.2 ?_)
        refine Py_q no34_0 rfl rfl rfl (zal (a := .xs (gi a0 x4_l14)) (by kernel_rfl) rfl rfl ?_)
        obtain ⟨n1057, h⟩ := need_some h
        refine Py_r rfl rfl rfl (op_index_vec (by kernel_rfl) rfl rfl n1057.1 n1057.2 ?_)
        refine Py_r rfl rfl rfl (op_load_vec1 (i := i64 (x5_j955 - 1)) (o := 0) (a := .xs (gi x3_l14 (i64 (x5_j955 - 1)))) (by kernel_rfl) len_c_api_Value rfl n1057.1 n1057.2 rfl ?_)
        refine Py_q no34_0 rfl rfl rfl (op_eqlS rfl rfl ?_)
        refine P_q no34_0 rfl (zak rfl (av := .xb (decide ((gi x3_l14 (i64 (x5_j955 - 1))) = (gi a0 x4_l14)))) rfl ?_)
        refine P_nil ?_
        refine zac ⟨_, h, ?_⟩
        exact so (l4 rfl rfl rfl rfl (lq rfl lt0))
       ·replace h := ite_f h hc
        refine P_n no34_0 rfl rfl rfl ?_
        refine P_n no34_0 rfl rfl rfl ?_
        refine P_n no34_0 rfl rfl rfl ?_
        refine P_n no34_0 rfl rfl rfl ?_
        refine P_n no34_0 rfl rfl rfl ?_
        refine P_n no34_0 rfl rfl rfl ?_
        refine P_n no34_0 rfl rfl rfl ?_
        refine P_n no34_1 rfl rfl rfl ?_
        refine P_n no34_1 rfl rfl rfl ?_
        refine P_n no34_0 rfl rfl rfl ?_
        refine P_q no34_0 rfl (zah rfl (av := .xb false) rfl ?_)
        refine P_nil ?_
        refine zac ⟨_, h, ?_⟩
        exact so (l4 rfl rfl rfl rfl (lq rfl lt0))
      ·refine kb (p := x44_j1053) rfl h (fun hc h => ?_) (fun hc h => ?_)
       ·refine k_exit (kC_exit (kB_exit ?_))
        refine zac ⟨_, v3_l14, h, ?_⟩
        exact so (lq rfl (lq rfl (lq rfl lt0)))
       ·refine k_skip (zaa (zad (kr ?_)))
        refine qm (.exact v3_l14) rfl ?_
        refine G_q rfl (op_litT (n := 1) (enc := zab) [([] : List UInt8)] (CellsAll.cons rfl CellsOf.str CellsAll.nil) rfl (by kernel_rfl) (LEss.cons (LEs.cons (AV.le_eq rfl) LEs.nil) LEss.nil) ?_)
        obtain ⟨n1058, h⟩ := need_some h
        refine G_l rfl (op_appT (by kernel_rfl) rfl rfl oc_c_api_Value n1058 (fun v1059 => ?_))
        refine qa (.exact v1059) rfl ?_
        refine G_nil (zaa (zad ?_))
        refine k_plan [] [(0, 0), (0, 1), (0, 2), (0, 4), (0, 5), (1, 3), (1, 6), (2, 7)] hmixP (by kernel_rfl) ?_
        refine P_q no34_0 rfl (zaf (av := .exact v1059) rfl ?_)
        refine P_q no34_0 rfl (zaf (av := .xi x5_j955) rfl ?_)
        refine P_q no34_0 rfl (op_add rfl rfl rfl ?_)
        refine P_q no34_0 rfl (zaf (av := .exact v1059) rfl ?_)
        refine P_q no34_0 rfl (zaf (av := .xi x5_j955) rfl ?_)
        obtain ⟨n1060, h⟩ := need_some h
        refine P_r rfl (op_slice_vec (by kernel_rfl) rfl (bnd_some rfl) bnd_none n1060.1 n1060.2.1 n1060.2.2 ?_)
        obtain ⟨n1061, h⟩ := need_some h
        refine P_r rfl (op_slice_vec (by kernel_rfl) rfl (bnd_some rfl) bnd_none n1061.1 n1061.2.1 n1061.2.2 ?_)
        refine P_l rfl (op_copy (q := (Nat.min (Int.toNat (List.length (x3_l14 ++ ([([] : List UInt8)])) : Int) - Int.toNat x5_j955) (Int.toNat (List.length (x3_l14 ++ ([([] : List UInt8)])) : Int) - Int.toNat (i64 (x5_j955 + 1))))) (by kernel_rfl) (by kernel_rfl) len_c_api_Value oc_c_api_Value rfl rfl (by have hh := n1060; first | omega | (simp only [i64] at hh; omega) | (simp only [i64] at hh ⊢; omega)) (by have hh := n1061; first | omega | (simp only [i64] at hh; omega) | (simp only [i64] at hh ⊢; omega)) rfl ?_)
        refine P_nil (zaa (kr ?_))
        refine qm (.exact v1059) rfl ?_
        refine qm (.xi x5_j955) rfl ?_
        refine qm (.row 1 zab a0) rfl ?_
        refine qm (.xi x4_l14) rfl ?_
        obtain ⟨n1062, h⟩ := need_some h
        refine G_q rfl (zam (by kernel_rfl) rfl rfl n1062.1 n1062.2 ?_)
        refine G_q rfl (zal (a := .xs (gi a0 x4_l14)) (by kernel_rfl) rfl rfl ?_)
        obtain ⟨n1063, h⟩ := need_some h
        refine G_r rfl (op_index_vec (by kernel_rfl) rfl rfl n1063.1 n1063.2 ?_)
        refine G_l rfl (op_store_vec (i := x5_j955) (o := 0) (z := gi a0 x4_l14) (c' := [.xs (gi a0 x4_l14)]) (by kernel_rfl) len_c_api_Value rfl n1063.1 n1063.2 rfl CellsOf.str (LEs.cons (AV.le_eq rfl) LEs.nil) (OneC.str OneC.nil) (by kernel_rfl) (Nat.le_of_ble_eq_true rfl) rfl ?_)
        refine G_nil (kB_normal ?_)
        refine zac ⟨_, v1059, h, ?_⟩
        exact so (lq rfl (lq rfl (lq rfl lt0)))
    ·refine kr ?_
     refine qm (.xi x4_l14) rfl ?_
     refine G_q rfl (op_add rfl rfl rfl ?_)
     refine qa (.xi (i64 (x4_l14 + 1))) rfl ?_
     refine G_nil ?_
     refine zac ⟨_, _, v3_j844, h, ?_⟩
     exact so (lq rfl (lq rfl (lq rfl lt0)))
   ·refine k_exit (kC_exit (kI_exit (kB_exit ?_)))
    refine zac ⟨_, v3_l14, h, ?_⟩
    exact so (lq rfl lt0)
 ·refine zad (kr ?_)
  refine qm (.exact v3_j1) rfl ?_
  refine qa (.exact v3_j1) rfl ?_
  refine G_nil (zaa (k_ret ?_))
  obtain rfl := Option.some.inj h
  refine ke (pt AF0 2 (.row 1 zab x3_j1)) [] rfl ?_ ⟨rfl, rfl⟩
  refine Sub.trans (SubU.to (SubU.freezeT (s := 2) rfl len_c_api_Value)) ?_
  exact so (lq rfl lt0)
set_option maxHeartbeats 4000000 in
theorem m_ref9_Set_ok (a0 : List (List UInt8)) (r : (List UInt8)) (h : m_ref9_Set a0 = some r) : Pure Tryz.prog 28 [(.row 1 zab a0)] (.exact (.string (bs r))) := by
 unfold m_ref9_Set at h
 refine Pure.ofFun (fun_of_awp Tryz.func28 rfl Tryz.ntmps28 (by simp) rfl (res1 rfl) fun E hE => k_end ?_)
 refine zad (kr ?_)
 refine qa (.xs ([] : List UInt8)) rfl ?_
 refine G_nil (zaa (zad (zad (kr ?_))))
 refine qm (.row 1 zab a0) rfl ?_
 obtain ⟨y1, hy1, h⟩ := bnd1_some h
 refine G_q rfl (zai (m_ref9_all_ok _ _ hy1) Tryz.func43 (by kernel_rfl) (LEs.cons (AV.le_eq rfl) LEs.nil) ?_)
 refine G_q rfl (op_not rfl ?_)
 refine G_nil (zaa ?_)
 refine kb (p := !y1) rfl h (fun hc h => ?_) (fun hc h => ?_)
 ·refine zad (kr ?_)
  refine qa (.xs ([] : List UInt8)) rfl ?_
  refine G_nil (zaa (k_ret (kC_ret ?_)))
  obtain rfl := Option.some.inj h
  refine ke (pt AF0 2 (.xs ([] : List UInt8))) [] rfl ?_ ⟨rfl, rfl⟩
  exact so (lq rfl lt0)
 ·refine k_skip (zaa (zad (kr ?_)))
  refine qm (.row 1 zab a0) rfl ?_
  obtain ⟨y2, hy2, h⟩ := bnd1_some h
  refine G_q rfl (zai (m_ref9_Sort_ok _ _ hy2) Tryz.func30 (by kernel_rfl) (LEs.cons (AV.le_eq rfl) LEs.nil) ?_)
  obtain ⟨y3, hy3, h⟩ := bnd1_some h
  refine G_q rfl (zai (m_ref9_compound_ok _ _ _ hy3) Tryz.func44 (by kernel_rfl) (LEs.cons (AV.le_eq rfl) (LEs.cons (AV.le_eq rfl) LEs.nil)) ?_)
  refine qa (.xs y3) rfl ?_
  refine G_nil (zaa (k_ret ?_))
  obtain rfl := Option.some.inj h
  refine ke (pt AF0 2 (.xs y3)) [] rfl ?_ ⟨rfl, rfl⟩
  exact so (lq rfl lt0)
set_option maxHeartbeats 4000000 in
theorem m_ref9_Dot_ok (a0 : Int) (a1 : List (List UInt8)) (r : (List UInt8)) (h : m_ref9_Dot a0 a1 = some r) : Pure Tryz.prog 29 [(.exact (.int .i64 a0)), (.row 1 zab a1)] (.exact (.string (bs r))) := by
 unfold m_ref9_Dot at h
 refine Pure.ofFun (fun_of_awp Tryz.func29 rfl Tryz.ntmps29 (by simp) rfl (res1 rfl) fun E hE => k_end ?_)
 refine zad (kr ?_)
 refine qa (.xs ([] : List UInt8)) rfl ?_
 refine G_nil (zaa (zad (kr ?_)))
 refine qm (.xi a0) rfl ?_
 obtain ⟨y1, hy1, h⟩ := bnd1_some h
 refine G_q rfl (zai (m_ref9_Name_ok _ _ hy1) Tryz.func26 (by kernel_rfl) (LEs.cons (AV.le_eq rfl) LEs.nil) ?_)
 refine G_l rfl (op_litI (n := 1) (enc := zab) [y1] (by kernel_rfl) (CellsAll.cons rfl CellsOf.str CellsAll.nil) rfl (by kernel_rfl) (LEss.cons (LEs.cons (AV.le_eq rfl) LEs.nil) LEss.nil) (fun v2 => ?_))
 refine qm (.row 1 zab a1) rfl ?_
 obtain ⟨n3, h⟩ := need_some h
 refine G_l rfl (op_appT (by kernel_rfl) rfl rfl oc_c_api_Value n3 (fun v4 => ?_))
 refine G_sub rfl (SubU.freezeT (s := 9) rfl len_c_api_Value) ?_
 obtain ⟨y5, hy5, h⟩ := bnd1_some h
 refine G_q rfl (zai (m_ref9_Make_ok _ _ _ hy5) Tryz.func19 (by kernel_rfl) (LEs.cons (AV.le_eq rfl) (LEs.cons (AV.le_eq rfl) LEs.nil)) ?_)
 refine qa (.xs y5) rfl ?_
 refine G_nil (zaa (k_ret ?_))
 obtain rfl := Option.some.inj h
 refine ke (pt AF0 4 (.xs y5)) [] rfl ?_ ⟨rfl, rfl⟩
 exact so (lq rfl lt0)
set_option maxHeartbeats 4000000 in
theorem m_ref9_Map_ok (a0 : List (List UInt8)) (a1 : List (List UInt8)) (r : (List UInt8)) (h : m_ref9_Map a0 a1 = some r) : Pure Tryz.prog 31 [(.row 1 zab a0), (.row 1 zab a1)] (.exact (.string (bs r))) := by
 unfold m_ref9_Map at h
 refine Pure.ofFun (fun_of_awp Tryz.func31 rfl Tryz.ntmps31 (by simp) rfl (res1 rfl) fun E hE => k_end ?_)
 refine zad (kr ?_)
 refine qa (.xs ([] : List UInt8)) rfl ?_
 refine G_nil (zaa (zad ?_))
 refine k_join1_0 h (fun (x23_j7 : Bool) => (pt (pt (pt AF0 0 (.row 1 zab a0)) 1 (.row 1 zab a1)) 23 (.xb x23_j7))) (fun (x23_j7 : Bool) => []) (fun k7 h => ?_) (fun x23_j7 h => ?_)
 ·refine kr ?_
  refine qm (.row 1 zab a0) rfl ?_
  refine G_q rfl (op_len_row (by kernel_rfl) rfl ?_)
  refine qm (.row 1 zab a1) rfl ?_
  refine G_q rfl (op_len_row (by kernel_rfl) rfl ?_)
  refine G_q rfl (op_neq rfl rfl ?_)
  refine qm (.xb (decide (¬ (List.length a0 : Int) = (List.length a1 : Int)))) rfl ?_
  refine G_split (p := ¬ (List.length a0 : Int) = (List.length a1 : Int)) 14 rfl (fun hc => ?_) (fun hc => ?_)
  ·replace h := ite_t h hc
   refine G_n rfl rfl (G_n rfl rfl (G_n rfl rfl ?_))
   refine G_q rfl (zak rfl (av := .xb true) rfl ?_)
   refine qm (.xb true) rfl ?_
   refine G_n rfl rfl (G_n rfl rfl (G_n rfl rfl ?_))
   refine G_q rfl (zak rfl (av := .xb true) rfl ?_)
   refine G_nil ?_
   refine zac ⟨_, h, ?_⟩
   exact so (lq rfl (lq rfl (lq rfl lt0)))
  ·replace h := ite_f h hc
   refine Gy_q rfl rfl rfl (zaf (av := .row 1 zab a0) rfl ?_)
   obtain ⟨y10, hy10, h⟩ := bnd1_some h
   refine Gy_q rfl rfl rfl (zai (m_ref9_all_ok _ _ hy10) Tryz.func43 (by kernel_rfl) (LEs.cons (AV.le_eq rfl) LEs.nil) ?_)
   refine Gy_q rfl rfl rfl (op_not rfl ?_)
   refine G_q rfl (zah rfl (av := .xb (!y10)) rfl ?_)
   refine qm (.xb (!y10)) rfl ?_
   refine G_splitB (c := !y10) 19 rfl (fun hc => ?_) (fun hc => ?_)
   ·replace h := ite_t h hc
    refine G_n rfl rfl (G_n rfl rfl (G_n rfl rfl ?_))
    refine G_q rfl (zak rfl (av := .xb true) rfl ?_)
    refine G_nil ?_
    refine zac ⟨_, h, ?_⟩
    exact so (lq rfl (lq rfl (lq rfl lt0)))
   ·replace h := ite_f h hc
    refine Gy_q rfl rfl rfl (zaf (av := .row 1 zab a1) rfl ?_)
    obtain ⟨y11, hy11, h⟩ := bnd1_some h
    refine Gy_q rfl rfl rfl (zai (m_ref9_all_ok _ _ hy11) Tryz.func43 (by kernel_rfl) (LEs.cons (AV.le_eq rfl) LEs.nil) ?_)
    refine Gy_q rfl rfl rfl (op_not rfl ?_)
    refine G_q rfl (zah rfl (av := .xb (!y11)) rfl ?_)
    refine G_nil ?_
    refine zac ⟨_, h, ?_⟩
    exact so (lq rfl (lq rfl (lq rfl lt0)))
 ·refine kb (p := x23_j7) rfl h (fun hc h => ?_) (fun hc h => ?_)
  ·refine zad (kr ?_)
   refine qa (.xs ([] : List UInt8)) rfl ?_
   refine G_nil (zaa (k_ret (kC_ret ?_)))
   obtain rfl := Option.some.inj h
   refine ke (pt AF0 4 (.xs ([] : List UInt8))) [] rfl ?_ ⟨rfl, rfl⟩
   exact so (lq rfl lt0)
  ·refine k_skip (zaa (zad (kr ?_)))
   refine qm (.row 1 zab a0) rfl ?_
   obtain ⟨y12, hy12, h⟩ := bnd1_some h
   refine G_q rfl (zai (m_ref9_Sort_ok _ _ hy12) Tryz.func30 (by kernel_rfl) (LEs.cons (AV.le_eq rfl) LEs.nil) ?_)
   refine qa (.row 1 zab y12) rfl ?_
   refine G_nil (zaa (zad (zad (kr ?_))))
   refine qm (.row 1 zab y12) rfl ?_
   refine G_q rfl (op_len_row (by kernel_rfl) rfl ?_)
   refine qm (.row 1 zab a0) rfl ?_
   refine G_q rfl (op_len_row (by kernel_rfl) rfl ?_)
   refine G_q rfl (op_neq rfl rfl ?_)
   refine G_nil (zaa ?_)
   refine kd (p := ¬ (List.length y12 : Int) = (List.length a0 : Int)) rfl h (fun hc h => ?_) (fun hc h => ?_)
   ·refine zad (kr ?_)
    refine qa (.xs ([] : List UInt8)) rfl ?_
    refine G_nil (zaa (k_ret (kC_ret ?_)))
    obtain rfl := Option.some.inj h
    refine ke (pt AF0 4 (.xs ([] : List UInt8))) [] rfl ?_ ⟨rfl, rfl⟩
    exact so (lq rfl lt0)
   ·refine k_skip (zaa (zad (kr ?_)))
    refine qa (.exact (.slice none 0 0)) rfl ?_
    refine G_nil (zaa ?_)
    refine k_join1_1 h (fun (x6_j13 : List (List UInt8)) (v6_j13 : Value) => (pt AF0 6 (.exact v6_j13))) (fun (x6_j13 : List (List UInt8)) (v6_j13 : Value) => [vecT Tryz.prog 27 1 zab v6_j13 x6_j13]) (fun k13 h => ?_) (fun x6_j13 v6_j13 h => ?_)
    ·refine zad (kr ?_)
     refine qa (.xi 0) rfl ?_
     refine G_nil (zaa (k_block ?_))
     refine k_loop2_1 (m_ref9_Map_L8 a0 a1 y12 k13) (m_ref9_Map_B8 a0 a1 y12 k13) (fun _ _ => rfl) (fun m _ _ => rfl) h (fun (x6_l8 : List (List UInt8)) (x7_l8 : Int) (v6_l8 : Value) => (pt (pt (pt (pt (pt AF0 0 (.row 1 zab a0)) 1 (.row 1 zab a1)) 5 (.row 1 zab y12)) 6 (.exact v6_l8)) 7 (.xi x7_l8))) (fun (x6_l8 : List (List UInt8)) (x7_l8 : Int) (v6_l8 : Value) => [vecT Tryz.prog 27 1 zab v6_l8 x6_l8]) (.slice none 0 0) ?_ (fun rec8 x6_l8 x7_l8 v6_l8 h => ?_)
     ·refine Sub.trans (SubU.to (SubU.nilT (P := Tryz.prog) (t := 27) (n := 1) (enc := zab))) ?_
      exact so (l4 rfl rfl rfl rfl (lq rfl lt0))
     ·unfold m_ref9_Map_B8 at h
      refine zad (zad (kr ?_))
      refine qm (.xi x7_l8) rfl ?_
      refine qm (.row 1 zab y12) rfl ?_
      refine G_q rfl (op_len_row (by kernel_rfl) rfl ?_)
      refine G_q rfl (op_lss rfl rfl ?_)
      refine G_nil (zaa ?_)
      refine kd (p := x7_l8 < (List.length y12 : Int)) rfl h (fun hc h => ?_) (fun hc h => ?_)
      ·refine k_skip (zaa ?_)
       refine k_join1_1 h (fun (x6_j420 : List (List UInt8)) (v6_j420 : Value) => (pt (pt (pt (pt (pt AF0 0 (.row 1 zab a0)) 1 (.row 1 zab a1)) 5 (.row 1 zab y12)) 6 (.exact v6_j420)) 7 (.xi x7_l8))) (fun (x6_j420 : List (List UInt8)) (v6_j420 : Value) => [vecT Tryz.prog 27 1 zab v6_j420 x6_j420]) (fun k420 h => ?_) (fun x6_j420 v6_j420 h => ?_)
       ·refine k_block (zad (kr ?_))
        refine qa (.xi 0) rfl ?_
        refine G_nil (zaa (k_block ?_))
        refine k_loop2_1 (m_ref9_Map_L14 a0 a1 y12 x7_l8 k420) (m_ref9_Map_B14 a0 a1 y12 x7_l8 k420) (fun _ _ => rfl) (fun m _ _ => rfl) h (fun (x6_l14 : List (List UInt8)) (x8_l14 : Int) (v6_l14 : Value) => (pt (pt (pt (pt (pt (pt AF0 0 (.row 1 zab a0)) 1 (.row 1 zab a1)) 5 (.row 1 zab y12)) 6 (.exact v6_l14)) 7 (.xi x7_l8)) 8 (.xi x8_l14))) (fun (x6_l14 : List (List UInt8)) (x8_l14 : Int) (v6_l14 : Value) => [vecT Tryz.prog 27 1 zab v6_l14 x6_l14]) v6_l8 ?_ (fun rec14 x6_l14 x8_l14 v6_l14 h => ?_)
        ·exact so (l4 rfl rfl rfl rfl (lq rfl (lq rfl lt0)))
        ·unfold m_ref9_Map_B14 at h
         refine zad (zad (kr ?_))
         refine qm (.xi x8_l14) rfl ?_
         refine qm (.row 1 zab a0) rfl ?_
         refine G_q rfl (op_len_row (by kernel_rfl) rfl ?_)
         refine G_q rfl (op_lss rfl rfl ?_)
         refine G_nil (zaa ?_)
         refine kd (p := x8_l14 < (List.length a0 : Int)) rfl h (fun hc h => ?_) (fun hc h => ?_)
         ·refine k_skip (zaa ?_)
          refine k_join1_1 h (fun (x6_j487 : List (List UInt8)) (v6_j487 : Value) => (pt (pt (pt (pt (pt (pt AF0 0 (.row 1 zab a0)) 1 (.row 1 zab a1)) 5 (.row 1 zab y12)) 6 (.exact v6_j487)) 7 (.xi x7_l8)) 8 (.xi x8_l14))) (fun (x6_j487 : List (List UInt8)) (v6_j487 : Value) => [vecT Tryz.prog 27 1 zab v6_j487 x6_j487]) (fun k487 h => ?_) (fun x6_j487 v6_j487 h => ?_)
          ·refine k_block (zad ?_)
           refine k_plan [] [(0, 0), (0, 1), (0, 2), (0, 3), (0, 4), (0, 5), (0, 6), (0, 7), (0, 8)] hmixP (by kernel_rfl) ?_
           refine P_q no34_0 rfl (zaf (av := .row 1 zab a0) rfl ?_)
           refine P_q no34_0 rfl (zaf (av := .xi x8_l14) rfl ?_)
           obtain ⟨n494, h⟩ := need_some h
           refine P_q no34_0 rfl (zam (by kernel_rfl) rfl rfl n494.1 n494.2 ?_)
           refine P_q no34_0 rfl (zal (a := .xs (gi a0 x8_l14)) (by kernel_rfl) rfl rfl ?_)
           refine P_q no34_0 rfl (zaf (av := .row 1 zab y12) rfl ?_)
           refine P_q no34_0 rfl (zaf (av := .xi x7_l8) rfl ?_)
           obtain ⟨n495, h⟩ := need_some h
           refine P_q no34_0 rfl (zam (by kernel_rfl) rfl rfl n495.1 n495.2 ?_)
           refine P_q no34_0 rfl (zal (a := .xs (gi y12 x7_l8)) (by kernel_rfl) rfl rfl ?_)
           refine P_q no34_0 rfl (op_eqlS rfl rfl ?_)
           refine P_nil (zaa ?_)
           refine kd (p := (gi a0 x8_l14) = (gi y12 x7_l8)) rfl h (fun hc h => ?_) (fun hc h => ?_)
           ·refine k_plan [] [(0, 0), (0, 1), (0, 2), (0, 3), (0, 4), (0, 5), (0, 6), (0, 7), (0, 8), (0, 9), (2, 10), (0, 11)] hmixP (by kernel_rfl) ?_
            refine P_q no34_0 rfl (zaf (av := .exact v6_l14) rfl ?_)
            refine P_q no34_0 rfl (zaf (av := .row 1 zab y12) rfl ?_)
            refine P_q no34_0 rfl (zaf (av := .xi x7_l8) rfl ?_)
            obtain ⟨n496, h⟩ := need_some h
            refine P_q no34_0 rfl (zam (by kernel_rfl) rfl rfl n496.1 n496.2 ?_)
            refine P_q no34_0 rfl (zal (a := .xs (gi y12 x7_l8)) (by kernel_rfl) rfl rfl ?_)
            refine P_q no34_0 rfl (zaf (av := .row 1 zab a1) rfl ?_)
            refine P_q no34_0 rfl (zaf (av := .xi x8_l14) rfl ?_)
            obtain ⟨n497, h⟩ := need_some h
            refine P_q no34_0 rfl (zam (by kernel_rfl) rfl rfl n497.1 n497.2 ?_)
            refine P_q no34_0 rfl (zal (a := .xs (gi a1 x8_l14)) (by kernel_rfl) rfl rfl ?_)
            refine P_q no34_0 rfl (op_litT (n := 1) (enc := zab) [gi y12 x7_l8, gi a1 x8_l14] (CellsAll.cons rfl CellsOf.str (CellsAll.cons rfl CellsOf.str CellsAll.nil)) rfl (by kernel_rfl) (LEss.cons (LEs.cons (AV.le_eq rfl) LEs.nil) (LEss.cons (LEs.cons (AV.le_eq rfl) LEs.nil) LEss.nil)) ?_)
            obtain ⟨n498, h⟩ := need_some h
            refine P_l rfl (op_appT (by kernel_rfl) rfl rfl oc_c_api_Value n498 (fun v499 => ?_))
            refine P_q no34_0 rfl (op_assign (av := .exact v499) rfl ?_)
            refine P_nil (kB_normal ?_)
            refine zac ⟨_, v499, h, ?_⟩
            exact so (l4 rfl rfl rfl rfl (lq rfl (lq rfl lt0)))
           ·refine k_skip (kB_normal ?_)
            refine zac ⟨_, v6_l14, h, ?_⟩
            exact so (l4 rfl rfl rfl rfl (lq rfl (lq rfl lt0)))
          ·refine kr ?_
           refine qm (.xi x8_l14) rfl ?_
           refine G_q rfl (op_add rfl rfl rfl ?_)
           refine qa (.xi (i64 (x8_l14 + 1))) rfl ?_
           refine G_nil ?_
           refine zac ⟨_, _, v6_j487, h, ?_⟩
           exact so (l4 rfl rfl rfl rfl (lq rfl (lq rfl lt0)))
         ·refine k_exit (kC_exit (kI_exit (kB_exit (kB_normal ?_))))
          refine zac ⟨_, v6_l14, h, ?_⟩
          exact so (l4 rfl rfl rfl rfl (lq rfl lt0))
       ·refine kr ?_
        refine qm (.xi x7_l8) rfl ?_
        refine G_q rfl (op_add rfl rfl rfl ?_)
        refine qa (.xi (i64 (x7_l8 + 1))) rfl ?_
        refine G_nil ?_
        refine zac ⟨_, _, v6_j420, h, ?_⟩
        exact so (l4 rfl rfl rfl rfl (lq rfl lt0))
      ·refine k_exit (kC_exit (kI_exit (kB_exit ?_)))
       refine zac ⟨_, v6_l8, h, ?_⟩
       exact so (lq rfl lt0)
    ·refine zad (kr ?_)
     refine qm (.exact v6_j13) rfl ?_
     refine G_sub rfl (SubU.freezeT2 (s1 := 6) (s2 := 63) rfl rfl len_c_api_Value) ?_
     obtain ⟨y500, hy500, h⟩ := bnd1_some h
     refine G_q rfl (zai (m_ref9_compound_ok _ _ _ hy500) Tryz.func44 (by kernel_rfl) (LEs.cons (AV.le_eq rfl) (LEs.cons (AV.le_eq rfl) LEs.nil)) ?_)
     refine qa (.xs y500) rfl ?_
     refine G_nil (zaa (k_ret ?_))
     obtain rfl := Option.some.inj h
     refine ke (pt AF0 4 (.xs y500)) [] rfl ?_ ⟨rfl, rfl⟩
     exact so (lq rfl lt0)
set_option maxHeartbeats 4000000 in
theorem m_ref9_eight_ok (a0 : Int) (r : (List UInt8)) (h : m_ref9_eight a0 = some r) : Pure Tryz.prog 53 [(.exact (.int .i64 a0))] (.exact (.string (bs r))) := by
 unfold m_ref9_eight at h
 refine Pure.ofFun (fun_of_awp Tryz.func53 rfl Tryz.ntmps53 (by simp) rfl (res1 rfl) fun E hE => k_end ?_)
 refine zad (kr ?_)
 refine qa (.xs ([] : List UInt8)) rfl ?_
 refine G_nil (zaa (zad (kr ?_)))
 obtain ⟨n1, h⟩ := need_some h
 refine G_l rfl (op_make (enc := c_uint8) (zr := (0 : UInt8)) (by kernel_rfl) rfl rfl n1.1 n1.2 len_c_uint8 Tryz.zeroValue5 (fun _ _ => (Fit.ex Fit.nil0)) (fun v2 => ?_))
 refine qa (.exact v2) rfl ?_
 refine G_nil (zaa ?_)
 refine k_join1_0 h (fun (x3_j3 : List UInt8) => (pt AF0 3 (.exact v2))) (fun (x3_j3 : List UInt8) => [vecT Tryz.prog 81 1 c_uint8 v2 x3_j3]) (fun k3 h => ?_) (fun x3_j3 h => ?_)
 ·refine zad (kr ?_)
  refine qa (.xi 0) rfl ?_
  refine G_nil (zaa (k_block ?_))
  refine k_loop2_0 (m_ref9_eight_L2 a0 k3) (m_ref9_eight_B2 a0 k3) (fun _ _ => rfl) (fun m _ _ => rfl) h (fun (x3_l2 : List UInt8) (x4_l2 : Int) => (pt (pt (pt AF0 0 (.xi a0)) 3 (.exact v2)) 4 (.xi x4_l2))) (fun (x3_l2 : List UInt8) (x4_l2 : Int) => [vecT Tryz.prog 81 1 c_uint8 v2 x3_l2]) ?_ (fun rec2 x3_l2 x4_l2 h => ?_)
  ·exact so (lq rfl (lq rfl (lq rfl lt0)))
  ·unfold m_ref9_eight_B2 at h
   refine zad (zad (kr ?_))
   refine qm (.xi x4_l2) rfl ?_
   refine G_q rfl (op_lss rfl rfl ?_)
   refine G_nil (zaa ?_)
   refine kd (p := x4_l2 < 8) rfl h (fun hc h => ?_) (fun hc h => ?_)
   ·refine k_skip (zaa (zad (k_block (kr ?_))))
    refine qm (.exact v2) rfl ?_
    refine qm (.xi x4_l2) rfl ?_
    refine G_q rfl (op_sub rfl rfl rfl ?_)
    refine qm (.xi a0) rfl ?_
    refine G_q rfl (op_convInt (k := .u64) (by kernel_rfl) rfl rfl ?_)
    refine qm (.xi x4_l2) rfl ?_
    refine G_q rfl (op_mul rfl rfl rfl ?_)
    refine G_q rfl (op_convInt (k := .u64) (by kernel_rfl) rfl rfl ?_)
    obtain ⟨n15, h⟩ := need_some h
    refine G_q rfl (op_shr rfl rfl n15 rfl ?_)
    refine G_q rfl (op_convInt (k := .u8) (r := (UInt8.toNat (u8i (Int.fdiv (IntKind.u64.wrap (a0)) (2 ^ min (Int.toNat (IntKind.u64.wrap (i64 (8 * x4_l2)))) IntKind.u64.bits))) : Int)) (by kernel_rfl) rfl (u8i_eq _) ?_)
    obtain ⟨n16, h⟩ := need_some h
    refine G_r rfl (op_index_vec (by kernel_rfl) rfl rfl n16.1 n16.2 ?_)
    refine G_l rfl (op_store_vec (i := i64 (7 - x4_l2)) (o := 0) (z := u8i (Int.fdiv (IntKind.u64.wrap (a0)) (2 ^ min (Int.toNat (IntKind.u64.wrap (i64 (8 * x4_l2)))) IntKind.u64.bits))) (c' := [.exact (.int .u8 (UInt8.toNat (u8i (Int.fdiv (IntKind.u64.wrap (a0)) (2 ^ min (Int.toNat (IntKind.u64.wrap (i64 (8 * x4_l2)))) IntKind.u64.bits))) : Int))]) (by kernel_rfl) len_c_uint8 rfl n16.1 n16.2 rfl CellsOf.int (LEs.cons (AV.le_eq rfl) LEs.nil) (OneC.int OneC.nil) (by kernel_rfl) (Nat.le_of_ble_eq_true rfl) rfl ?_)
    refine G_nil (kB_normal (zaa (kr ?_)))
    refine qm (.xi x4_l2) rfl ?_
    refine G_q rfl (op_add rfl rfl rfl ?_)
    refine qa (.xi (i64 (x4_l2 + 1))) rfl ?_
    refine G_nil ?_
    refine zac ⟨_, _, h, ?_⟩
    exact so (lq rfl (lq rfl (lq rfl lt0)))
   ·refine k_exit (kC_exit (kI_exit (kB_exit ?_)))
    refine zac ⟨_, h, ?_⟩
    exact so (lq rfl lt0)
 ·refine zad (kr ?_)
  refine qm (.exact v2) rfl ?_
  refine G_r rfl (op_bytesS_bor rfl (by kernel_rfl) (Bor.vec (List.Mem.head _) len_c_uint8) ?_)
  refine qa (.xs x3_j3) rfl ?_
  refine G_nil (zaa (k_ret ?_))
  obtain rfl := Option.some.inj h
  refine ke (pt AF0 2 (.xs x3_j3)) [] rfl ?_ ⟨rfl, rfl⟩
  refine Sub.trans (SubU.to SubU.drop) ?_
  exact so (lq rfl lt0)
set_option maxHeartbeats 4000000 in
theorem m_ref9_Int_ok (a0 : Int) (r : (List UInt8)) (h : m_ref9_Int a0 = some r) : Pure Tryz.prog 33 [(.exact (.int .i64 a0))] (.exact (.string (bs r))) := by
 unfold m_ref9_Int at h
 refine Pure.ofFun (fun_of_awp Tryz.func33 rfl Tryz.ntmps33 (by simp) rfl (res1 rfl) fun E hE => k_end ?_)
 refine zad (kr ?_)
 refine qa (.xs ([] : List UInt8)) rfl ?_
 refine G_nil (zaa (zad ?_))
 refine k_plan [] [(0, 0), (0, 1), (0, 2), (0, 3), (0, 4), (0, 5)] hmixP (by kernel_rfl) ?_
 refine P_q no34_0 rfl (op_litT (n := 1) (enc := c_uint8) [1] (CellsAll.cons rfl CellsOf.int CellsAll.nil) rfl (by kernel_rfl) (LEss.cons (LEs.cons (AV.le_eq rfl) LEs.nil) LEss.nil) ?_)
 refine P_q no34_0 rfl (op_bytesS rfl (by kernel_rfl) rfl ?_)
 refine P_q no34_0 rfl (zaf (av := .xi a0) rfl ?_)
 obtain ⟨y1, hy1, h⟩ := bnd1_some h
 refine P_q no34_0 rfl (zai (m_ref9_eight_ok _ _ hy1) Tryz.func53 (by kernel_rfl) (LEs.cons (AV.le_eq rfl) LEs.nil) ?_)
 obtain ⟨n2, h⟩ := need_some h
 refine P_q no34_0 rfl (op_addS n2 rfl rfl ?_)
 refine P_q no34_0 rfl (op_assign (av := .xs ([1] ++ y1)) rfl ?_)
 refine P_nil (zaa (k_ret ?_))
 obtain rfl := Option.some.inj h
 refine ke (pt AF0 2 (.xs ([1] ++ y1))) [] rfl ?_ ⟨rfl, rfl⟩
 exact so (lq rfl lt0)
set_option maxHeartbeats 4000000 in
theorem m_ref9_Numbered_ok (a0 : Int) (a1 : Int) (a2 : List (List UInt8)) (r : (List UInt8)) (h : m_ref9_Numbered a0 a1 a2 = some r) : Pure Tryz.prog 32 [(.exact (.int .i64 a0)), (.exact (.int .i64 a1)), (.row 1 zab a2)] (.exact (.string (bs r))) := by
 unfold m_ref9_Numbered at h
 refine Pure.ofFun (fun_of_awp Tryz.func32 rfl Tryz.ntmps32 (by simp) rfl (res1 rfl) fun E hE => k_end ?_)
 refine zad (kr ?_)
 refine qa (.xs ([] : List UInt8)) rfl ?_
 refine G_nil (zaa (zad (kr ?_)))
 refine qm (.xi a0) rfl ?_
 refine qm (.xi a1) rfl ?_
 obtain ⟨y1, hy1, h⟩ := bnd1_some h
 refine G_q rfl (zai (m_ref9_Int_ok _ _ hy1) Tryz.func33 (by kernel_rfl) (LEs.cons (AV.le_eq rfl) LEs.nil) ?_)
 refine G_l rfl (op_litI (n := 1) (enc := zab) [y1] (by kernel_rfl) (CellsAll.cons rfl CellsOf.str CellsAll.nil) rfl (by kernel_rfl) (LEss.cons (LEs.cons (AV.le_eq rfl) LEs.nil) LEss.nil) (fun v2 => ?_))
 refine qm (.row 1 zab a2) rfl ?_
 obtain ⟨n3, h⟩ := need_some h
 refine G_l rfl (op_appT (by kernel_rfl) rfl rfl oc_c_api_Value n3 (fun v4 => ?_))
 refine G_sub rfl (SubU.freezeT (s := 12) rfl len_c_api_Value) ?_
 obtain ⟨y5, hy5, h⟩ := bnd1_some h
 refine G_q rfl (zai (m_ref9_Make_ok _ _ _ hy5) Tryz.func19 (by kernel_rfl) (LEs.cons (AV.le_eq rfl) (LEs.cons (AV.le_eq rfl) LEs.nil)) ?_)
 refine qa (.xs y5) rfl ?_
 refine G_nil (zaa (k_ret ?_))
 obtain rfl := Option.some.inj h
 refine ke (pt AF0 6 (.xs y5)) [] rfl ?_ ⟨rfl, rfl⟩
 exact so (lq rfl lt0)
set_option maxHeartbeats 4000000 in
theorem m_gen_Choices_Value_F_ok {w0 : Nat} (self_gen_Choices_Value : ((List Int) × Int) → Int → Option ((List UInt8) × ((List Int) × Int))) (hself_gen_Choices_Value : ∀ ⦃w0 : Nat⦄ (a0 : (List Int) × Int) (a1 : Int) (r : (List UInt8) × ((List Int) × Int)), self_gen_Choices_Value a0 a1 = some r → Fun Tryz.prog 9 [(pA w0 0), (.exact (.int .i64 a1))] [boxI 53 w0 [.row 1 c_int a0.1, .exact (.int .i64 a0.2)]] (fun a s => a = .exact (.string (bs r.1)) ∧ s = [boxI 53 w0 [.row 1 c_int r.2.1, .exact (.int .i64 r.2.2)]])) (a0 : (List Int) × Int) (a1 : Int) (r : (List UInt8) × ((List Int) × Int)) (h : m_gen_Choices_Value_F self_gen_Choices_Value a0 a1 = some r) : Fun Tryz.prog 9 [(pA w0 0), (.exact (.int .i64 a1))] [boxI 53 w0 [.row 1 c_int a0.1, .exact (.int .i64 a0.2)]] (fun a s => a = .exact (.string (bs r.1)) ∧ s = [boxI 53 w0 [.row 1 c_int r.2.1, .exact (.int .i64 r.2.2)]]) := by
 unfold m_gen_Choices_Value_F at h
 refine fun_of_awp Tryz.func9 rfl Tryz.ntmps9 (by simp) rfl (res1 rfl) fun E hE => k_end ?_
 refine zad (kr ?_)
 refine qa (.xs ([] : List UInt8)) rfl ?_
 refine G_nil (zaa (zad (kr ?_)))
 refine qm (pA w0 0) rfl ?_
 obtain ⟨y1, hy1, h⟩ := bnd1_some h
 refine G_l rfl (op_fun_1_0_1 (m_gen_Choices_Next_ok _ _ _ hy1) Tryz.func18 (by kernel_rfl) (LEs.cons (AV.le_eq rfl) (LEs.cons (AV.le_eq rfl) LEs.nil)) ?_)
 refine qa (.xi y1.1) rfl ?_
 refine G_nil (zaa ?_)
 refine k_join1_0 h (fun (x5_j2 : Int) => (pt (pt (pt AF0 0 (pA w0 0)) 1 (.xi a1)) 5 (.xi x5_j2))) (fun (x5_j2 : Int) => [boxI 53 w0 [.row 1 c_int y1.2.1, .xi y1.2.2]]) (fun k2 h => ?_) (fun x5_j2 h => ?_)
 ·refine zad (kr ?_)
  refine qm (.xi a1) rfl ?_
  refine G_q rfl (op_leq rfl rfl ?_)
  refine G_nil (zaa ?_)
  refine kd (p := a1 ≤ 1) rfl h (fun hc h => ?_) (fun hc h => ?_)
  ·refine kr ?_
   refine qm (.xi y1.1) rfl ?_
   refine G_q rfl (op_rem rfl rfl (by decide) rfl ?_)
   refine qa (.xi (Int.tmod y1.1 3)) rfl ?_
   refine G_nil ?_
   refine zac ⟨_, h, ?_⟩
   exact so (lq rfl (lq rfl (lq rfl lt0)))
  ·refine k_skip ?_
   refine zac ⟨_, h, ?_⟩
   exact so (lq rfl (lq rfl (lq rfl lt0)))
 ·refine k_join0_0 h ((pt AF0 0 (pA w0 0))) ([boxI 53 w0 [.row 1 c_int y1.2.1, .xi y1.2.2]]) (fun k3 h => ?_) (fun  h => ?_)
  ·refine zad (kr ?_)
   refine qm (.xi x5_j2) rfl ?_
   refine G_nil (zaa (k_block (zad (kr ?_))))
   refine G_q rfl (op_eql rfl rfl ?_)
   refine qa (.xb (decide (x5_j2 = 1))) rfl ?_
   refine G_nil (zaa ?_)
   refine kd (p := x5_j2 = 1) rfl h (fun hc h => ?_) (fun hc h => ?_)
   ·refine zad (kr ?_)
    refine qm (pA w0 0) rfl ?_
    obtain ⟨y45, hy45, h⟩ := bnd1_some h
    refine G_l rfl (op_fun_1_0_1 (m_gen_Choices_Next_ok _ _ _ hy45) Tryz.func18 (by kernel_rfl) (LEs.cons (AV.le_eq rfl) (LEs.cons (AV.le_eq rfl) LEs.nil)) ?_)
    refine G_q rfl (op_eql rfl rfl ?_)
    obtain ⟨y46, hy46, h⟩ := bnd1_some h
    refine G_q rfl (zai (m_ref9_Bool_ok _ _ hy46) Tryz.func25 (by kernel_rfl) (LEs.cons (AV.le_eq rfl) LEs.nil) ?_)
    refine qa (.xs y46) rfl ?_
    refine G_nil (zaa (k_ret (kB_ret (kI_ret ?_))))
    obtain rfl := Option.some.inj h
    refine ke (pt AF0 4 (.xs y46)) [boxI 53 w0 [.row 1 c_int y45.2.1, .xi y45.2.2]] rfl ?_ ⟨rfl, rfl⟩
    exact so (lq rfl lt0)
   ·refine zad (kr ?_)
    refine G_q rfl (op_eql rfl rfl ?_)
    refine qa (.xb (decide (x5_j2 = 2))) rfl ?_
    refine G_nil (zaa ?_)
    refine kd (p := x5_j2 = 2) rfl h (fun hc h => ?_) (fun hc h => ?_)
    ·refine zad (kr ?_)
     refine qm (pA w0 0) rfl ?_
     obtain ⟨y47, hy47, h⟩ := bnd1_some h
     refine G_l rfl (op_fun_1_0_1 (m_gen_Choices_Next_ok _ _ _ hy47) Tryz.func18 (by kernel_rfl) (LEs.cons (AV.le_eq rfl) (LEs.cons (AV.le_eq rfl) LEs.nil)) ?_)
     obtain ⟨y48, hy48, h⟩ := bnd1_some h
     refine G_q rfl (zai (m_ref9_Name_ok _ _ hy48) Tryz.func26 (by kernel_rfl) (LEs.cons (AV.le_eq rfl) LEs.nil) ?_)
     refine qa (.xs y48) rfl ?_
     refine G_nil (zaa (k_ret (kB_ret (kI_ret ?_))))
     obtain rfl := Option.some.inj h
     refine ke (pt AF0 4 (.xs y48)) [boxI 53 w0 [.row 1 c_int y47.2.1, .xi y47.2.2]] rfl ?_ ⟨rfl, rfl⟩
     exact so (lq rfl lt0)
    ·refine zad (kr ?_)
     refine G_q rfl (op_eql rfl rfl ?_)
     refine qa (.xb (decide (x5_j2 = 3))) rfl ?_
     refine G_nil (zaa ?_)
     refine kd (p := x5_j2 = 3) rfl h (fun hc h => ?_) (fun hc h => ?_)
     ·refine zad (kr ?_)
      refine qm (pA w0 0) rfl ?_
      refine qm (.xi a1) rfl ?_
      refine G_q rfl (op_sub rfl rfl rfl ?_)
      obtain ⟨y49, hy49, h⟩ := bnd1_some h
      refine G_l rfl (op_fun_1_0_1 (hself_gen_Choices_Value _ _ _ hy49) Tryz.func9 (by kernel_rfl) (LEs.cons (AV.le_eq rfl) (LEs.cons (AV.le_eq rfl) LEs.nil)) ?_)
      refine qm (pA w0 0) rfl ?_
      refine qm (.xi a1) rfl ?_
      refine G_q rfl (op_sub rfl rfl rfl ?_)
      obtain ⟨y50, hy50, h⟩ := bnd1_some h
      refine G_l rfl (op_fun_1_0_1 (hself_gen_Choices_Value _ _ _ hy50) Tryz.func9 (by kernel_rfl) (LEs.cons (AV.le_eq rfl) (LEs.cons (AV.le_eq rfl) LEs.nil)) ?_)
      refine G_q rfl (op_litT (n := 1) (enc := zab) [y49.1, y50.1] (CellsAll.cons rfl CellsOf.str (CellsAll.cons rfl CellsOf.str CellsAll.nil)) rfl (by kernel_rfl) (LEss.cons (LEs.cons (AV.le_eq rfl) LEs.nil) (LEss.cons (LEs.cons (AV.le_eq rfl) LEs.nil) LEss.nil)) ?_)
      obtain ⟨y51, hy51, h⟩ := bnd1_some h
      refine G_q rfl (zai (m_ref9_Make_ok _ _ _ hy51) Tryz.func19 (by kernel_rfl) (LEs.cons (AV.le_eq rfl) (LEs.cons (AV.le_eq rfl) LEs.nil)) ?_)
      refine qa (.xs y51) rfl ?_
      refine G_nil (zaa (k_ret (kB_ret (kI_ret ?_))))
      obtain rfl := Option.some.inj h
      refine ke (pt AF0 4 (.xs y51)) [boxI 53 w0 [.row 1 c_int y50.2.1, .xi y50.2.2]] rfl ?_ ⟨rfl, rfl⟩
      exact so (lq rfl lt0)
     ·refine zad (kr ?_)
      refine G_q rfl (op_eql rfl rfl ?_)
      refine qa (.xb (decide (x5_j2 = 4))) rfl ?_
      refine G_nil (zaa ?_)
      refine kd (p := x5_j2 = 4) rfl h (fun hc h => ?_) (fun hc h => ?_)
      ·refine zad (kr ?_)
       refine qm (pA w0 0) rfl ?_
       refine qm (.xi a1) rfl ?_
       refine G_q rfl (op_sub rfl rfl rfl ?_)
       obtain ⟨y52, hy52, h⟩ := bnd1_some h
       refine G_l rfl (op_fun_1_0_1 (m_gen_Choices_Values_ok self_gen_Choices_Value hself_gen_Choices_Value _ _ _ _ hy52) Tryz.func27 (by kernel_rfl) (LEs.cons (AV.le_eq rfl) (LEs.cons (AV.le_eq rfl) (LEs.cons (AV.le_eq rfl) LEs.nil))) ?_)
       obtain ⟨y53, hy53, h⟩ := bnd1_some h
       refine G_q rfl (zai (m_ref9_Make_ok _ _ _ hy53) Tryz.func19 (by kernel_rfl) (LEs.cons (AV.le_eq rfl) (LEs.cons (AV.le_eq rfl) LEs.nil)) ?_)
       refine qa (.xs y53) rfl ?_
       refine G_nil (zaa (k_ret (kB_ret (kI_ret ?_))))
       obtain rfl := Option.some.inj h
       refine ke (pt AF0 4 (.xs y53)) [boxI 53 w0 [.row 1 c_int y52.2.1, .xi y52.2.2]] rfl ?_ ⟨rfl, rfl⟩
       exact so (lq rfl lt0)
      ·refine zad (kr ?_)
       refine G_q rfl (op_eql rfl rfl ?_)
       refine qa (.xb (decide (x5_j2 = 5))) rfl ?_
       refine G_nil (zaa ?_)
       refine kd (p := x5_j2 = 5) rfl h (fun hc h => ?_) (fun hc h => ?_)
       ·refine zad (kr ?_)
        refine qm (pA w0 0) rfl ?_
        refine qm (.xi a1) rfl ?_
        refine G_q rfl (op_sub rfl rfl rfl ?_)
        obtain ⟨y54, hy54, h⟩ := bnd1_some h
        refine G_l rfl (op_fun_1_0_1 (m_gen_Choices_Values_ok self_gen_Choices_Value hself_gen_Choices_Value _ _ _ _ hy54) Tryz.func27 (by kernel_rfl) (LEs.cons (AV.le_eq rfl) (LEs.cons (AV.le_eq rfl) (LEs.cons (AV.le_eq rfl) LEs.nil))) ?_)
        obtain ⟨y55, hy55, h⟩ := bnd1_some h
        refine G_q rfl (zai (m_ref9_Set_ok _ _ hy55) Tryz.func28 (by kernel_rfl) (LEs.cons (AV.le_eq rfl) LEs.nil) ?_)
        refine qa (.xs y55) rfl ?_
        refine G_nil (zaa (k_ret (kB_ret (kI_ret ?_))))
        obtain rfl := Option.some.inj h
        refine ke (pt AF0 4 (.xs y55)) [boxI 53 w0 [.row 1 c_int y54.2.1, .xi y54.2.2]] rfl ?_ ⟨rfl, rfl⟩
        exact so (lq rfl lt0)
       ·refine zad (kr ?_)
        refine G_q rfl (op_eql rfl rfl ?_)
        refine qa (.xb (decide (x5_j2 = 6))) rfl ?_
        refine G_nil (zaa ?_)
        refine kd (p := x5_j2 = 6) rfl h (fun hc h => ?_) (fun hc h => ?_)
        ·refine zad (kr ?_)
         refine qm (pA w0 0) rfl ?_
         obtain ⟨y56, hy56, h⟩ := bnd1_some h
         refine G_l rfl (op_fun_1_0_1 (m_gen_Choices_Next_ok _ _ _ hy56) Tryz.func18 (by kernel_rfl) (LEs.cons (AV.le_eq rfl) (LEs.cons (AV.le_eq rfl) LEs.nil)) ?_)
         refine qm (pA w0 0) rfl ?_
         refine qm (.xi a1) rfl ?_
         refine G_q rfl (op_sub rfl rfl rfl ?_)
         obtain ⟨y57, hy57, h⟩ := bnd1_some h
         refine G_l rfl (op_fun_1_0_1 (m_gen_Choices_Values_ok self_gen_Choices_Value hself_gen_Choices_Value _ _ _ _ hy57) Tryz.func27 (by kernel_rfl) (LEs.cons (AV.le_eq rfl) (LEs.cons (AV.le_eq rfl) (LEs.cons (AV.le_eq rfl) LEs.nil))) ?_)
         obtain ⟨y58, hy58, h⟩ := bnd1_some h
         refine G_q rfl (zai (m_ref9_Dot_ok _ _ _ hy58) Tryz.func29 (by kernel_rfl) (LEs.cons (AV.le_eq rfl) (LEs.cons (AV.le_eq rfl) LEs.nil)) ?_)
         refine qa (.xs y58) rfl ?_
         refine G_nil (zaa (k_ret (kB_ret (kI_ret ?_))))
         obtain rfl := Option.some.inj h
         refine ke (pt AF0 4 (.xs y58)) [boxI 53 w0 [.row 1 c_int y57.2.1, .xi y57.2.2]] rfl ?_ ⟨rfl, rfl⟩
         exact so (lq rfl lt0)
        ·refine zad (kr ?_)
         refine G_q rfl (op_eql rfl rfl ?_)
         refine qa (.xb (decide (x5_j2 = 7))) rfl ?_
         refine G_nil (zaa ?_)
         refine kd (p := x5_j2 = 7) rfl h (fun hc h => ?_) (fun hc h => ?_)
         ·refine zad (kr ?_)
          refine qm (pA w0 0) rfl ?_
          refine qm (.xi a1) rfl ?_
          refine G_q rfl (op_sub rfl rfl rfl ?_)
          obtain ⟨y59, hy59, h⟩ := bnd1_some h
          refine G_l rfl (op_fun_1_0_1 (m_gen_Choices_Values_ok self_gen_Choices_Value hself_gen_Choices_Value _ _ _ _ hy59) Tryz.func27 (by kernel_rfl) (LEs.cons (AV.le_eq rfl) (LEs.cons (AV.le_eq rfl) (LEs.cons (AV.le_eq rfl) LEs.nil))) ?_)
          obtain ⟨y60, hy60, h⟩ := bnd1_some h
          refine G_q rfl (zai (m_ref9_Sort_ok _ _ hy60) Tryz.func30 (by kernel_rfl) (LEs.cons (AV.le_eq rfl) LEs.nil) ?_)
          refine qa (.row 1 zab y60) rfl ?_
          refine G_nil (zaa (zad (kr ?_)))
          refine qa (.exact (.slice none 0 0)) rfl ?_
          refine G_nil (zaa ?_)
          refine k_join3_1 h (fun (x0_0_j61 : List Int) (x0_1_j61 : Int) (x7_j61 : List (List UInt8)) (v7_j61 : Value) => (pt (pt (pt AF0 0 (pA w0 0)) 6 (.row 1 zab y60)) 7 (.exact v7_j61))) (fun (x0_0_j61 : List Int) (x0_1_j61 : Int) (x7_j61 : List (List UInt8)) (v7_j61 : Value) => [boxI 53 w0 [.row 1 c_int x0_0_j61, .xi x0_1_j61], vecT Tryz.prog 27 1 zab v7_j61 x7_j61]) (fun k61 h => ?_) (fun x0_0_j61 x0_1_j61 x7_j61 v7_j61 h => ?_)
          ·refine zad (kr ?_)
           refine qa (.xi 0) rfl ?_
           refine G_nil (zaa (k_block ?_))
           refine k_loop4_1 (m_gen_Choices_Value_L4 self_gen_Choices_Value a1 y60 k61) (m_gen_Choices_Value_B4 self_gen_Choices_Value a1 y60 k61) (fun _ _ _ _ => rfl) (fun m _ _ _ _ => rfl) h (fun (x0_0_l4 : List Int) (x0_1_l4 : Int) (x7_l4 : List (List UInt8)) (x8_l4 : Int) (v7_l4 : Value) => (pt (pt (pt (pt (pt AF0 0 (pA w0 0)) 1 (.xi a1)) 6 (.row 1 zab y60)) 7 (.exact v7_l4)) 8 (.xi x8_l4))) (fun (x0_0_l4 : List Int) (x0_1_l4 : Int) (x7_l4 : List (List UInt8)) (x8_l4 : Int) (v7_l4 : Value) => [boxI 53 w0 [.row 1 c_int x0_0_l4, .xi x0_1_l4], vecT Tryz.prog 27 1 zab v7_l4 x7_l4]) (.slice none 0 0) ?_ (fun rec4 x0_0_l4 x0_1_l4 x7_l4 x8_l4 v7_l4 h => ?_)
           ·refine Sub.trans (SubU.to (SubU.nilT (P := Tryz.prog) (t := 27) (n := 1) (enc := zab))) ?_
            refine Sub.trans (SubU.to SubU.f1) ?_
            exact so (l4 rfl rfl rfl rfl (lq rfl lt0))
           ·unfold m_gen_Choices_Value_B4 at h
            refine zad (zad (kr ?_))
            refine qm (.xi x8_l4) rfl ?_
            refine qm (.row 1 zab y60) rfl ?_
            refine G_q rfl (op_len_row (by kernel_rfl) rfl ?_)
            refine G_q rfl (op_lss rfl rfl ?_)
            refine G_nil (zaa ?_)
            refine kd (p := x8_l4 < (List.length y60 : Int)) rfl h (fun hc h => ?_) (fun hc h => ?_)
            ·refine k_skip (zaa (zad (k_block (kr ?_))))
             refine qm (.exact v7_l4) rfl ?_
             refine qm (pA w0 0) rfl ?_
             refine qm (.xi a1) rfl ?_
             refine G_q rfl (op_sub rfl rfl rfl ?_)
             obtain ⟨y78, hy78, h⟩ := bnd1_some h
             refine G_l rfl (op_fun_1_0_1 (hself_gen_Choices_Value _ _ _ hy78) Tryz.func9 (by kernel_rfl) (LEs.cons (AV.le_eq rfl) (LEs.cons (AV.le_eq rfl) LEs.nil)) ?_)
             refine G_q rfl (op_litT (n := 1) (enc := zab) [y78.1] (CellsAll.cons rfl CellsOf.str CellsAll.nil) rfl (by kernel_rfl) (LEss.cons (LEs.cons (AV.le_eq rfl) LEs.nil) LEss.nil) ?_)
             obtain ⟨n79, h⟩ := need_some h
             refine G_l rfl (opB_f1 (op_appT (by kernel_rfl) rfl rfl oc_c_api_Value n79 (fun v80 => ?_)))
             refine qa (.exact v80) rfl ?_
             refine G_nil (kB_normal (zaa (kr ?_)))
             refine qm (.xi x8_l4) rfl ?_
             refine G_q rfl (op_add rfl rfl rfl ?_)
             refine qa (.xi (i64 (x8_l4 + 1))) rfl ?_
             refine G_nil ?_
             refine zac ⟨_, _, _, _, v80, h, ?_⟩
             refine Sub.trans (SubU.to SubU.f1) ?_
             exact so (l4 rfl rfl rfl rfl (lq rfl lt0))
            ·refine k_exit (kC_exit (kI_exit (kB_exit ?_)))
             refine zac ⟨_, _, _, v7_l4, h, ?_⟩
             exact so (lq rfl (lq rfl (lq rfl lt0)))
          ·refine zad (kr ?_)
           refine qm (.row 1 zab y60) rfl ?_
           refine qm (.exact v7_j61) rfl ?_
           refine G_sub rfl (SubU.trans SubU.f1 (SubU.freezeT2 (s1 := 7) (s2 := 83) rfl rfl len_c_api_Value)) ?_
           obtain ⟨y81, hy81, h⟩ := bnd1_some h
           refine G_q rfl (zai (m_ref9_Map_ok _ _ _ hy81) Tryz.func31 (by kernel_rfl) (LEs.cons (AV.le_eq rfl) (LEs.cons (AV.le_eq rfl) LEs.nil)) ?_)
           refine qa (.xs y81) rfl ?_
           refine G_nil (zaa (k_ret (kB_ret (kI_ret ?_))))
           obtain rfl := Option.some.inj h
           refine ke (pt AF0 4 (.xs y81)) [boxI 53 w0 [.row 1 c_int x0_0_j61, .xi x0_1_j61]] rfl ?_ ⟨rfl, rfl⟩
           exact so (lq rfl lt0)
         ·refine zad (kr ?_)
          refine G_q rfl (op_eql rfl rfl ?_)
          refine qa (.xb (decide (x5_j2 = 8))) rfl ?_
          refine G_nil (zaa ?_)
          refine kd (p := x5_j2 = 8) rfl h (fun hc h => ?_) (fun hc h => ?_)
          ·refine zad (kr ?_)
           refine qm (pA w0 0) rfl ?_
           obtain ⟨y82, hy82, h⟩ := bnd1_some h
           refine G_l rfl (op_fun_1_0_1 (m_gen_Choices_Next_ok _ _ _ hy82) Tryz.func18 (by kernel_rfl) (LEs.cons (AV.le_eq rfl) (LEs.cons (AV.le_eq rfl) LEs.nil)) ?_)
           refine qm (pA w0 0) rfl ?_
           refine qm (.xi a1) rfl ?_
           refine G_q rfl (op_sub rfl rfl rfl ?_)
           obtain ⟨y83, hy83, h⟩ := bnd1_some h
           refine G_l rfl (op_fun_1_0_1 (m_gen_Choices_Values_ok self_gen_Choices_Value hself_gen_Choices_Value _ _ _ _ hy83) Tryz.func27 (by kernel_rfl) (LEs.cons (AV.le_eq rfl) (LEs.cons (AV.le_eq rfl) (LEs.cons (AV.le_eq rfl) LEs.nil))) ?_)
           obtain ⟨y84, hy84, h⟩ := bnd1_some h
           refine G_q rfl (zai (m_ref9_Numbered_ok _ _ _ _ hy84) Tryz.func32 (by kernel_rfl) (LEs.cons (AV.le_eq rfl) (LEs.cons (AV.le_eq rfl) (LEs.cons (AV.le_eq rfl) LEs.nil))) ?_)
           refine qa (.xs y84) rfl ?_
           refine G_nil (zaa (k_ret (kB_ret (kI_ret ?_))))
           obtain rfl := Option.some.inj h
           refine ke (pt AF0 4 (.xs y84)) [boxI 53 w0 [.row 1 c_int y83.2.1, .xi y83.2.2]] rfl ?_ ⟨rfl, rfl⟩
           exact so (lq rfl lt0)
          ·refine k_skip (kB_normal ?_)
           refine zac ⟨h, ?_⟩
           exact so (lq rfl lt0)
  ·refine zad (kr ?_)
   refine qm (pA w0 0) rfl ?_
   obtain ⟨y85, hy85, h⟩ := bnd1_some h
   refine G_l rfl (op_fun_1_0_1 (m_gen_Choices_Number_ok _ _ hy85) Tryz.func24 (by kernel_rfl) (LEs.cons (AV.le_eq rfl) LEs.nil) ?_)
   obtain ⟨y86, hy86, h⟩ := bnd1_some h
   refine G_q rfl (zai (m_ref9_Int_ok _ _ hy86) Tryz.func33 (by kernel_rfl) (LEs.cons (AV.le_eq rfl) LEs.nil) ?_)
   refine qa (.xs y86) rfl ?_
   refine G_nil (zaa (k_ret ?_))
   obtain rfl := Option.some.inj h
   refine ke (pt AF0 4 (.xs y86)) [boxI 53 w0 [.row 1 c_int y85.2.1, .xi y85.2.2]] rfl ?_ ⟨rfl, rfl⟩
   exact so (lq rfl lt0)
set_option maxHeartbeats 4000000 in
theorem m_gen_Choices_Value_S_ok : ∀ n : Nat, (∀ ⦃w0 : Nat⦄ (a0 : (List Int) × Int) (a1 : Int) (r : (List UInt8) × ((List Int) × Int)), m_gen_Choices_Value_S n a0 a1 = some r → Fun Tryz.prog 9 [(pA w0 0), (.exact (.int .i64 a1))] [boxI 53 w0 [.row 1 c_int a0.1, .exact (.int .i64 a0.2)]] (fun a s => a = .exact (.string (bs r.1)) ∧ s = [boxI 53 w0 [.row 1 c_int r.2.1, .exact (.int .i64 r.2.2)]]))
  | 0 => (fun _ _ _ _ h => by have h' : (none : Option _) = some _ := h; cases h')
  | n + 1 => by
    have ih := m_gen_Choices_Value_S_ok n
    exact fun w0 a0 a1 r h => m_gen_Choices_Value_F_ok (m_gen_Choices_Value_S n) ih a0 a1 r h
theorem m_gen_Choices_Value_ok {w0 : Nat} (a0 : (List Int) × Int) (a1 : Int) (r : (List UInt8) × ((List Int) × Int)) (h : m_gen_Choices_Value a0 a1 = some r) : Fun Tryz.prog 9 [(pA w0 0), (.exact (.int .i64 a1))] [boxI 53 w0 [.row 1 c_int a0.1, .exact (.int .i64 a0.2)]] (fun a s => a = .exact (.string (bs r.1)) ∧ s = [boxI 53 w0 [.row 1 c_int r.2.1, .exact (.int .i64 r.2.2)]]) := (m_gen_Choices_Value_S_ok FU) a0 a1 r h
set_option maxHeartbeats 4000000 in
theorem m_pattern_node_rest_ok (a0 : Nd) (r : Nd) (h : m_pattern_node_rest a0 = some r) : Pure Tryz.prog 95 [(ndA a0)] (ndA r) := by
 unfold m_pattern_node_rest at h
 refine Pure.ofFun (fun_of_awp Tryz.func95 rfl Tryz.ntmps95 (by simp) rfl (res1 rfl) fun E hE => k_end ?_)
 refine zad (kr ?_)
 refine qa (.exact (.pointer none)) rfl ?_
 refine G_nil (zaa (zad ?_))
 refine k_plan [] [(0, 0), (0, 1), (0, 2), (0, 3), (0, 4), (0, 5), (0, 6), (0, 7), (0, 8), (0, 9), (0, 10)] hmixP (by kernel_rfl) ?_
 refine P_q no34_0 rfl (zaf (av := ndA a0) rfl ?_)
 obtain ⟨y1, hy1, h⟩ := bnd1_some h
 refine P_q no34_0 rfl (zan (c := zag y1) (ndA_un hy1) ?_)
 refine P_q no34_0 rfl (zaj (o := 2) (c' := (List.drop 2 (zag y1))) (by kernel_rfl) rfl rfl ?_)
 refine P_q no34_0 rfl (zal (a := .row 1 c_P_pattern_node y1.2.2) (by kernel_rfl) rfl rfl ?_)
 refine P_q no34_0 rfl (zaf (av := ndA a0) rfl ?_)
 obtain ⟨y2, hy2, h⟩ := bnd1_some h
 refine P_q no34_0 rfl (zan (c := zag y2) (ndA_un hy2) ?_)
 refine P_q no34_0 rfl (zaj (o := 1) (c' := (List.drop 1 (zag y2))) (by kernel_rfl) rfl rfl ?_)
 refine P_q no34_0 rfl (zal (a := .xi y2.2.1) (by kernel_rfl) rfl rfl ?_)
 obtain ⟨n3, h⟩ := need_some h
 refine P_q no34_0 rfl (zam (by kernel_rfl) rfl rfl n3.1 n3.2 ?_)
 refine P_q no34_0 rfl (zal (a := ndA (gi y1.2.2 y2.2.1)) (by kernel_rfl) rfl rfl ?_)
 refine P_q no34_0 rfl (op_assign (av := ndA (gi y1.2.2 y2.2.1)) rfl ?_)
 refine P_nil (zaa (k_ret ?_))
 obtain rfl := Option.some.inj h
 refine ke (pt AF0 2 (ndA (gi y1.2.2 y2.2.1))) [] rfl ?_ ⟨rfl, rfl⟩
 exact so (lq rfl lt0)
end Go.Proofs.YtpfdeahcjlfijaaGreat
