/- Types and their cells, by program. -/
import Derived.Test.YtjlbdhicabgliaaGreatQB4
import Derived.Test.YtjlbdhicabgliaaGreatQB1
namespace Go.Proofs.YtjlbdhicabgliaaGreat
open Go.RowKit
abbrev c_int (x : Int) : List AV := [.exact (.int .i64 x)]
theorem len_c_int (x : Int) : (c_int x).length = 1 := rfl
theorem oc_c_int (x : Int) : OneC (c_int x) := (OneC.int OneC.nil)
abbrev c_uint8 (x : UInt8) : List AV := [.exact (.int .u8 (UInt8.toNat x : Int))]
theorem len_c_uint8 (x : UInt8) : (c_uint8 x).length = 1 := rfl
theorem oc_c_uint8 (x : UInt8) : OneC (c_uint8 x) := (OneC.int OneC.nil)
abbrev zab (x : List UInt8) : List AV := [.exact (.string (bs x))]
theorem len_c_api_Value (x : List UInt8) : (zab x).length = 1 := rfl
theorem oc_c_api_Value (x : List UInt8) : OneC (zab x) := (OneC.str OneC.nil)
abbrev zae (x : (List UInt8) × Int × (List Int) × (List (List UInt8))) : List AV := [.exact (.string (bs x.1)), .exact (.int .i64 x.2.1), .row 1 c_int x.2.2.1, .row 1 zab x.2.2.2]
theorem len_c_api_Info (x : (List UInt8) × Int × (List Int) × (List (List UInt8))) : (zae x).length = 4 := rfl
theorem oc_c_api_Info (x : (List UInt8) × Int × (List Int) × (List (List UInt8))) : OneC (zae x) := (OneC.str (OneC.int (OneC.row (OneC.row OneC.nil))))
abbrev zah (x : List (List UInt8)) : List AV := [.row 1 zab x]
theorem len_c_L_api_Value (x : List (List UInt8)) : (zah x).length = 1 := rfl
theorem oc_c_L_api_Value (x : List (List UInt8)) : OneC (zah x) := (OneC.row OneC.nil)
abbrev c_cspcheckgen_Choices (x : (List Int) × Int) : List AV := [.row 1 c_int x.1, .exact (.int .i64 x.2)]
abbrev c_string (x : List UInt8) : List AV := [.exact (.string (bs x))]
end Go.Proofs.YtjlbdhicabgliaaGreat
/- The sorts' contracts, laid by program. -/
namespace Go.Proofs.YtjlbdhicabgliaaGreat
open Go.RowKit Go.Sort
set_option maxRecDepth 100000
def lay0_ren : Go.Shelf.Ren := ⟨fun | 6 => 113 | 14 => 122 | 15 => 123 | 20 => 129 | 21 => 130 | 22 => 131 | 23 => 132 | 24 => 133 | 25 => 134 | 26 => 135 | 27 => 136 | 28 => 137 | 29 => 138 | 46 => 143 | 47 => 144 | 48 => 145 | 49 => 146 | 50 => 147 | 57 => 150 | n => n, fun | 0 => 0 | 3 => 3 | 4 => 4 | 5 => 5 | 9 => 9 | 22 => 23 | 24 => 26 | 25 => 88 | 39 => 90 | 45 => 125 | 46 => 126 | 50 => 130 | 53 => 133 | 55 => 89 | 66 => 138 | 70 => 142 | 76 => 146 | 77 => 147 | n => n, fun n => n⟩
theorem lay0 : Go.Proofs.SlLaysF.n6 Tryz.prog lay0_ren where
  mixed := by kernel_rfl
  f6 := ⟨Tryz.f113.name, by kernel_rfl, Tryz.func113.trans (congrArg some (by kernel_rfl))⟩
  f14 := ⟨Tryz.f122.name, by kernel_rfl, Tryz.func122.trans (congrArg some (by kernel_rfl))⟩
  f15 := Tryz.func123.trans (congrArg some (by kernel_rfl))
  f20 := ⟨Tryz.f129.name, by kernel_rfl, Tryz.func129.trans (congrArg some (by kernel_rfl))⟩
  f21 := ⟨Tryz.f130.name, by kernel_rfl, Tryz.func130.trans (congrArg some (by kernel_rfl))⟩
  f22 := ⟨Tryz.f131.name, by kernel_rfl, Tryz.func131.trans (congrArg some (by kernel_rfl))⟩
  f23 := ⟨Tryz.f132.name, by kernel_rfl, Tryz.func132.trans (congrArg some (by kernel_rfl))⟩
  f24 := ⟨Tryz.f133.name, by kernel_rfl, Tryz.func133.trans (congrArg some (by kernel_rfl))⟩
  f25 := ⟨Tryz.f134.name, by kernel_rfl, Tryz.func134.trans (congrArg some (by kernel_rfl))⟩
  f26 := ⟨Tryz.f135.name, by kernel_rfl, Tryz.func135.trans (congrArg some (by kernel_rfl))⟩
  f27 := ⟨Tryz.f136.name, by kernel_rfl, Tryz.func136.trans (congrArg some (by kernel_rfl))⟩
  f28 := Tryz.func137.trans (congrArg some (by kernel_rfl))
  f29 := Tryz.func138.trans (congrArg some (by kernel_rfl))
  f46 := ⟨Tryz.f143.name, by kernel_rfl, Tryz.func143.trans (congrArg some (by kernel_rfl))⟩
  f47 := Tryz.func144.trans (congrArg some (by kernel_rfl))
  f48 := Tryz.func145.trans (congrArg some (by kernel_rfl))
  f49 := ⟨Tryz.f146.name, by kernel_rfl, Tryz.func146.trans (congrArg some (by kernel_rfl))⟩
  f50 := ⟨Tryz.f147.name, by kernel_rfl, Tryz.func147.trans (congrArg some (by kernel_rfl))⟩
  f57 := ⟨Tryz.f150.name, by kernel_rfl, Tryz.func150.trans (congrArg some (by kernel_rfl))⟩
  t0 := Tryz.underlying0
  a0 := Tryz.isAgg0
  z0 := Tryz.sizeOf0
  v0 := Tryz.zeroValue0
  t3 := Tryz.underlying3
  a3 := Tryz.isAgg3
  z3 := Tryz.sizeOf3
  v3 := Tryz.zeroValue3
  t4 := Tryz.underlying4
  a4 := Tryz.isAgg4
  z4 := Tryz.sizeOf4
  v4 := Tryz.zeroValue4
  t5 := Tryz.underlying5
  a5 := Tryz.isAgg5
  z5 := Tryz.sizeOf5
  v5 := Tryz.zeroValue5
  t9 := Tryz.underlying9
  a9 := Tryz.isAgg9
  z9 := Tryz.sizeOf9
  v9 := Tryz.zeroValue9
  t22 := Tryz.underlying23
  a22 := Tryz.isAgg23
  z22 := Tryz.sizeOf23
  v22 := Tryz.zeroValue23
  a24 := Tryz.isAgg26
  z24 := Tryz.sizeOf26
  t25 := Tryz.underlying88
  a25 := Tryz.isAgg88
  z25 := Tryz.sizeOf88
  v25 := Tryz.zeroValue88
  t39 := Tryz.underlying90
  a39 := Tryz.isAgg90
  z39 := Tryz.sizeOf90
  v39 := Tryz.zeroValue90
  t45 := Tryz.underlying125
  a45 := Tryz.isAgg125
  z45 := Tryz.sizeOf125
  v45 := Tryz.zeroValue125
  t46 := Tryz.underlying126
  a46 := Tryz.isAgg126
  z46 := Tryz.sizeOf126
  v46 := Tryz.zeroValue126
  t50 := Tryz.underlying130
  a50 := Tryz.isAgg130
  z50 := Tryz.sizeOf130
  v50 := Tryz.zeroValue130
  t53 := Tryz.underlying133
  a53 := Tryz.isAgg133
  z53 := Tryz.sizeOf133
  v53 := Tryz.zeroValue133
  t55 := Tryz.underlying89
  a55 := Tryz.isAgg89
  z55 := Tryz.sizeOf89
  v55 := Tryz.zeroValue89
  t66 := Tryz.underlying138
  a66 := Tryz.isAgg138
  z66 := Tryz.sizeOf138
  v66 := Tryz.zeroValue138
  t70 := Tryz.underlying142
  a70 := Tryz.isAgg142
  z70 := Tryz.sizeOf142
  v70 := Tryz.zeroValue142
  t76 := Tryz.underlying146
  a76 := Tryz.isAgg146
  z76 := Tryz.sizeOf146
  v76 := Tryz.zeroValue146
  t77 := Tryz.underlying147
  a77 := Tryz.isAgg147
  z77 := Tryz.sizeOf147
  v77 := Tryz.zeroValue147
theorem m_sort_api_Value_ok (hc : ∀ (x y : List UInt8) (r : Int), m_value_Compare x y = some r → Pure Tryz.prog 114 [(.exact (.string (bs x))), (.exact (.string (bs y)))] (.exact (.int .i64 r))) {w0 : Value} (a0 r : List (List UInt8)) (h : m_sortby m_value_Compare a0 = some r) : Fun Tryz.prog 113 [.exact w0, .exact (.func (.func 114) #[] #[])] [vecT Tryz.prog 23 1 zab w0 a0] (fun a s => a = .tup [] ∧ s = [vecT Tryz.prog 23 1 zab w0 r]) :=
  m_sortby1_ok (e := fun x : List UInt8 => (.string (bs x))) lay0 { lay0 with } (fun _ => rfl) (fun _ => rfl) 114 (fun args w => by exact enters_of Tryz.func114 (by kernel_rfl) rfl args w) 23 hc a0 r h
end Go.Proofs.YtjlbdhicabgliaaGreat
/- The functions compute their models, by program. -/
namespace Go.Proofs.YtjlbdhicabgliaaGreat
open Go.RowKit
attribute [local irreducible] AV.exact AV.top AV.row AV.ptr AV.agg AV.tup AV.eptr AV.fn AV.nilq AV.nilqn opA opB opM opR Quiet Loud Reads wpG awp den Sub SubU Pure Fun vecI vecT boxI CellsAll CellsOf OneC LEs LEss
set_option maxRecDepth 100000

section
variable {P : Program} {ops : Array Oper} {E : Env} {n : Nat} {af : AF} {σ : Items} {K : AF → Items → Prop} {rest : List Oper} {dst : Option Tmp} {ty0 : TypeId} {pos0 : String} {after0 : Array Edge} {ks : List KFr}
abbrev AV.xi (n : Int) : AV := .exact (.int .i64 n)
abbrev AV.xb (b : Bool) : AV := .exact (.bool b)
abbrev AV.xs (s : List UInt8) : AV := .exact (.string (bs s))
abbrev pt (x : AF) (k : Nat) (a : AV) : AF := AF.put x (some k) a
theorem lq {x y : AF} {d : Nat} {av : AV} (h1 : x d = av) (h2 : AF.le x y) : AF.le x (y.put (some d) av) := AF.le_put (AV.le_eq h1) h2
theorem l4 {x y : AF} {d1 d2 d3 d4 : Nat} {a1 a2 a3 a4 : AV} (h1 : x d1 = a1) (h2 : x d2 = a2) (h3 : x d3 = a3) (h4 : x d4 = a4) (h : AF.le x y) : AF.le x ((((y.put (some d4) a4).put (some d3) a3).put (some d2) a2).put (some d1) a1) := lq h1 (lq h2 (lq h3 (lq h4 h)))
theorem lt0 {x : AF} : AF.le x (fun _ => .top) := AF.le_top x
theorem so {af' : AF} (h : AF.le af af') : Sub E n af σ af' σ := Sub.of_le h
theorem qm {x : Operand} (av : AV) (h : af.ev x = av) (hk : wpG .free P ops K rest (af.put dst av) σ) : wpG .free P ops K (⟨dst, .move x, ty0, pos0, after0, none⟩ :: rest) af σ := G_q rfl (zag h hk)
theorem qa {x : Operand} (av : AV) (h : af.ev x = av) (hk : wpG .free P ops K rest (af.put dst av) σ) : wpG .free P ops K (⟨dst, .assign x, ty0, pos0, after0, none⟩ :: rest) af σ := G_q rfl (op_assign h hk)
theorem kd {c : Operand} {x y : Code} {p : Prop} [Decidable p] {ρ : Type} {a b : Option ρ} {r : ρ} (hc : af.ev c = .exact (.bool (decide p))) (h : (if p then a else b) = some r) (ht : p → a = some r → awp P E n x (den P E n ks) af σ) (hf : ¬ p → b = some r → awp P E n y (den P E n ks) af σ) : awp P E n (.cond c x y) (den P E n ks) af σ := k_cond_d hc (fun hp => ht hp (ite_t h hp)) (fun hp => hf hp (ite_f h hp))
theorem kb {c : Operand} {x y : Code} {p : Bool} {ρ : Type} {a b : Option ρ} {r : ρ} (hc : af.ev c = .exact (.bool p)) (h : (if p = true then a else b) = some r) (ht : p = true → a = some r → awp P E n x (den P E n ks) af σ) (hf : ¬ p = true → b = some r → awp P E n y (den P E n ks) af σ) : awp P E n (.cond c x y) (den P E n ks) af σ := k_cond_b hc (fun hp => ht hp (ite_t h hp)) (fun hp => hf hp (ite_f h hp))
theorem ke {fn : Func} {post : AV → Items → Prop} (af' : AF) (σ' : Items) {rs : List ResultVar} (hr : fn.results.toList = rs) (h : Sub E n af σ af' σ') (hp : post (resA rs af') σ') : den P E n (kP (EndA fn E n post) :: ks) .ret af σ := kP_any (endN rs hr h hp)
theorem kr {id : Nat} {l : List Oper} {draw : Bool} (h : wpG .free P l.toArray (den P E n ks .normal) l af σ) (hm : P.follows .mixedOrders = true := by exact hmixP) (hB : regB .free l n draw = true := by kernel_rfl) : awp P E n (.region id l.toArray draw) (den P E n ks) af σ := k_reg .free hm hB h
end

set_option maxHeartbeats 4000000 in
theorem m_ref9_eight_ok (a0 : Int) (r : (List UInt8)) (h : m_ref9_eight a0 = some r) : Pure Tryz.prog 27 [(.exact (.int .i64 a0))] (.exact (.string (bs r))) := by
 unfold m_ref9_eight at h
 refine Pure.ofFun (fun_of_awp Tryz.func27 rfl Tryz.ntmps27 (by simp) rfl (res1 rfl) fun E hE => k_end ?_)
 refine zac (kr ?_)
 refine qa (.xs ([] : List UInt8)) rfl ?_
 refine G_nil (zaa (zac (kr ?_)))
 obtain ⟨n1, h⟩ := need_some h
 refine G_l rfl (op_make (enc := c_uint8) (zr := (0 : UInt8)) (by kernel_rfl) rfl rfl n1.1 n1.2 len_c_uint8 Tryz.zeroValue5 (fun _ _ => (Fit.ex Fit.nil0)) (fun v2 => ?_))
 refine qa (.exact v2) rfl ?_
 refine G_nil (zaa ?_)
 refine k_join1_0 h (fun (x3_j3 : List UInt8) => (pt AF0 3 (.exact v2))) (fun (x3_j3 : List UInt8) => [vecT Tryz.prog 55 1 c_uint8 v2 x3_j3]) (fun k3 h => ?_) (fun x3_j3 h => ?_)
 ·refine zac (kr ?_)
  refine qa (.xi 0) rfl ?_
  refine G_nil (zaa (k_block ?_))
  refine k_loop2_0 (m_ref9_eight_L2 a0 k3) (m_ref9_eight_B2 a0 k3) (fun _ _ => rfl) (fun m _ _ => rfl) h (fun (x3_l2 : List UInt8) (x4_l2 : Int) => (pt (pt (pt AF0 0 (.xi a0)) 3 (.exact v2)) 4 (.xi x4_l2))) (fun (x3_l2 : List UInt8) (x4_l2 : Int) => [vecT Tryz.prog 55 1 c_uint8 v2 x3_l2]) ?_ (fun rec2 x3_l2 x4_l2 h => ?_)
  ·exact so (lq rfl (lq rfl (lq rfl lt0)))
  ·unfold m_ref9_eight_B2 at h
   refine zac (zac (kr ?_))
   refine qm (.xi x4_l2) rfl ?_
   refine G_q rfl (op_lss rfl rfl ?_)
   refine G_nil (zaa ?_)
   refine kd (p := x4_l2 < 8) rfl h (fun hc h => ?_) (fun hc h => ?_)
   ·refine k_skip (zaa (zac (k_block (kr ?_))))
    refine qm (.exact v2) rfl ?_
    refine qm (.xi x4_l2) rfl ?_
    refine G_q rfl (op_sub rfl rfl rfl ?_)
    refine qm (.xi a0) rfl ?_
    refine G_q rfl (op_convInt (k := .u64) (by kernel_rfl) rfl rfl ?_)
    refine qm (.xi x4_l2) rfl ?_
    refine G_q rfl (op_mul rfl rfl rfl ?_)
    refine G_q rfl (op_convInt (k := .u64) (by kernel_rfl) rfl rfl ?_)
    obtain ⟨n15, h⟩ := need_some h
    refine G_q rfl (op_shr rfl rfl n15 rfl ?_)
    refine G_q rfl (op_convInt (k := .u8) (r := (UInt8.toNat (u8i (Int.fdiv (IntKind.u64.wrap (a0)) (2 ^ min (Int.toNat (IntKind.u64.wrap (i64 (8 * x4_l2)))) IntKind.u64.bits))) : Int)) (by kernel_rfl) rfl (u8i_eq _) ?_)
    obtain ⟨n16, h⟩ := need_some h
    refine G_r rfl (op_index_vec (by kernel_rfl) rfl rfl n16.1 n16.2 ?_)
    refine G_l rfl (op_store_vec (i := i64 (7 - x4_l2)) (o := 0) (z := u8i (Int.fdiv (IntKind.u64.wrap (a0)) (2 ^ min (Int.toNat (IntKind.u64.wrap (i64 (8 * x4_l2)))) IntKind.u64.bits))) (c' := [.exact (.int .u8 (UInt8.toNat (u8i (Int.fdiv (IntKind.u64.wrap (a0)) (2 ^ min (Int.toNat (IntKind.u64.wrap (i64 (8 * x4_l2)))) IntKind.u64.bits))) : Int))]) (by kernel_rfl) len_c_uint8 rfl n16.1 n16.2 rfl CellsOf.int (LEs.cons (AV.le_eq rfl) LEs.nil) (OneC.int OneC.nil) (by kernel_rfl) (Nat.le_of_ble_eq_true rfl) rfl ?_)
    refine G_nil (kB_normal (zaa (kr ?_)))
    refine qm (.xi x4_l2) rfl ?_
    refine G_q rfl (op_add rfl rfl rfl ?_)
    refine qa (.xi (i64 (x4_l2 + 1))) rfl ?_
    refine G_nil ?_
    refine zad ⟨_, _, h, ?_⟩
    exact so (lq rfl (lq rfl (lq rfl lt0)))
   ·refine k_exit (kC_exit (kI_exit (kB_exit ?_)))
    refine zad ⟨_, h, ?_⟩
    exact so (lq rfl lt0)
 ·refine zac (kr ?_)
  refine qm (.exact v2) rfl ?_
  refine G_r rfl (op_bytesS_bor rfl (by kernel_rfl) (Bor.vec (List.Mem.head _) len_c_uint8) ?_)
  refine qa (.xs x3_j3) rfl ?_
  refine G_nil (zaa (k_ret ?_))
  obtain rfl := Option.some.inj h
  refine ke (pt AF0 2 (.xs x3_j3)) [] rfl ?_ ⟨rfl, rfl⟩
  refine Sub.trans (SubU.to SubU.drop) ?_
  exact so (lq rfl lt0)
set_option maxHeartbeats 4000000 in
theorem m_ref9_Int_ok (a0 : Int) (r : (List UInt8)) (h : m_ref9_Int a0 = some r) : Pure Tryz.prog 7 [(.exact (.int .i64 a0))] (.exact (.string (bs r))) := by
 unfold m_ref9_Int at h
 refine Pure.ofFun (fun_of_awp Tryz.func7 rfl Tryz.ntmps7 (by simp) rfl (res1 rfl) fun E hE => k_end ?_)
 refine zac (kr ?_)
 refine qa (.xs ([] : List UInt8)) rfl ?_
 refine G_nil (zaa (zac ?_))
 refine k_plan [] [(0, 0), (0, 1), (0, 2), (0, 3), (0, 4), (0, 5)] hmixP (by kernel_rfl) ?_
 refine P_q no34_0 rfl (op_litT (n := 1) (enc := c_uint8) [1] (CellsAll.cons rfl CellsOf.int CellsAll.nil) rfl (by kernel_rfl) (LEss.cons (LEs.cons (AV.le_eq rfl) LEs.nil) LEss.nil) ?_)
 refine P_q no34_0 rfl (op_bytesS rfl (by kernel_rfl) rfl ?_)
 refine P_q no34_0 rfl (zag (av := .xi a0) rfl ?_)
 obtain ⟨y1, hy1, h⟩ := bnd1_some h
 refine P_q no34_0 rfl (zaf (m_ref9_eight_ok _ _ hy1) Tryz.func27 (by kernel_rfl) (LEs.cons (AV.le_eq rfl) LEs.nil) ?_)
 obtain ⟨n2, h⟩ := need_some h
 refine P_q no34_0 rfl (op_addS n2 rfl rfl ?_)
 refine P_q no34_0 rfl (op_assign (av := .xs ([1] ++ y1)) rfl ?_)
 refine P_nil (zaa (k_ret ?_))
 obtain rfl := Option.some.inj h
 refine ke (pt AF0 2 (.xs ([1] ++ y1))) [] rfl ?_ ⟨rfl, rfl⟩
 exact so (lq rfl lt0)
set_option maxHeartbeats 4000000 in
theorem m_ref9_ascending_ok (self_ref9_walk : (List UInt8) → Int → Bool → Option (Int × (List (List UInt8)) × Int)) (hself_ref9_walk : ∀ (a0 : List UInt8) (a1 : Int) (a2 : Bool) (r : Int × (List (List UInt8)) × Int), self_ref9_walk a0 a1 a2 = some r → Pure Tryz.prog 51 [(.exact (.string (bs a0))), (.exact (.int .i64 a1)), (.exact (.bool a2))] (.tup [.exact (.int .i64 r.1), .row 1 zab r.2.1, .exact (.int .i64 r.2.2)])) (self_ref9_order : (List UInt8) → (List UInt8) → Option Int) (hself_ref9_order : ∀ (a0 : List UInt8) (a1 : List UInt8) (r : Int), self_ref9_order a0 a1 = some r → Pure Tryz.prog 102 [(.exact (.string (bs a0))), (.exact (.string (bs a1)))] (.exact (.int .i64 r))) (a0 : List (List UInt8)) (a1 : Int) (r : Bool) (h : m_ref9_ascending self_ref9_walk self_ref9_order a0 a1 = some r) : Pure Tryz.prog 116 [(.row 1 zab a0), (.exact (.int .i64 a1))] (.exact (.bool r)) := by
 unfold m_ref9_ascending at h
 refine Pure.ofFun (fun_of_awp Tryz.func116 rfl Tryz.ntmps116 (by simp) rfl (res1 rfl) fun E hE => k_end ?_)
 refine zac (kr ?_)
 refine qa (.xb false) rfl ?_
 refine G_nil (zaa ?_)
 refine k_join0_0 h (AF0) ([]) (fun k1 h => ?_) (fun  h => ?_)
 ·refine zac (kr ?_)
  refine qm (.xi a1) rfl ?_
  refine qa (.xi a1) rfl ?_
  refine G_nil (zaa (k_block ?_))
  refine k_loop1_0 (m_ref9_ascending_L2 self_ref9_order a0 a1 k1) (m_ref9_ascending_B2 self_ref9_order a0 a1 k1) (fun _ => rfl) (fun m _ => rfl) h (fun (x5_l2 : Int) => (pt (pt (pt AF0 0 (.row 1 zab a0)) 1 (.xi a1)) 5 (.xi x5_l2))) (fun (x5_l2 : Int) => []) ?_ (fun rec2 x5_l2 h => ?_)
  ·exact so (lq rfl (lq rfl (lq rfl lt0)))
  ·unfold m_ref9_ascending_B2 at h
   refine zac (zac (kr ?_))
   refine qm (.xi x5_l2) rfl ?_
   refine qm (.row 1 zab a0) rfl ?_
   refine G_q rfl (zai (by kernel_rfl) rfl ?_)
   refine G_q rfl (op_lss rfl rfl ?_)
   refine G_nil (zaa ?_)
   refine kd (p := x5_l2 < (List.length a0 : Int)) rfl h (fun hc h => ?_) (fun hc h => ?_)
   ·refine k_skip (zaa (zac (k_block (zac ?_))))
    refine k_plan [] [(0, 0), (0, 1), (0, 2), (0, 3), (0, 4), (0, 5), (0, 6), (0, 7), (0, 8), (0, 9), (0, 10), (0, 11)] hmixP (by kernel_rfl) ?_
    refine P_q no34_0 rfl (zag (av := .row 1 zab a0) rfl ?_)
    refine P_q no34_0 rfl (zag (av := .xi x5_l2) rfl ?_)
    refine P_q no34_0 rfl (zag (av := .xi a1) rfl ?_)
    refine P_q no34_0 rfl (op_sub rfl rfl rfl ?_)
    obtain ⟨n18, h⟩ := need_some h
    refine P_q no34_0 rfl (zaj (by kernel_rfl) rfl rfl n18.1 n18.2 ?_)
    refine P_q no34_0 rfl (op_load1p (a := .xs (gi a0 (i64 (x5_l2 - a1)))) (by kernel_rfl) rfl rfl ?_)
    refine P_q no34_0 rfl (zag (av := .row 1 zab a0) rfl ?_)
    refine P_q no34_0 rfl (zag (av := .xi x5_l2) rfl ?_)
    obtain ⟨n19, h⟩ := need_some h
    refine P_q no34_0 rfl (zaj (by kernel_rfl) rfl rfl n19.1 n19.2 ?_)
    refine P_q no34_0 rfl (op_load1p (a := .xs (gi a0 x5_l2)) (by kernel_rfl) rfl rfl ?_)
    obtain ⟨y20, hy20, h⟩ := bnd1_some h
    refine P_q no34_0 rfl (zaf (hself_ref9_order _ _ _ hy20) Tryz.func102 (by kernel_rfl) (LEs.cons (AV.le_eq rfl) (LEs.cons (AV.le_eq rfl) LEs.nil)) ?_)
    refine P_q no34_0 rfl (op_geq rfl rfl ?_)
    refine P_nil (zaa ?_)
    refine kd (p := 0 ≤ y20) rfl h (fun hc h => ?_) (fun hc h => ?_)
    ·refine zac (kr ?_)
     refine qa (.xb false) rfl ?_
     refine G_nil (zaa (k_ret (kB_ret (kC_ret (kI_ret (kB_ret (kI_ret ?_)))))))
     obtain rfl := Option.some.inj h
     refine ke (pt AF0 4 (.xb false)) [] rfl ?_ ⟨rfl, rfl⟩
     exact so (lq rfl lt0)
    ·refine k_skip (kB_normal (zaa (kr ?_)))
     refine qm (.xi x5_l2) rfl ?_
     refine qm (.xi a1) rfl ?_
     refine G_q rfl (op_add rfl rfl rfl ?_)
     refine qa (.xi (i64 (x5_l2 + a1))) rfl ?_
     refine G_nil ?_
     refine zad ⟨_, h, ?_⟩
     exact so (lq rfl (lq rfl (lq rfl lt0)))
   ·refine k_exit (kC_exit (kI_exit (kB_exit ?_)))
    refine zad ⟨h, ?_⟩
    exact Sub.of_le lt0
 ·refine zac (kr ?_)
  refine qa (.xb true) rfl ?_
  refine G_nil (zaa (k_ret ?_))
  obtain rfl := Option.some.inj h
  refine ke (pt AF0 4 (.xb true)) [] rfl ?_ ⟨rfl, rfl⟩
  exact so (lq rfl lt0)
set_option maxHeartbeats 4000000 in
theorem m_ref9_number_ok (a0 : List UInt8) (r : Int) (h : m_ref9_number a0 = some r) : Pure Tryz.prog 118 [(.exact (.string (bs a0)))] (.exact (.int .i64 r)) := by
 unfold m_ref9_number at h
 refine Pure.ofFun (fun_of_awp Tryz.func118 rfl Tryz.ntmps118 (by simp) rfl (res1 rfl) fun E hE => k_end ?_)
 refine zac (kr ?_)
 refine qa (.xi 0) rfl ?_
 refine G_nil (zaa (zac (kr ?_)))
 refine qa (.exact (.int .u64 0)) rfl ?_
 refine G_nil (zaa ?_)
 refine k_join1_0 h (fun (x3_j1 : Int) => (pt AF0 3 (.exact (.int .u64 x3_j1)))) (fun (x3_j1 : Int) => []) (fun k1 h => ?_) (fun x3_j1 h => ?_)
 ·refine zac (kr ?_)
  refine qa (.xi 0) rfl ?_
  refine G_nil (zaa (k_block ?_))
  refine k_loop2_0 (m_ref9_number_L2 a0 k1) (m_ref9_number_B2 a0 k1) (fun _ _ => rfl) (fun m _ _ => rfl) h (fun (x3_l2 : Int) (x4_l2 : Int) => (pt (pt (pt AF0 0 (.xs a0)) 3 (.exact (.int .u64 x3_l2))) 4 (.xi x4_l2))) (fun (x3_l2 : Int) (x4_l2 : Int) => []) ?_ (fun rec2 x3_l2 x4_l2 h => ?_)
  ·exact so (lq rfl (lq rfl (lq rfl lt0)))
  ·unfold m_ref9_number_B2 at h
   refine zac (zac (kr ?_))
   refine qm (.xi x4_l2) rfl ?_
   refine G_q rfl (op_lss rfl rfl ?_)
   refine G_nil (zaa ?_)
   refine kd (p := x4_l2 < 8) rfl h (fun hc h => ?_) (fun hc h => ?_)
   ·refine k_skip (zaa (zac (k_block (kr ?_))))
    refine qm (.exact (.int .u64 x3_l2)) rfl ?_
    refine G_q rfl (op_shl rfl rfl (by decide) rfl ?_)
    refine qm (.xs a0) rfl ?_
    refine qm (.xi x4_l2) rfl ?_
    obtain ⟨n8, h⟩ := need_some h
    refine G_q rfl (op_index_str (by kernel_rfl) rfl rfl n8.1 n8.2 ?_)
    refine G_q rfl (op_convInt (k := .u64) (r := (UInt8.toNat (gi a0 x4_l2) : Int)) (by kernel_rfl) rfl (wrap_u8 rfl _) ?_)
    refine G_q rfl (op_or rfl rfl rfl ?_)
    refine qa (.exact (.int .u64 (bOr .u64 (IntKind.u64.wrap (x3_l2 * 2 ^ min (Int.toNat 8) IntKind.u64.bits)) (UInt8.toNat (gi a0 x4_l2) : Int)))) rfl ?_
    refine G_nil (kB_normal (zaa (kr ?_)))
    refine qm (.xi x4_l2) rfl ?_
    refine G_q rfl (op_add rfl rfl rfl ?_)
    refine qa (.xi (i64 (x4_l2 + 1))) rfl ?_
    refine G_nil ?_
    refine zad ⟨_, _, h, ?_⟩
    exact so (lq rfl (lq rfl (lq rfl lt0)))
   ·refine k_exit (kC_exit (kI_exit (kB_exit ?_)))
    refine zad ⟨_, h, ?_⟩
    exact so (lq rfl lt0)
 ·refine zac (kr ?_)
  refine qm (.exact (.int .u64 x3_j1)) rfl ?_
  refine G_q rfl (op_convInt (k := .i64) (by kernel_rfl) rfl rfl ?_)
  refine qa (.xi (i64 (x3_j1))) rfl ?_
  refine G_nil (zaa (k_ret ?_))
  obtain rfl := Option.some.inj h
  refine ke (pt AF0 2 (.xi (i64 (x3_j1)))) [] rfl ?_ ⟨rfl, rfl⟩
  exact so (lq rfl lt0)
set_option maxHeartbeats 4000000 in
theorem m_ref9_small_ok (a0 : List UInt8) (a1 : Int) (a2 : Int) (r : Bool) (h : m_ref9_small a0 a1 a2 = some r) : Pure Tryz.prog 117 [(.exact (.string (bs a0))), (.exact (.int .i64 a1)), (.exact (.int .i64 a2))] (.exact (.bool r)) := by
 unfold m_ref9_small at h
 refine Pure.ofFun (fun_of_awp Tryz.func117 rfl Tryz.ntmps117 (by simp) rfl (res1 rfl) fun E hE => k_end ?_)
 refine zac (kr ?_)
 refine qa (.xb false) rfl ?_
 refine G_nil (zaa ?_)
 refine k_join1_0 h (fun (x6_j1 : Bool) => (pt AF0 6 (.xb x6_j1))) (fun (x6_j1 : Bool) => []) (fun k1 h => ?_) (fun x6_j1 h => ?_)
 ·refine kr ?_
  refine qm (.xs a0) rfl ?_
  obtain ⟨n7, h⟩ := need_some h
  refine G_q rfl (op_index_str (by kernel_rfl) rfl rfl n7.1 n7.2 ?_)
  refine G_q rfl (op_convInt (k := .i64) (r := (UInt8.toNat (gi a0 0) : Int)) (by kernel_rfl) rfl (wrap_u8 rfl _) ?_)
  refine G_q rfl (op_eql rfl rfl ?_)
  refine qm (.xb (decide ((UInt8.toNat (gi a0 0) : Int) = 1))) rfl ?_
  refine G_split (p := (UInt8.toNat (gi a0 0) : Int) = 1) 11 rfl (fun hc => ?_) (fun hc => ?_)
  ·replace h := ite_t h hc
   refine Gy_q rfl rfl rfl (zag (av := .xs a0) rfl ?_)
   obtain ⟨n8, h⟩ := need_some h
   refine Gy_q rfl rfl rfl (op_slice_strd (by kernel_rfl) rfl (bnd_some rfl) bnd_none (by decide) n8 (Int.le_refl _) ?_)
   obtain ⟨y9, hy9, h⟩ := bnd1_some h
   refine Gy_q rfl rfl rfl (zaf (m_ref9_number_ok _ _ hy9) Tryz.func118 (by kernel_rfl) (LEs.cons (AV.le_eq rfl) LEs.nil) ?_)
   refine Gy_q rfl rfl rfl (zag (av := .xi a1) rfl ?_)
   refine Gy_q rfl rfl rfl (op_geq rfl rfl ?_)
   refine G_q rfl (op_pick_t rfl (av := .xb (decide (a1 ≤ y9))) rfl ?_)
   refine qm (.xb (decide (a1 ≤ y9))) rfl ?_
   refine G_split (p := a1 ≤ y9) 18 rfl (fun hc => ?_) (fun hc => ?_)
   ·replace h := ite_t h hc
    refine Gy_q rfl rfl rfl (zag (av := .xs a0) rfl ?_)
    obtain ⟨n10, h⟩ := need_some h
    refine Gy_q rfl rfl rfl (op_slice_strd (by kernel_rfl) rfl (bnd_some rfl) bnd_none (by decide) n10 (Int.le_refl _) ?_)
    obtain ⟨y11, hy11, h⟩ := bnd1_some h
    refine Gy_q rfl rfl rfl (zaf (m_ref9_number_ok _ _ hy11) Tryz.func118 (by kernel_rfl) (LEs.cons (AV.le_eq rfl) LEs.nil) ?_)
    refine Gy_q rfl rfl rfl (zag (av := .xi a2) rfl ?_)
    refine Gy_q rfl rfl rfl (op_leq rfl rfl ?_)
    refine G_q rfl (op_pick_t rfl (av := .xb (decide (y11 ≤ a2))) rfl ?_)
    refine qa (.xb (decide (y11 ≤ a2))) rfl ?_
    refine G_nil ?_
    refine zad ⟨_, h, ?_⟩
    exact so (lq rfl lt0)
   ·replace h := ite_f h hc
    refine G_n rfl rfl (G_n rfl rfl (G_n rfl rfl (G_n rfl rfl (G_n rfl rfl ?_))))
    refine G_q rfl (zak rfl (av := .xb false) rfl ?_)
    refine qa (.xb false) rfl ?_
    refine G_nil ?_
    refine zad ⟨_, h, ?_⟩
    exact so (lq rfl lt0)
  ·replace h := ite_f h hc
   refine G_n rfl rfl (G_n rfl rfl (G_n rfl rfl (G_n rfl rfl (G_n rfl rfl ?_))))
   refine G_q rfl (zak rfl (av := .xb false) rfl ?_)
   refine qm (.xb false) rfl ?_
   refine G_n rfl rfl (G_n rfl rfl (G_n rfl rfl (G_n rfl rfl (G_n rfl rfl ?_))))
   refine G_q rfl (zak rfl (av := .xb false) rfl ?_)
   refine qa (.xb false) rfl ?_
   refine G_nil ?_
   refine zad ⟨_, h, ?_⟩
   exact so (lq rfl lt0)
 ·refine k_ret ?_
  obtain rfl := Option.some.inj h
  refine ke (pt AF0 6 (.xb x6_j1)) [] rfl ?_ ⟨rfl, rfl⟩
  exact so (lq rfl lt0)
set_option maxHeartbeats 4000000 in
theorem m_ref9_parted_ok (self_ref9_walk : (List UInt8) → Int → Bool → Option (Int × (List (List UInt8)) × Int)) (hself_ref9_walk : ∀ (a0 : List UInt8) (a1 : Int) (a2 : Bool) (r : Int × (List (List UInt8)) × Int), self_ref9_walk a0 a1 a2 = some r → Pure Tryz.prog 51 [(.exact (.string (bs a0))), (.exact (.int .i64 a1)), (.exact (.bool a2))] (.tup [.exact (.int .i64 r.1), .row 1 zab r.2.1, .exact (.int .i64 r.2.2)])) (self_ref9_order : (List UInt8) → (List UInt8) → Option Int) (hself_ref9_order : ∀ (a0 : List UInt8) (a1 : List UInt8) (r : Int), self_ref9_order a0 a1 = some r → Pure Tryz.prog 102 [(.exact (.string (bs a0))), (.exact (.string (bs a1)))] (.exact (.int .i64 r))) (a0 : Int) (a1 : List (List UInt8)) (r : Bool) (h : m_ref9_parted self_ref9_walk self_ref9_order a0 a1 = some r) : Pure Tryz.prog 93 [(.exact (.int .i64 a0)), (.row 1 zab a1)] (.exact (.bool r)) := by
 unfold m_ref9_parted at h
 refine Pure.ofFun (fun_of_awp Tryz.func93 rfl Tryz.ntmps93 (by simp) rfl (res1 rfl) fun E hE => k_end ?_)
 refine zac (kr ?_)
 refine qa (.xb false) rfl ?_
 refine G_nil (zaa (zac (zac (kr ?_))))
 refine qm (.xi a0) rfl ?_
 refine G_nil (zaa (k_block (zac (kr ?_))))
 refine G_q rfl (op_eql rfl rfl ?_)
 refine qa (.xb (decide (a0 = 3))) rfl ?_
 refine G_nil (zaa ?_)
 refine kd (p := a0 = 3) rfl h (fun hc h => ?_) (fun hc h => ?_)
 ·refine k_join1_0 h (fun (x4_j1 : Bool) => (pt AF0 4 (.xb x4_j1))) (fun (x4_j1 : Bool) => []) (fun k1 h => ?_) (fun x4_j1 h => ?_)
  ·refine kr ?_
   refine qm (.row 1 zab a1) rfl ?_
   refine G_q rfl (zai (by kernel_rfl) rfl ?_)
   refine G_q rfl (op_geq rfl rfl ?_)
   refine qm (.xb (decide (2 ≤ (List.length a1 : Int)))) rfl ?_
   refine G_split (p := 2 ≤ (List.length a1 : Int)) 11 rfl (fun hc => ?_) (fun hc => ?_)
   ·replace h := ite_t h hc
    refine Gy_q rfl rfl rfl (zag (av := .row 1 zab a1) rfl ?_)
    refine Gy_q rfl rfl rfl (zai (by kernel_rfl) rfl ?_)
    refine Gy_q rfl rfl rfl (op_leq rfl rfl ?_)
    refine G_q rfl (op_pick_t rfl (av := .xb (decide ((List.length a1 : Int) ≤ 8))) rfl ?_)
    refine qa (.xb (decide ((List.length a1 : Int) ≤ 8))) rfl ?_
    refine G_nil ?_
    refine zad ⟨_, h, ?_⟩
    exact so (lq rfl lt0)
   ·replace h := ite_f h hc
    refine G_n rfl rfl (G_n rfl rfl (G_n rfl rfl ?_))
    refine G_q rfl (zak rfl (av := .xb false) rfl ?_)
    refine qa (.xb false) rfl ?_
    refine G_nil ?_
    refine zad ⟨_, h, ?_⟩
    exact so (lq rfl lt0)
  ·refine k_ret (kB_ret (kC_ret ?_))
   obtain rfl := Option.some.inj h
   refine ke (pt AF0 4 (.xb x4_j1)) [] rfl ?_ ⟨rfl, rfl⟩
   exact so (lq rfl lt0)
 ·refine zac (kr ?_)
  refine G_q rfl (op_eql rfl rfl ?_)
  refine qa (.xb (decide (a0 = 5))) rfl ?_
  refine G_nil (zaa ?_)
  refine kd (p := a0 = 5) rfl h (fun hc h => ?_) (fun hc h => ?_)
  ·refine zac (kr ?_)
   refine qm (.row 1 zab a1) rfl ?_
   obtain ⟨y2, hy2, h⟩ := bnd1_some h
   refine G_q rfl (zaf (m_ref9_ascending_ok self_ref9_walk hself_ref9_walk self_ref9_order hself_ref9_order _ _ _ hy2) Tryz.func116 (by kernel_rfl) (LEs.cons (AV.le_eq rfl) (LEs.cons (AV.le_eq rfl) LEs.nil)) ?_)
   refine qa (.xb y2) rfl ?_
   refine G_nil (zaa (k_ret (kB_ret (kC_ret ?_))))
   obtain rfl := Option.some.inj h
   refine ke (pt AF0 4 (.xb y2)) [] rfl ?_ ⟨rfl, rfl⟩
   exact so (lq rfl lt0)
  ·refine zac (kr ?_)
   refine G_q rfl (op_eql rfl rfl ?_)
   refine qa (.xb (decide (a0 = 6))) rfl ?_
   refine G_nil (zaa ?_)
   refine kd (p := a0 = 6) rfl h (fun hc h => ?_) (fun hc h => ?_)
   ·refine k_join1_0 h (fun (x4_j3 : Bool) => (pt AF0 4 (.xb x4_j3))) (fun (x4_j3 : Bool) => []) (fun k3 h => ?_) (fun x4_j3 h => ?_)
    ·refine kr ?_
     refine qm (.row 1 zab a1) rfl ?_
     refine G_q rfl (zai (by kernel_rfl) rfl ?_)
     refine G_q rfl (op_rem rfl rfl (by decide) rfl ?_)
     refine G_q rfl (op_eql rfl rfl ?_)
     refine qm (.xb (decide ((Int.tmod (List.length a1 : Int) 2) = 0))) rfl ?_
     refine G_split (p := (Int.tmod (List.length a1 : Int) 2) = 0) 26 rfl (fun hc => ?_) (fun hc => ?_)
     ·replace h := ite_t h hc
      refine Gy_q rfl rfl rfl (zag (av := .row 1 zab a1) rfl ?_)
      obtain ⟨y5, hy5, h⟩ := bnd1_some h
      refine Gy_q rfl rfl rfl (zaf (m_ref9_ascending_ok self_ref9_walk hself_ref9_walk self_ref9_order hself_ref9_order _ _ _ hy5) Tryz.func116 (by kernel_rfl) (LEs.cons (AV.le_eq rfl) (LEs.cons (AV.le_eq rfl) LEs.nil)) ?_)
      refine G_q rfl (op_pick_t rfl (av := .xb y5) rfl ?_)
      refine qa (.xb y5) rfl ?_
      refine G_nil ?_
      refine zad ⟨_, h, ?_⟩
      exact so (lq rfl lt0)
     ·replace h := ite_f h hc
      refine G_n rfl rfl (G_n rfl rfl ?_)
      refine G_q rfl (zak rfl (av := .xb false) rfl ?_)
      refine qa (.xb false) rfl ?_
      refine G_nil ?_
      refine zad ⟨_, h, ?_⟩
      exact so (lq rfl lt0)
    ·refine k_ret (kB_ret (kC_ret ?_))
     obtain rfl := Option.some.inj h
     refine ke (pt AF0 4 (.xb x4_j3)) [] rfl ?_ ⟨rfl, rfl⟩
     exact so (lq rfl lt0)
   ·refine zac (kr ?_)
    refine G_q rfl (op_eql rfl rfl ?_)
    refine qa (.xb (decide (a0 = 7))) rfl ?_
    refine G_nil (zaa ?_)
    refine kd (p := a0 = 7) rfl h (fun hc h => ?_) (fun hc h => ?_)
    ·refine k_join1_0 h (fun (x4_j6 : Bool) => (pt AF0 4 (.xb x4_j6))) (fun (x4_j6 : Bool) => []) (fun k6 h => ?_) (fun x4_j6 h => ?_)
     ·refine kr ?_
      refine qm (.row 1 zab a1) rfl ?_
      refine G_q rfl (zai (by kernel_rfl) rfl ?_)
      refine G_q rfl (op_geq rfl rfl ?_)
      refine qm (.xb (decide (1 ≤ (List.length a1 : Int)))) rfl ?_
      refine G_split (p := 1 ≤ (List.length a1 : Int)) 35 rfl (fun hc => ?_) (fun hc => ?_)
      ·replace h := ite_t h hc
       refine Gy_q rfl rfl rfl (zag (av := .row 1 zab a1) rfl ?_)
       refine Gy_q rfl rfl rfl (zai (by kernel_rfl) rfl ?_)
       refine Gy_q rfl rfl rfl (op_leq rfl rfl ?_)
       refine G_q rfl (op_pick_t rfl (av := .xb (decide ((List.length a1 : Int) ≤ 9))) rfl ?_)
       refine qm (.xb (decide ((List.length a1 : Int) ≤ 9))) rfl ?_
       refine G_split (p := (List.length a1 : Int) ≤ 9) 40 rfl (fun hc => ?_) (fun hc => ?_)
       ·replace h := ite_t h hc
        refine Gy_q rfl rfl rfl (zag (av := .row 1 zab a1) rfl ?_)
        obtain ⟨n9, h⟩ := need_some h
        refine Gy_q rfl rfl rfl (zaj (by kernel_rfl) rfl rfl n9.1 n9.2 ?_)
        refine Gy_q rfl rfl rfl (op_load1p (a := .xs (gi a1 0)) (by kernel_rfl) rfl rfl ?_)
        obtain ⟨n10, h⟩ := need_some h
        refine Gy_q rfl rfl rfl (op_index_str (by kernel_rfl) rfl rfl n10.1 n10.2 ?_)
        refine Gy_q rfl rfl rfl (op_convInt (k := .i64) (r := (UInt8.toNat (gi (gi a1 0) 0) : Int)) (by kernel_rfl) rfl (wrap_u8 rfl _) ?_)
        refine Gy_q rfl rfl rfl (op_eql rfl rfl ?_)
        refine G_q rfl (op_pick_t rfl (av := .xb (decide ((UInt8.toNat (gi (gi a1 0) 0) : Int) = 10))) rfl ?_)
        refine qa (.xb (decide ((UInt8.toNat (gi (gi a1 0) 0) : Int) = 10))) rfl ?_
        refine G_nil ?_
        refine zad ⟨_, h, ?_⟩
        exact so (lq rfl lt0)
       ·replace h := ite_f h hc
        refine G_n rfl rfl (G_n rfl rfl (G_n rfl rfl (G_n rfl rfl (G_n rfl rfl (G_n rfl rfl ?_)))))
        refine G_q rfl (zak rfl (av := .xb false) rfl ?_)
        refine qa (.xb false) rfl ?_
        refine G_nil ?_
        refine zad ⟨_, h, ?_⟩
        exact so (lq rfl lt0)
      ·replace h := ite_f h hc
       refine G_n rfl rfl (G_n rfl rfl (G_n rfl rfl ?_))
       refine G_q rfl (zak rfl (av := .xb false) rfl ?_)
       refine qm (.xb false) rfl ?_
       refine G_n rfl rfl (G_n rfl rfl (G_n rfl rfl (G_n rfl rfl (G_n rfl rfl (G_n rfl rfl ?_)))))
       refine G_q rfl (zak rfl (av := .xb false) rfl ?_)
       refine qa (.xb false) rfl ?_
       refine G_nil ?_
       refine zad ⟨_, h, ?_⟩
       exact so (lq rfl lt0)
     ·refine k_ret (kB_ret (kC_ret ?_))
      obtain rfl := Option.some.inj h
      refine ke (pt AF0 4 (.xb x4_j6)) [] rfl ?_ ⟨rfl, rfl⟩
      exact so (lq rfl lt0)
    ·refine zac (kr ?_)
     refine G_q rfl (op_eql rfl rfl ?_)
     refine qa (.xb (decide (a0 = 8))) rfl ?_
     refine G_nil (zaa ?_)
     refine kd (p := a0 = 8) rfl h (fun hc h => ?_) (fun hc h => ?_)
     ·refine k_join1_0 h (fun (x4_j11 : Bool) => (pt AF0 4 (.xb x4_j11))) (fun (x4_j11 : Bool) => []) (fun k11 h => ?_) (fun x4_j11 h => ?_)
      ·refine kr ?_
       refine qm (.row 1 zab a1) rfl ?_
       refine G_q rfl (zai (by kernel_rfl) rfl ?_)
       refine G_q rfl (op_geq rfl rfl ?_)
       refine qm (.xb (decide (1 ≤ (List.length a1 : Int)))) rfl ?_
       refine G_split (p := 1 ≤ (List.length a1 : Int)) 53 rfl (fun hc => ?_) (fun hc => ?_)
       ·replace h := ite_t h hc
        refine Gy_q rfl rfl rfl (zag (av := .row 1 zab a1) rfl ?_)
        refine Gy_q rfl rfl rfl (zai (by kernel_rfl) rfl ?_)
        refine Gy_q rfl rfl rfl (op_leq rfl rfl ?_)
        refine G_q rfl (op_pick_t rfl (av := .xb (decide ((List.length a1 : Int) ≤ 33))) rfl ?_)
        refine qm (.xb (decide ((List.length a1 : Int) ≤ 33))) rfl ?_
        refine G_split (p := (List.length a1 : Int) ≤ 33) 58 rfl (fun hc => ?_) (fun hc => ?_)
        ·replace h := ite_t h hc
         refine Gy_q rfl rfl rfl (zag (av := .row 1 zab a1) rfl ?_)
         obtain ⟨n14, h⟩ := need_some h
         refine Gy_q rfl rfl rfl (zaj (by kernel_rfl) rfl rfl n14.1 n14.2 ?_)
         refine Gy_q rfl rfl rfl (op_load1p (a := .xs (gi a1 0)) (by kernel_rfl) rfl rfl ?_)
         obtain ⟨y15, hy15, h⟩ := bnd1_some h
         refine Gy_q rfl rfl rfl (zaf (m_ref9_small_ok _ _ _ _ hy15) Tryz.func117 (by kernel_rfl) (LEs.cons (AV.le_eq rfl) (LEs.cons (AV.le_eq rfl) (LEs.cons (AV.le_eq rfl) LEs.nil))) ?_)
         refine G_q rfl (op_pick_t rfl (av := .xb y15) rfl ?_)
         refine qa (.xb y15) rfl ?_
         refine G_nil ?_
         refine zad ⟨_, h, ?_⟩
         exact so (lq rfl lt0)
        ·replace h := ite_f h hc
         refine G_n rfl rfl (G_n rfl rfl (G_n rfl rfl (G_n rfl rfl ?_)))
         refine G_q rfl (zak rfl (av := .xb false) rfl ?_)
         refine qa (.xb false) rfl ?_
         refine G_nil ?_
         refine zad ⟨_, h, ?_⟩
         exact so (lq rfl lt0)
       ·replace h := ite_f h hc
        refine G_n rfl rfl (G_n rfl rfl (G_n rfl rfl ?_))
        refine G_q rfl (zak rfl (av := .xb false) rfl ?_)
        refine qm (.xb false) rfl ?_
        refine G_n rfl rfl (G_n rfl rfl (G_n rfl rfl (G_n rfl rfl ?_)))
        refine G_q rfl (zak rfl (av := .xb false) rfl ?_)
        refine qa (.xb false) rfl ?_
        refine G_nil ?_
        refine zad ⟨_, h, ?_⟩
        exact so (lq rfl lt0)
      ·refine k_ret (kB_ret (kC_ret ?_))
       obtain rfl := Option.some.inj h
       refine ke (pt AF0 4 (.xb x4_j11)) [] rfl ?_ ⟨rfl, rfl⟩
       exact so (lq rfl lt0)
     ·refine zac (kr ?_)
      refine G_q rfl (op_eql rfl rfl ?_)
      refine qa (.xb (decide (a0 = 9))) rfl ?_
      refine G_nil (zaa ?_)
      refine kd (p := a0 = 9) rfl h (fun hc h => ?_) (fun hc h => ?_)
      ·refine k_join1_0 h (fun (x4_j16 : Bool) => (pt AF0 4 (.xb x4_j16))) (fun (x4_j16 : Bool) => []) (fun k16 h => ?_) (fun x4_j16 h => ?_)
       ·refine kr ?_
        refine qm (.row 1 zab a1) rfl ?_
        refine G_q rfl (zai (by kernel_rfl) rfl ?_)
        refine G_q rfl (op_geq rfl rfl ?_)
        refine qm (.xb (decide (1 ≤ (List.length a1 : Int)))) rfl ?_
        refine G_split (p := 1 ≤ (List.length a1 : Int)) 69 rfl (fun hc => ?_) (fun hc => ?_)
        ·replace h := ite_t h hc
         refine Gy_q rfl rfl rfl (zag (av := .row 1 zab a1) rfl ?_)
         obtain ⟨n19, h⟩ := need_some h
         refine Gy_q rfl rfl rfl (zaj (by kernel_rfl) rfl rfl n19.1 n19.2 ?_)
         refine Gy_q rfl rfl rfl (op_load1p (a := .xs (gi a1 0)) (by kernel_rfl) rfl rfl ?_)
         obtain ⟨y20, hy20, h⟩ := bnd1_some h
         refine Gy_q rfl rfl rfl (zaf (m_ref9_small_ok _ _ _ _ hy20) Tryz.func117 (by kernel_rfl) (LEs.cons (AV.le_eq rfl) (LEs.cons (AV.le_eq rfl) (LEs.cons (AV.le_eq rfl) LEs.nil))) ?_)
         refine G_q rfl (op_pick_t rfl (av := .xb y20) rfl ?_)
         refine qa (.xb y20) rfl ?_
         refine G_nil ?_
         refine zad ⟨_, h, ?_⟩
         exact so (lq rfl lt0)
        ·replace h := ite_f h hc
         refine G_n rfl rfl (G_n rfl rfl (G_n rfl rfl (G_n rfl rfl ?_)))
         refine G_q rfl (zak rfl (av := .xb false) rfl ?_)
         refine qa (.xb false) rfl ?_
         refine G_nil ?_
         refine zad ⟨_, h, ?_⟩
         exact so (lq rfl lt0)
       ·refine k_ret (kB_ret (kC_ret ?_))
        obtain rfl := Option.some.inj h
        refine ke (pt AF0 4 (.xb x4_j16)) [] rfl ?_ ⟨rfl, rfl⟩
        exact so (lq rfl lt0)
      ·refine k_skip (kB_normal (zaa (zac (kr ?_))))
       refine qa (.xb true) rfl ?_
       refine G_nil (zaa (k_ret ?_))
       obtain rfl := Option.some.inj h
       refine ke (pt AF0 4 (.xb true)) [] rfl ?_ ⟨rfl, rfl⟩
       exact so (lq rfl lt0)
set_option maxHeartbeats 4000000 in
theorem m_ref9_walk_F_ok (self_ref9_walk : (List UInt8) → Int → Bool → Option (Int × (List (List UInt8)) × Int)) (hself_ref9_walk : ∀ (a0 : List UInt8) (a1 : Int) (a2 : Bool) (r : Int × (List (List UInt8)) × Int), self_ref9_walk a0 a1 a2 = some r → Pure Tryz.prog 51 [(.exact (.string (bs a0))), (.exact (.int .i64 a1)), (.exact (.bool a2))] (.tup [.exact (.int .i64 r.1), .row 1 zab r.2.1, .exact (.int .i64 r.2.2)])) (self_ref9_order : (List UInt8) → (List UInt8) → Option Int) (hself_ref9_order : ∀ (a0 : List UInt8) (a1 : List UInt8) (r : Int), self_ref9_order a0 a1 = some r → Pure Tryz.prog 102 [(.exact (.string (bs a0))), (.exact (.string (bs a1)))] (.exact (.int .i64 r))) (a0 : List UInt8) (a1 : Int) (a2 : Bool) (r : Int × (List (List UInt8)) × Int) (h : m_ref9_walk_F self_ref9_walk self_ref9_order a0 a1 a2 = some r) : Pure Tryz.prog 51 [(.exact (.string (bs a0))), (.exact (.int .i64 a1)), (.exact (.bool a2))] (.tup [.exact (.int .i64 r.1), .row 1 zab r.2.1, .exact (.int .i64 r.2.2)]) := by
 unfold m_ref9_walk_F at h
 refine Pure.ofFun (fun_of_awp Tryz.func51 rfl Tryz.ntmps51 (by simp) rfl (res3 rfl) fun E hE => k_end ?_)
 refine zac (kr ?_)
 refine qa (.xi 0) rfl ?_
 refine qa (.exact (.slice none 0 0)) rfl ?_
 refine qa (.xi 0) rfl ?_
 refine G_nil (zaa (zac ?_))
 refine k_join1_0 h (fun (x24_j3 : Bool) => (pt (pt (pt (pt AF0 0 (.xs a0)) 1 (.xi a1)) 2 (.xb a2)) 24 (.xb x24_j3))) (fun (x24_j3 : Bool) => []) (fun k3 h => ?_) (fun x24_j3 h => ?_)
 ·refine kr ?_
  refine qm (.xs a0) rfl ?_
  refine G_q rfl (op_lenS (by kernel_rfl) rfl ?_)
  refine G_q rfl (op_lss rfl rfl ?_)
  refine qm (.xb (decide ((List.length a0 : Int) < 2))) rfl ?_
  refine G_split (p := (List.length a0 : Int) < 2) 21 rfl (fun hc => ?_) (fun hc => ?_)
  ·replace h := ite_t h hc
   refine G_n rfl rfl (G_n rfl rfl ?_)
   refine G_q rfl (op_pick_t rfl (av := .xb true) rfl ?_)
   refine G_nil ?_
   refine zad ⟨_, h, ?_⟩
   exact so (l4 rfl rfl rfl rfl lt0)
  ·replace h := ite_f h hc
   refine Gy_q rfl rfl rfl (zag (av := .xi a1) rfl ?_)
   refine Gy_q rfl rfl rfl (op_eql rfl rfl ?_)
   refine G_q rfl (zak rfl (av := .xb (decide (a1 = 0))) rfl ?_)
   refine G_nil ?_
   refine zad ⟨_, h, ?_⟩
   exact so (l4 rfl rfl rfl rfl lt0)
 ·refine kb (p := x24_j3) rfl h (fun hc h => ?_) (fun hc h => ?_)
  ·refine zac (kr ?_)
   refine qa (.xi 0) rfl ?_
   refine qa (.exact (.slice none 0 0)) rfl ?_
   refine qa (.xi 0) rfl ?_
   refine G_nil (zaa (k_ret (kC_ret ?_)))
   obtain rfl := Option.some.inj h
   refine ke (pt (pt (pt AF0 6 (.xi 0)) 7 (.row 1 zab [])) 8 (.xi 0)) [] rfl ?_ ⟨rfl, rfl⟩
   exact so (lq rfl (AF.le_put (row_nil (by decide)) (lq rfl lt0)))
  ·refine k_skip (zaa (zac (zac (kr ?_))))
   refine qm (.xs a0) rfl ?_
   obtain ⟨n8, h⟩ := need_some h
   refine G_q rfl (op_index_str (by kernel_rfl) rfl rfl n8.1 n8.2 ?_)
   refine G_q rfl (op_convInt (k := .i64) (r := (UInt8.toNat (gi a0 0) : Int)) (by kernel_rfl) rfl (wrap_u8 rfl _) ?_)
   refine qa (.xi (UInt8.toNat (gi a0 0) : Int)) rfl ?_
   refine G_nil (zaa (k_block (zac (kr ?_))))
   refine qm (.xi (UInt8.toNat (gi a0 0) : Int)) rfl ?_
   refine G_q rfl (op_eql rfl rfl ?_)
   refine qa (.xb (decide ((UInt8.toNat (gi a0 0) : Int) = 1))) rfl ?_
   refine G_nil (zaa ?_)
   refine kd (p := (UInt8.toNat (gi a0 0) : Int) = 1) rfl h (fun hc h => ?_) (fun hc h => ?_)
   ·refine zac (zac (kr ?_))
    refine qm (.xs a0) rfl ?_
    refine G_q rfl (op_lenS (by kernel_rfl) rfl ?_)
    refine G_q rfl (op_lss rfl rfl ?_)
    refine G_nil (zaa ?_)
    refine kd (p := (List.length a0 : Int) < 9) rfl h (fun hc h => ?_) (fun hc h => ?_)
    ·refine zac (kr ?_)
     refine qa (.xi 0) rfl ?_
     refine qa (.exact (.slice none 0 0)) rfl ?_
     refine qa (.xi 0) rfl ?_
     refine G_nil (zaa (k_ret (kC_ret (kB_ret (kC_ret ?_)))))
     obtain rfl := Option.some.inj h
     refine ke (pt (pt (pt AF0 6 (.xi 0)) 7 (.row 1 zab [])) 8 (.xi 0)) [] rfl ?_ ⟨rfl, rfl⟩
     exact so (lq rfl (AF.le_put (row_nil (by decide)) (lq rfl lt0)))
    ·refine k_skip (zaa (zac (kr ?_)))
     refine qa (.xi 9) rfl ?_
     refine qa (.exact (.slice none 0 0)) rfl ?_
     refine qa (.xi 1) rfl ?_
     refine G_nil (zaa (k_ret (kB_ret (kC_ret ?_))))
     obtain rfl := Option.some.inj h
     refine ke (pt (pt (pt AF0 6 (.xi 9)) 7 (.row 1 zab [])) 8 (.xi 1)) [] rfl ?_ ⟨rfl, rfl⟩
     exact so (lq rfl (AF.le_put (row_nil (by decide)) (lq rfl lt0)))
   ·refine zac (kr ?_)
    refine qm (.xi (UInt8.toNat (gi a0 0) : Int)) rfl ?_
    refine G_q rfl (op_eql rfl rfl ?_)
    refine qa (.xb (decide ((UInt8.toNat (gi a0 0) : Int) = 2))) rfl ?_
    refine G_nil (zaa ?_)
    refine kd (p := (UInt8.toNat (gi a0 0) : Int) = 2) rfl h (fun hc h => ?_) (fun hc h => ?_)
    ·refine zac (zac (kr ?_))
     refine qm (.xs a0) rfl ?_
     obtain ⟨n9, h⟩ := need_some h
     refine G_q rfl (op_index_str (by kernel_rfl) rfl rfl n9.1 n9.2 ?_)
     refine G_q rfl (op_gtrU (a := (gi a0 1)) (b := 1) rfl rfl ?_)
     refine G_nil (zaa ?_)
     refine kd (p := 1 < (gi a0 1)) rfl h (fun hc h => ?_) (fun hc h => ?_)
     ·refine zac (kr ?_)
      refine qa (.xi 0) rfl ?_
      refine qa (.exact (.slice none 0 0)) rfl ?_
      refine qa (.xi 0) rfl ?_
      refine G_nil (zaa (k_ret (kC_ret (kB_ret (kC_ret ?_)))))
      obtain rfl := Option.some.inj h
      refine ke (pt (pt (pt AF0 6 (.xi 0)) 7 (.row 1 zab [])) 8 (.xi 0)) [] rfl ?_ ⟨rfl, rfl⟩
      exact so (lq rfl (AF.le_put (row_nil (by decide)) (lq rfl lt0)))
     ·refine k_skip (zaa (zac (kr ?_)))
      refine qa (.xi 2) rfl ?_
      refine qa (.exact (.slice none 0 0)) rfl ?_
      refine qa (.xi 1) rfl ?_
      refine G_nil (zaa (k_ret (kB_ret (kC_ret ?_))))
      obtain rfl := Option.some.inj h
      refine ke (pt (pt (pt AF0 6 (.xi 2)) 7 (.row 1 zab [])) 8 (.xi 1)) [] rfl ?_ ⟨rfl, rfl⟩
      exact so (lq rfl (AF.le_put (row_nil (by decide)) (lq rfl lt0)))
    ·refine k_join1_0 h (fun (x40_j10 : Bool) => (pt (pt (pt (pt (pt AF0 0 (.xs a0)) 1 (.xi a1)) 2 (.xb a2)) 9 (.xi (UInt8.toNat (gi a0 0) : Int))) 40 (.xb x40_j10))) (fun (x40_j10 : Bool) => []) (fun k10 h => ?_) (fun x40_j10 h => ?_)
     ·refine kr ?_
      refine qm (.xs a0) rfl ?_
      refine G_q rfl (op_lenS (by kernel_rfl) rfl ?_)
      refine G_q rfl (op_lss rfl rfl ?_)
      refine qm (.xb (decide ((List.length a0 : Int) < 3))) rfl ?_
      refine G_split (p := (List.length a0 : Int) < 3) 44 rfl (fun hc => ?_) (fun hc => ?_)
      ·replace h := ite_t h hc
       refine G_n rfl rfl (G_n rfl rfl ?_)
       refine G_q rfl (op_pick_t rfl (av := .xb true) rfl ?_)
       refine qm (.xb true) rfl ?_
       refine G_n rfl rfl (G_n rfl rfl ?_)
       refine G_q rfl (op_pick_t rfl (av := .xb true) rfl ?_)
       refine qa (.xb true) rfl ?_
       refine G_nil ?_
       refine zad ⟨_, h, ?_⟩
       exact so (l4 rfl rfl rfl rfl (lq rfl lt0))
      ·replace h := ite_f h hc
       refine Gy_q rfl rfl rfl (zag (av := .xi (UInt8.toNat (gi a0 0) : Int)) rfl ?_)
       refine Gy_q rfl rfl rfl (op_lss rfl rfl ?_)
       refine G_q rfl (zak rfl (av := .xb (decide ((UInt8.toNat (gi a0 0) : Int) < 3))) rfl ?_)
       refine qm (.xb (decide ((UInt8.toNat (gi a0 0) : Int) < 3))) rfl ?_
       refine G_split (p := (UInt8.toNat (gi a0 0) : Int) < 3) 48 rfl (fun hc => ?_) (fun hc => ?_)
       ·replace h := ite_t h hc
        refine G_n rfl rfl (G_n rfl rfl ?_)
        refine G_q rfl (op_pick_t rfl (av := .xb true) rfl ?_)
        refine qa (.xb true) rfl ?_
        refine G_nil ?_
        refine zad ⟨_, h, ?_⟩
        exact so (l4 rfl rfl rfl rfl (lq rfl lt0))
       ·replace h := ite_f h hc
        refine Gy_q rfl rfl rfl (zag (av := .xi (UInt8.toNat (gi a0 0) : Int)) rfl ?_)
        refine Gy_q rfl rfl rfl (op_gtr rfl rfl ?_)
        refine G_q rfl (zak rfl (av := .xb (decide (10 < (UInt8.toNat (gi a0 0) : Int)))) rfl ?_)
        refine qa (.xb (decide (10 < (UInt8.toNat (gi a0 0) : Int)))) rfl ?_
        refine G_nil ?_
        refine zad ⟨_, h, ?_⟩
        exact so (l4 rfl rfl rfl rfl (lq rfl lt0))
     ·refine kb (p := x40_j10) rfl h (fun hc h => ?_) (fun hc h => ?_)
      ·refine zac (kr ?_)
       refine qa (.xi 0) rfl ?_
       refine qa (.exact (.slice none 0 0)) rfl ?_
       refine qa (.xi 0) rfl ?_
       refine G_nil (zaa (k_ret (kB_ret (kC_ret ?_))))
       obtain rfl := Option.some.inj h
       refine ke (pt (pt (pt AF0 6 (.xi 0)) 7 (.row 1 zab [])) 8 (.xi 0)) [] rfl ?_ ⟨rfl, rfl⟩
       exact so (lq rfl (AF.le_put (row_nil (by decide)) (lq rfl lt0)))
      ·refine zac (kr ?_)
       refine qm (.xi (UInt8.toNat (gi a0 0) : Int)) rfl ?_
       refine G_q rfl (op_eql rfl rfl ?_)
       refine qa (.xb (decide ((UInt8.toNat (gi a0 0) : Int) = 10))) rfl ?_
       refine G_nil (zaa ?_)
       refine kd (p := (UInt8.toNat (gi a0 0) : Int) = 10) rfl h (fun hc h => ?_) (fun hc h => ?_)
       ·refine zac (kr ?_)
        refine qa (.xi 3) rfl ?_
        refine qa (.exact (.slice none 0 0)) rfl ?_
        refine qa (.xi 1) rfl ?_
        refine G_nil (zaa (k_ret (kB_ret (kC_ret ?_))))
        obtain rfl := Option.some.inj h
        refine ke (pt (pt (pt AF0 6 (.xi 3)) 7 (.row 1 zab [])) 8 (.xi 1)) [] rfl ?_ ⟨rfl, rfl⟩
        exact so (lq rfl (AF.le_put (row_nil (by decide)) (lq rfl lt0)))
       ·refine k_skip (kB_normal (zaa (zac ?_)))
        refine k_plan [] [(0, 0), (0, 1), (0, 2), (0, 3), (0, 4), (0, 5), (0, 6), (0, 7), (0, 8)] hmixP (by kernel_rfl) ?_
        refine P_q no34_0 rfl (zag (av := .xs a0) rfl ?_)
        obtain ⟨n11, h⟩ := need_some h
        refine P_q no34_0 rfl (op_index_str (by kernel_rfl) rfl rfl n11.1 n11.2 ?_)
        refine P_q no34_0 rfl (op_convInt (k := .i64) (r := (UInt8.toNat (gi a0 1) : Int)) (by kernel_rfl) rfl (wrap_u8 rfl _) ?_)
        refine P_q no34_0 rfl (op_shl rfl rfl (by decide) rfl ?_)
        refine P_q no34_0 rfl (zag (av := .xs a0) rfl ?_)
        obtain ⟨n12, h⟩ := need_some h
        refine P_q no34_0 rfl (op_index_str (by kernel_rfl) rfl rfl n12.1 n12.2 ?_)
        refine P_q no34_0 rfl (op_convInt (k := .i64) (r := (UInt8.toNat (gi a0 2) : Int)) (by kernel_rfl) rfl (wrap_u8 rfl _) ?_)
        refine P_q no34_0 rfl (op_or rfl rfl rfl ?_)
        refine P_q no34_0 rfl (op_assign (av := .xi (bOr .i64 (i64 ((UInt8.toNat (gi a0 1) : Int) * 2 ^ min (Int.toNat 8) IntKind.i64.bits)) (UInt8.toNat (gi a0 2) : Int))) rfl ?_)
        refine P_nil (zaa (zac (kr ?_)))
        refine qa (.xi 3) rfl ?_
        refine qa (.xi 0) rfl ?_
        refine G_nil (zaa (zac (kr ?_)))
        refine qa (.exact (.slice none 0 0)) rfl ?_
        refine G_nil (zaa ?_)
        refine k_join3_1 h (fun (x11_j13 : Int) (x12_j13 : Int) (x13_j13 : List (List UInt8)) (v13_j13 : Value) => (pt (pt (pt (pt (pt AF0 0 (.xs a0)) 2 (.xb a2)) 11 (.xi x11_j13)) 12 (.xi x12_j13)) 13 (.exact v13_j13))) (fun (x11_j13 : Int) (x12_j13 : Int) (x13_j13 : List (List UInt8)) (v13_j13 : Value) => [vecT Tryz.prog 23 1 zab v13_j13 x13_j13]) (fun k13 h => ?_) (fun x11_j13 x12_j13 x13_j13 v13_j13 h => ?_)
        ·refine zac (kr ?_)
         refine qa (.xi 0) rfl ?_
         refine G_nil (zaa (k_block ?_))
         refine k_loop4_1 (m_ref9_walk_L2 self_ref9_walk a0 a1 a2 k13) (m_ref9_walk_B2 self_ref9_walk a0 a1 a2 k13) (fun _ _ _ _ => rfl) (fun m _ _ _ _ => rfl) h (fun (x11_l2 : Int) (x12_l2 : Int) (x13_l2 : List (List UInt8)) (x14_l2 : Int) (v13_l2 : Value) => (pt (pt (pt (pt (pt (pt (pt (pt AF0 0 (.xs a0)) 1 (.xi a1)) 2 (.xb a2)) 10 (.xi (bOr .i64 (i64 ((UInt8.toNat (gi a0 1) : Int) * 2 ^ min (Int.toNat 8) IntKind.i64.bits)) (UInt8.toNat (gi a0 2) : Int)))) 11 (.xi x11_l2)) 12 (.xi x12_l2)) 13 (.exact v13_l2)) 14 (.xi x14_l2))) (fun (x11_l2 : Int) (x12_l2 : Int) (x13_l2 : List (List UInt8)) (x14_l2 : Int) (v13_l2 : Value) => [vecT Tryz.prog 23 1 zab v13_l2 x13_l2]) (.slice none 0 0) ?_ (fun rec2 x11_l2 x12_l2 x13_l2 x14_l2 v13_l2 h => ?_)
         ·refine Sub.trans (SubU.to (SubU.nilT (P := Tryz.prog) (t := 23) (n := 1) (enc := zab))) ?_
          exact so (l4 rfl rfl rfl rfl (l4 rfl rfl rfl rfl lt0))
         ·unfold m_ref9_walk_B2 at h
          refine zac (zac (kr ?_))
          refine qm (.xi x14_l2) rfl ?_
          refine qm (.xi (bOr .i64 (i64 ((UInt8.toNat (gi a0 1) : Int) * 2 ^ min (Int.toNat 8) IntKind.i64.bits)) (UInt8.toNat (gi a0 2) : Int))) rfl ?_
          refine G_q rfl (op_lss rfl rfl ?_)
          refine G_nil (zaa ?_)
          refine kd (p := x14_l2 < (bOr .i64 (i64 ((UInt8.toNat (gi a0 1) : Int) * 2 ^ min (Int.toNat 8) IntKind.i64.bits)) (UInt8.toNat (gi a0 2) : Int))) rfl h (fun hc h => ?_) (fun hc h => ?_)
          ·refine k_skip (zaa (zac (k_block (zac (kr ?_)))))
           refine qm (.xs a0) rfl ?_
           refine qm (.xi x11_l2) rfl ?_
           obtain ⟨n40, h⟩ := need_some h
           refine G_q rfl (op_slice_strd (by kernel_rfl) rfl (bnd_some rfl) bnd_none n40.1 n40.2 (Int.le_refl _) ?_)
           refine qm (.xi a1) rfl ?_
           refine G_q rfl (op_sub rfl rfl rfl ?_)
           refine qm (.xb a2) rfl ?_
           obtain ⟨y41, hy41, h⟩ := bnd1_some h
           refine G_q rfl (zaf (hself_ref9_walk _ _ _ _ hy41) Tryz.func51 (by kernel_rfl) (LEs.cons (AV.le_eq rfl) (LEs.cons (AV.le_eq rfl) (LEs.cons (AV.le_eq rfl) LEs.nil))) ?_)
           refine qm (.tup [.xi y41.1, .row 1 zab y41.2.1, .xi y41.2.2]) rfl ?_
           refine G_q rfl (op_extract (av := .xi y41.1) rfl rfl ?_)
           refine G_q rfl (op_extract (av := .row 1 zab y41.2.1) rfl rfl ?_)
           refine G_q rfl (op_extract (av := .xi y41.2.2) rfl rfl ?_)
           refine qa (.xi y41.1) rfl ?_
           refine qa (.row 1 zab y41.2.1) rfl ?_
           refine qa (.xi y41.2.2) rfl ?_
           refine G_nil (zaa (zac (zac (kr ?_))))
           refine qm (.xi y41.1) rfl ?_
           refine G_q rfl (op_eql rfl rfl ?_)
           refine G_nil (zaa ?_)
           refine kd (p := y41.1 = 0) rfl h (fun hc h => ?_) (fun hc h => ?_)
           ·refine zac (kr ?_)
            refine qa (.xi 0) rfl ?_
            refine qa (.exact (.slice none 0 0)) rfl ?_
            refine qa (.xi 0) rfl ?_
            refine G_nil (zaa (k_ret (kC_ret (kB_ret (kC_ret (kI_ret (kB_ret (kI_ret ?_))))))))
            obtain rfl := Option.some.inj h
            refine ke (pt (pt (pt AF0 6 (.xi 0)) 7 (.row 1 zab [])) 8 (.xi 0)) [] rfl ?_ ⟨rfl, rfl⟩
            refine Sub.trans (SubU.to SubU.drop) ?_
            exact so (lq rfl (AF.le_put (row_nil (by decide)) (lq rfl lt0)))
           ·refine k_skip (zaa (zac (kr ?_)))
            refine qm (.exact v13_l2) rfl ?_
            refine qm (.xs a0) rfl ?_
            refine qm (.xi x11_l2) rfl ?_
            refine qm (.xi x11_l2) rfl ?_
            refine qm (.xi y41.1) rfl ?_
            refine G_q rfl (op_add rfl rfl rfl ?_)
            obtain ⟨n42, h⟩ := need_some h
            refine G_q rfl (op_slice_str (by kernel_rfl) rfl (bnd_some rfl) (bnd_some rfl) n42.1 n42.2.1 n42.2.2 ?_)
            refine G_q rfl (op_litT (n := 1) (enc := zab) [List.take (Int.toNat (i64 (x11_l2 + y41.1)) - Int.toNat x11_l2) (List.drop (Int.toNat x11_l2) a0)] (CellsAll.cons rfl CellsOf.str CellsAll.nil) rfl (by kernel_rfl) (LEss.cons (LEs.cons (AV.le_eq rfl) LEs.nil) LEss.nil) ?_)
            obtain ⟨n43, h⟩ := need_some h
            refine G_l rfl (op_appT (by kernel_rfl) rfl rfl oc_c_api_Value n43 (fun v44 => ?_))
            refine qa (.exact v44) rfl ?_
            refine G_nil (zaa (zac (kr ?_)))
            refine qm (.xi x11_l2) rfl ?_
            refine qm (.xi y41.1) rfl ?_
            refine G_q rfl (op_add rfl rfl rfl ?_)
            refine qa (.xi (i64 (x11_l2 + y41.1))) rfl ?_
            refine G_nil (zaa (kr ?_))
            refine qm (.xi x12_l2) rfl ?_
            refine qm (.xi y41.2.2) rfl ?_
            refine G_q rfl (op_max rfl rfl ?_)
            refine qa (.xi (max x12_l2 y41.2.2)) rfl ?_
            refine G_nil (kB_normal (zaa (kr ?_)))
            refine qm (.xi x14_l2) rfl ?_
            refine G_q rfl (op_add rfl rfl rfl ?_)
            refine qa (.xi (i64 (x14_l2 + 1))) rfl ?_
            refine G_nil ?_
            refine zad ⟨_, _, _, _, v44, h, ?_⟩
            exact so (l4 rfl rfl rfl rfl (l4 rfl rfl rfl rfl lt0))
          ·refine k_exit (kC_exit (kI_exit (kB_exit ?_)))
           refine zad ⟨_, _, _, v13_l2, h, ?_⟩
           exact so (l4 rfl rfl rfl rfl (lq rfl lt0))
        ·refine zac ?_
         refine k_join2_0 h (fun (x13_j51 : List (List UInt8)) (x104_j51 : Bool) => (pt (pt (pt (pt AF0 11 (.xi x11_j13)) 12 (.xi x12_j13)) 13 (.row 1 zab x13_j51)) 104 (.xb x104_j51))) (fun (x13_j51 : List (List UInt8)) (x104_j51 : Bool) => []) (fun k51 h => ?_) (fun x13_j51 x104_j51 h => ?_)
         ·refine kr ?_
          refine qm (.xb a2) rfl ?_
          refine qm (.xb a2) rfl ?_
          refine G_splitB (c := a2) 97 rfl (fun hc => ?_) (fun hc => ?_)
          ·replace h := ite_t h hc
           refine Gy_q rfl rfl rfl (zag (av := .xs a0) rfl ?_)
           obtain ⟨n54, h⟩ := need_some h
           refine Gy_q rfl rfl rfl (op_index_str (by kernel_rfl) rfl rfl n54.1 n54.2 ?_)
           refine Gy_q rfl rfl rfl (op_convInt (k := .i64) (r := (UInt8.toNat (gi a0 0) : Int)) (by kernel_rfl) rfl (wrap_u8 rfl _) ?_)
           refine Gy_q rfl rfl rfl (zag (av := .exact v13_j13) rfl ?_)
           refine G_sub rfl (SubU.freezeT2 (s1 := 13) (s2 := 101) rfl rfl len_c_api_Value) ?_
           obtain ⟨y55, hy55, h⟩ := bnd1_some h
           refine Gy_q rfl rfl rfl (zaf (m_ref9_parted_ok self_ref9_walk hself_ref9_walk self_ref9_order hself_ref9_order _ _ _ hy55) Tryz.func93 (by kernel_rfl) (LEs.cons (AV.le_eq rfl) (LEs.cons (AV.le_eq rfl) LEs.nil)) ?_)
           refine Gy_q rfl rfl rfl (op_not rfl ?_)
           refine G_q rfl (op_pick_t rfl (av := .xb (!y55)) rfl ?_)
           refine G_nil ?_
           refine zad ⟨_, _, h, ?_⟩
           exact so (l4 rfl rfl rfl rfl lt0)
          ·replace h := ite_f h hc
           refine G_n rfl rfl (G_n rfl rfl (G_n rfl rfl (G_n rfl rfl (G_n rfl rfl (G_n rfl rfl ?_)))))
           refine G_q rfl (zak rfl (av := .xb false) rfl ?_)
           refine G_nil ?_
           refine zad ⟨_, _, h, ?_⟩
           refine Sub.trans (SubU.to (SubU.freezeT (s := 13) rfl len_c_api_Value)) ?_
           exact so (l4 rfl rfl rfl rfl lt0)
         ·refine kb (p := x104_j51) rfl h (fun hc h => ?_) (fun hc h => ?_)
          ·refine zac (kr ?_)
           refine qa (.xi 0) rfl ?_
           refine qa (.exact (.slice none 0 0)) rfl ?_
           refine qa (.xi 0) rfl ?_
           refine G_nil (zaa (k_ret (kC_ret ?_)))
           obtain rfl := Option.some.inj h
           refine ke (pt (pt (pt AF0 6 (.xi 0)) 7 (.row 1 zab [])) 8 (.xi 0)) [] rfl ?_ ⟨rfl, rfl⟩
           exact so (lq rfl (AF.le_put (row_nil (by decide)) (lq rfl lt0)))
          ·refine k_skip (zaa (zac (kr ?_)))
           refine qm (.xi x11_j13) rfl ?_
           refine qm (.row 1 zab x13_j51) rfl ?_
           refine qm (.xi x12_j13) rfl ?_
           refine G_q rfl (op_add rfl rfl rfl ?_)
           refine qa (.xi x11_j13) rfl ?_
           refine qa (.row 1 zab x13_j51) rfl ?_
           refine qa (.xi (i64 (x12_j13 + 1))) rfl ?_
           refine G_nil (zaa (k_ret ?_))
           obtain rfl := Option.some.inj h
           refine ke (pt (pt (pt AF0 6 (.xi x11_j13)) 7 (.row 1 zab x13_j51)) 8 (.xi (i64 (x12_j13 + 1)))) [] rfl ?_ ⟨rfl, rfl⟩
           exact so (lq rfl (lq rfl (lq rfl lt0)))
set_option maxHeartbeats 4000000 in
theorem m_ref9_sign_ok (a0 : Bool) (a1 : Bool) (r : Int) (h : m_ref9_sign a0 a1 = some r) : Pure Tryz.prog 103 [(.exact (.bool a0)), (.exact (.bool a1))] (.exact (.int .i64 r)) := by
 unfold m_ref9_sign at h
 refine Pure.ofFun (fun_of_awp Tryz.func103 rfl Tryz.ntmps103 (by simp) rfl (res1 rfl) fun E hE => k_end ?_)
 refine zac (kr ?_)
 refine qa (.xi 0) rfl ?_
 refine G_nil (zaa (zac (k_block (zac (kr ?_)))))
 refine qm (.xb a0) rfl ?_
 refine qa (.xb a0) rfl ?_
 refine G_nil (zaa ?_)
 refine kb (p := a0) rfl h (fun hc h => ?_) (fun hc h => ?_)
 ·refine zac (kr ?_)
  refine qa (.xi (-1)) rfl ?_
  refine G_nil (zaa (k_ret (kB_ret (kC_ret ?_))))
  obtain rfl := Option.some.inj h
  refine ke (pt AF0 4 (.xi (-1))) [] rfl ?_ ⟨rfl, rfl⟩
  exact so (lq rfl lt0)
 ·refine zac (kr ?_)
  refine qm (.xb a1) rfl ?_
  refine qa (.xb a1) rfl ?_
  refine G_nil (zaa ?_)
  refine kb (p := a1) rfl h (fun hc h => ?_) (fun hc h => ?_)
  ·refine zac (kr ?_)
   refine qa (.xi 1) rfl ?_
   refine G_nil (zaa (k_ret (kB_ret (kC_ret ?_))))
   obtain rfl := Option.some.inj h
   refine ke (pt AF0 4 (.xi 1)) [] rfl ?_ ⟨rfl, rfl⟩
   exact so (lq rfl lt0)
  ·refine k_skip (kB_normal (zaa (zac (kr ?_))))
   refine qa (.xi 0) rfl ?_
   refine G_nil (zaa (k_ret ?_))
   obtain rfl := Option.some.inj h
   refine ke (pt AF0 4 (.xi 0)) [] rfl ?_ ⟨rfl, rfl⟩
   exact so (lq rfl lt0)
set_option maxHeartbeats 4000000 in
theorem m_ref9_order_F_ok (self_ref9_walk : (List UInt8) → Int → Bool → Option (Int × (List (List UInt8)) × Int)) (hself_ref9_walk : ∀ (a0 : List UInt8) (a1 : Int) (a2 : Bool) (r : Int × (List (List UInt8)) × Int), self_ref9_walk a0 a1 a2 = some r → Pure Tryz.prog 51 [(.exact (.string (bs a0))), (.exact (.int .i64 a1)), (.exact (.bool a2))] (.tup [.exact (.int .i64 r.1), .row 1 zab r.2.1, .exact (.int .i64 r.2.2)])) (self_ref9_order : (List UInt8) → (List UInt8) → Option Int) (hself_ref9_order : ∀ (a0 : List UInt8) (a1 : List UInt8) (r : Int), self_ref9_order a0 a1 = some r → Pure Tryz.prog 102 [(.exact (.string (bs a0))), (.exact (.string (bs a1)))] (.exact (.int .i64 r))) (a0 : List UInt8) (a1 : List UInt8) (r : Int) (h : m_ref9_order_F self_ref9_walk self_ref9_order a0 a1 = some r) : Pure Tryz.prog 102 [(.exact (.string (bs a0))), (.exact (.string (bs a1)))] (.exact (.int .i64 r)) := by
 unfold m_ref9_order_F at h
 refine Pure.ofFun (fun_of_awp Tryz.func102 rfl Tryz.ntmps102 (by simp) rfl (res1 rfl) fun E hE => k_end ?_)
 refine zac (kr ?_)
 refine qa (.xi 0) rfl ?_
 refine G_nil (zaa (zac (k_block (zac (kr ?_)))))
 refine qm (.xs a0) rfl ?_
 refine qm (.xs a1) rfl ?_
 refine G_q rfl (op_eqlS rfl rfl ?_)
 refine qa (.xb (decide (a0 = a1))) rfl ?_
 refine G_nil (zaa ?_)
 refine kd (p := a0 = a1) rfl h (fun hc h => ?_) (fun hc h => ?_)
 ·refine zac (kr ?_)
  refine qa (.xi 0) rfl ?_
  refine G_nil (zaa (k_ret (kB_ret (kC_ret ?_))))
  obtain rfl := Option.some.inj h
  refine ke (pt AF0 4 (.xi 0)) [] rfl ?_ ⟨rfl, rfl⟩
  exact so (lq rfl lt0)
 ·refine zac ?_
  refine k_plan [] [(0, 0), (0, 1), (0, 2), (0, 3), (0, 4), (0, 5)] hmixP (by kernel_rfl) ?_
  refine P_q no34_0 rfl (zag (av := .xs a0) rfl ?_)
  obtain ⟨n19, h⟩ := need_some h
  refine P_q no34_0 rfl (op_index_str (by kernel_rfl) rfl rfl n19.1 n19.2 ?_)
  refine P_q no34_0 rfl (zag (av := .xs a1) rfl ?_)
  obtain ⟨n20, h⟩ := need_some h
  refine P_q no34_0 rfl (op_index_str (by kernel_rfl) rfl rfl n20.1 n20.2 ?_)
  refine P_q no34_0 rfl (op_neqU (a := (gi a0 0)) (b := (gi a1 0)) rfl rfl ?_)
  refine P_q no34_0 rfl (op_assign (av := .xb (decide (¬ (gi a0 0) = (gi a1 0)))) rfl ?_)
  refine P_nil (zaa ?_)
  refine kd (p := ¬ (gi a0 0) = (gi a1 0)) rfl h (fun hc h => ?_) (fun hc h => ?_)
  ·refine zac ?_
   refine k_plan [] [(0, 0), (0, 1), (0, 2), (0, 3), (0, 4), (0, 5), (0, 6)] hmixP (by kernel_rfl) ?_
   refine P_q no34_0 rfl (zag (av := .xs a0) rfl ?_)
   obtain ⟨n21, h⟩ := need_some h
   refine P_q no34_0 rfl (op_index_str (by kernel_rfl) rfl rfl n21.1 n21.2 ?_)
   refine P_q no34_0 rfl (zag (av := .xs a1) rfl ?_)
   obtain ⟨n22, h⟩ := need_some h
   refine P_q no34_0 rfl (op_index_str (by kernel_rfl) rfl rfl n22.1 n22.2 ?_)
   refine P_q no34_0 rfl (op_lssU (a := (gi a0 0)) (b := (gi a1 0)) rfl rfl ?_)
   obtain ⟨y23, hy23, h⟩ := bnd1_some h
   refine P_q no34_0 rfl (zaf (m_ref9_sign_ok _ _ _ hy23) Tryz.func103 (by kernel_rfl) (LEs.cons (AV.le_eq rfl) (LEs.cons (AV.le_eq rfl) LEs.nil)) ?_)
   refine P_q no34_0 rfl (op_assign (av := .xi y23) rfl ?_)
   refine P_nil (zaa (k_ret (kB_ret (kC_ret ?_))))
   obtain rfl := Option.some.inj h
   refine ke (pt AF0 4 (.xi y23)) [] rfl ?_ ⟨rfl, rfl⟩
   exact so (lq rfl lt0)
  ·refine zac (kr ?_)
   refine qm (.xs a0) rfl ?_
   obtain ⟨n24, h⟩ := need_some h
   refine G_q rfl (op_index_str (by kernel_rfl) rfl rfl n24.1 n24.2 ?_)
   refine G_q rfl (op_convInt (k := .i64) (r := (UInt8.toNat (gi a0 0) : Int)) (by kernel_rfl) rfl (wrap_u8 rfl _) ?_)
   refine G_q rfl (op_eql rfl rfl ?_)
   refine qa (.xb (decide ((UInt8.toNat (gi a0 0) : Int) = 1))) rfl ?_
   refine G_nil (zaa ?_)
   refine kd (p := (UInt8.toNat (gi a0 0) : Int) = 1) rfl h (fun hc h => ?_) (fun hc h => ?_)
   ·refine zac ?_
    refine k_plan [] [(0, 0), (0, 1), (0, 2), (0, 3), (0, 4), (0, 5), (0, 6), (0, 7)] hmixP (by kernel_rfl) ?_
    refine P_q no34_0 rfl (zag (av := .xs a0) rfl ?_)
    obtain ⟨n25, h⟩ := need_some h
    refine P_q no34_0 rfl (op_slice_strd (by kernel_rfl) rfl (bnd_some rfl) bnd_none (by decide) n25 (Int.le_refl _) ?_)
    obtain ⟨y26, hy26, h⟩ := bnd1_some h
    refine P_q no34_0 rfl (zaf (m_ref9_number_ok _ _ hy26) Tryz.func118 (by kernel_rfl) (LEs.cons (AV.le_eq rfl) LEs.nil) ?_)
    refine P_q no34_0 rfl (zag (av := .xs a1) rfl ?_)
    obtain ⟨n27, h⟩ := need_some h
    refine P_q no34_0 rfl (op_slice_strd (by kernel_rfl) rfl (bnd_some rfl) bnd_none (by decide) n27 (Int.le_refl _) ?_)
    obtain ⟨y28, hy28, h⟩ := bnd1_some h
    refine P_q no34_0 rfl (zaf (m_ref9_number_ok _ _ hy28) Tryz.func118 (by kernel_rfl) (LEs.cons (AV.le_eq rfl) LEs.nil) ?_)
    refine P_q no34_0 rfl (op_assign (av := .xi y26) rfl ?_)
    refine P_q no34_0 rfl (op_assign (av := .xi y28) rfl ?_)
    refine P_nil (zaa (zac (kr ?_)))
    refine qm (.xi y26) rfl ?_
    refine qm (.xi y28) rfl ?_
    refine G_q rfl (op_lss rfl rfl ?_)
    refine qm (.xi y26) rfl ?_
    refine qm (.xi y28) rfl ?_
    refine G_q rfl (op_gtr rfl rfl ?_)
    obtain ⟨y29, hy29, h⟩ := bnd1_some h
    refine G_q rfl (zaf (m_ref9_sign_ok _ _ _ hy29) Tryz.func103 (by kernel_rfl) (LEs.cons (AV.le_eq rfl) (LEs.cons (AV.le_eq rfl) LEs.nil)) ?_)
    refine qa (.xi y29) rfl ?_
    refine G_nil (zaa (k_ret (kB_ret (kC_ret ?_))))
    obtain rfl := Option.some.inj h
    refine ke (pt AF0 4 (.xi y29)) [] rfl ?_ ⟨rfl, rfl⟩
    exact so (lq rfl lt0)
   ·refine k_join1_0 h (fun (x49_j30 : Bool) => (pt (pt (pt AF0 0 (.xs a0)) 1 (.xs a1)) 49 (.xb x49_j30))) (fun (x49_j30 : Bool) => []) (fun k30 h => ?_) (fun x49_j30 h => ?_)
    ·refine kr ?_
     refine qm (.xs a0) rfl ?_
     obtain ⟨n33, h⟩ := need_some h
     refine G_q rfl (op_index_str (by kernel_rfl) rfl rfl n33.1 n33.2 ?_)
     refine G_q rfl (op_convInt (k := .i64) (r := (UInt8.toNat (gi a0 0) : Int)) (by kernel_rfl) rfl (wrap_u8 rfl _) ?_)
     refine G_q rfl (op_eql rfl rfl ?_)
     refine qm (.xb (decide ((UInt8.toNat (gi a0 0) : Int) = 2))) rfl ?_
     refine G_split (p := (UInt8.toNat (gi a0 0) : Int) = 2) 54 rfl (fun hc => ?_) (fun hc => ?_)
     ·replace h := ite_t h hc
      refine G_n rfl rfl (G_n rfl rfl (G_n rfl rfl (G_n rfl rfl ?_)))
      refine G_q rfl (op_pick_t rfl (av := .xb true) rfl ?_)
      refine qa (.xb true) rfl ?_
      refine G_nil ?_
      refine zad ⟨_, h, ?_⟩
      exact so (lq rfl (lq rfl (lq rfl lt0)))
     ·replace h := ite_f h hc
      refine Gy_q rfl rfl rfl (zag (av := .xs a0) rfl ?_)
      obtain ⟨n34, h⟩ := need_some h
      refine Gy_q rfl rfl rfl (op_index_str (by kernel_rfl) rfl rfl n34.1 n34.2 ?_)
      refine Gy_q rfl rfl rfl (op_convInt (k := .i64) (r := (UInt8.toNat (gi a0 0) : Int)) (by kernel_rfl) rfl (wrap_u8 rfl _) ?_)
      refine Gy_q rfl rfl rfl (op_eql rfl rfl ?_)
      refine G_q rfl (zak rfl (av := .xb (decide ((UInt8.toNat (gi a0 0) : Int) = 10))) rfl ?_)
      refine qa (.xb (decide ((UInt8.toNat (gi a0 0) : Int) = 10))) rfl ?_
      refine G_nil ?_
      refine zad ⟨_, h, ?_⟩
      exact so (lq rfl (lq rfl (lq rfl lt0)))
    ·refine kb (p := x49_j30) rfl h (fun hc h => ?_) (fun hc h => ?_)
     ·refine zac (kr ?_)
      refine qm (.xs a0) rfl ?_
      refine qm (.xs a1) rfl ?_
      refine G_q rfl (op_lssS rfl rfl ?_)
      refine qm (.xs a0) rfl ?_
      refine qm (.xs a1) rfl ?_
      refine G_q rfl (op_gtrS rfl rfl ?_)
      obtain ⟨y35, hy35, h⟩ := bnd1_some h
      refine G_q rfl (zaf (m_ref9_sign_ok _ _ _ hy35) Tryz.func103 (by kernel_rfl) (LEs.cons (AV.le_eq rfl) (LEs.cons (AV.le_eq rfl) LEs.nil)) ?_)
      refine qa (.xi y35) rfl ?_
      refine G_nil (zaa (k_ret (kB_ret (kC_ret ?_))))
      obtain rfl := Option.some.inj h
      refine ke (pt AF0 4 (.xi y35)) [] rfl ?_ ⟨rfl, rfl⟩
      exact so (lq rfl lt0)
     ·refine k_skip (kB_normal (zaa (zac (kr ?_))))
      refine qm (.xs a0) rfl ?_
      obtain ⟨y36, hy36, h⟩ := bnd1_some h
      refine G_q rfl (zaf (hself_ref9_walk _ _ _ _ hy36) Tryz.func51 (by kernel_rfl) (LEs.cons (AV.le_eq rfl) (LEs.cons (AV.le_eq rfl) (LEs.cons (AV.le_eq rfl) LEs.nil))) ?_)
      refine qm (.tup [.xi y36.1, .row 1 zab y36.2.1, .xi y36.2.2]) rfl ?_
      refine G_q rfl (op_extract (av := .xi y36.1) rfl rfl ?_)
      refine G_q rfl (op_extract (av := .row 1 zab y36.2.1) rfl rfl ?_)
      refine G_q rfl (op_extract (av := .xi y36.2.2) rfl rfl ?_)
      refine qa (.xi y36.1) rfl ?_
      refine qa (.row 1 zab y36.2.1) rfl ?_
      refine qa (.xi y36.2.2) rfl ?_
      refine G_nil (zaa (zac (kr ?_)))
      refine qm (.xs a1) rfl ?_
      obtain ⟨y37, hy37, h⟩ := bnd1_some h
      refine G_q rfl (zaf (hself_ref9_walk _ _ _ _ hy37) Tryz.func51 (by kernel_rfl) (LEs.cons (AV.le_eq rfl) (LEs.cons (AV.le_eq rfl) (LEs.cons (AV.le_eq rfl) LEs.nil))) ?_)
      refine qm (.tup [.xi y37.1, .row 1 zab y37.2.1, .xi y37.2.2]) rfl ?_
      refine G_q rfl (op_extract (av := .xi y37.1) rfl rfl ?_)
      refine G_q rfl (op_extract (av := .row 1 zab y37.2.1) rfl rfl ?_)
      refine G_q rfl (op_extract (av := .xi y37.2.2) rfl rfl ?_)
      refine qa (.xi y37.1) rfl ?_
      refine qa (.row 1 zab y37.2.1) rfl ?_
      refine qa (.xi y37.2.2) rfl ?_
      refine G_nil (zaa ?_)
      refine k_join0_0 h ((pt (pt AF0 8 (.row 1 zab y36.2.1)) 11 (.row 1 zab y37.2.1))) ([]) (fun k38 h => ?_) (fun  h => ?_)
      ·refine zac (kr ?_)
       refine qa (.xi 0) rfl ?_
       refine G_nil (zaa (k_block ?_))
       refine k_loop1_0 (m_ref9_order_L2 self_ref9_order y36 y37 k38) (m_ref9_order_B2 self_ref9_order y36 y37 k38) (fun _ => rfl) (fun m _ => rfl) h (fun (x13_l2 : Int) => (pt (pt (pt AF0 8 (.row 1 zab y36.2.1)) 11 (.row 1 zab y37.2.1)) 13 (.xi x13_l2))) (fun (x13_l2 : Int) => []) ?_ (fun rec2 x13_l2 h => ?_)
       ·exact so (lq rfl (lq rfl (lq rfl lt0)))
       ·unfold m_ref9_order_B2 at h
        refine zac ?_
        refine k_join1_0 h (fun (x88_j72 : Bool) => (pt (pt (pt (pt AF0 8 (.row 1 zab y36.2.1)) 11 (.row 1 zab y37.2.1)) 13 (.xi x13_l2)) 88 (.xb x88_j72))) (fun (x88_j72 : Bool) => []) (fun k72 h => ?_) (fun x88_j72 h => ?_)
        ·refine kr ?_
         refine qm (.xi x13_l2) rfl ?_
         refine qm (.row 1 zab y36.2.1) rfl ?_
         refine G_q rfl (zai (by kernel_rfl) rfl ?_)
         refine G_q rfl (op_lss rfl rfl ?_)
         refine qm (.xb (decide (x13_l2 < (List.length y36.2.1 : Int)))) rfl ?_
         refine G_split (p := x13_l2 < (List.length y36.2.1 : Int)) 83 rfl (fun hc => ?_) (fun hc => ?_)
         ·replace h := ite_t h hc
          refine Gy_q rfl rfl rfl (zag (av := .xi x13_l2) rfl ?_)
          refine Gy_q rfl rfl rfl (zag (av := .row 1 zab y37.2.1) rfl ?_)
          refine Gy_q rfl rfl rfl (zai (by kernel_rfl) rfl ?_)
          refine Gy_q rfl rfl rfl (op_lss rfl rfl ?_)
          refine G_q rfl (op_pick_t rfl (av := .xb (decide (x13_l2 < (List.length y37.2.1 : Int)))) rfl ?_)
          refine G_nil ?_
          refine zad ⟨_, h, ?_⟩
          exact so (l4 rfl rfl rfl rfl lt0)
         ·replace h := ite_f h hc
          refine G_n rfl rfl (G_n rfl rfl (G_n rfl rfl (G_n rfl rfl ?_)))
          refine G_q rfl (zak rfl (av := .xb false) rfl ?_)
          refine G_nil ?_
          refine zad ⟨_, h, ?_⟩
          exact so (l4 rfl rfl rfl rfl lt0)
        ·refine kb (p := x88_j72) rfl h (fun hc h => ?_) (fun hc h => ?_)
         ·refine k_skip (zaa (zac (k_block (zac ?_))))
          refine k_plan [] [(0, 0), (0, 1), (0, 2), (0, 3), (0, 4), (0, 5), (0, 6), (0, 7), (0, 8), (0, 9)] hmixP (by kernel_rfl) ?_
          refine P_q no34_0 rfl (zag (av := .row 1 zab y36.2.1) rfl ?_)
          refine P_q no34_0 rfl (zag (av := .xi x13_l2) rfl ?_)
          obtain ⟨n73, h⟩ := need_some h
          refine P_q no34_0 rfl (zaj (by kernel_rfl) rfl rfl n73.1 n73.2 ?_)
          refine P_q no34_0 rfl (op_load1p (a := .xs (gi y36.2.1 x13_l2)) (by kernel_rfl) rfl rfl ?_)
          refine P_q no34_0 rfl (zag (av := .row 1 zab y37.2.1) rfl ?_)
          refine P_q no34_0 rfl (zag (av := .xi x13_l2) rfl ?_)
          obtain ⟨n74, h⟩ := need_some h
          refine P_q no34_0 rfl (zaj (by kernel_rfl) rfl rfl n74.1 n74.2 ?_)
          refine P_q no34_0 rfl (op_load1p (a := .xs (gi y37.2.1 x13_l2)) (by kernel_rfl) rfl rfl ?_)
          obtain ⟨y75, hy75, h⟩ := bnd1_some h
          refine P_q no34_0 rfl (zaf (hself_ref9_order _ _ _ hy75) Tryz.func102 (by kernel_rfl) (LEs.cons (AV.le_eq rfl) (LEs.cons (AV.le_eq rfl) LEs.nil)) ?_)
          refine P_q no34_0 rfl (op_assign (av := .xi y75) rfl ?_)
          refine P_nil (zaa (zac (kr ?_)))
          refine qm (.xi y75) rfl ?_
          refine G_q rfl (op_neq rfl rfl ?_)
          refine G_nil (zaa ?_)
          refine kd (p := ¬ y75 = 0) rfl h (fun hc h => ?_) (fun hc h => ?_)
          ·refine zac (kr ?_)
           refine qm (.xi y75) rfl ?_
           refine qa (.xi y75) rfl ?_
           refine G_nil (zaa (k_ret (kB_ret (kC_ret (kI_ret (kB_ret (kI_ret ?_)))))))
           obtain rfl := Option.some.inj h
           refine ke (pt AF0 4 (.xi y75)) [] rfl ?_ ⟨rfl, rfl⟩
           exact so (lq rfl lt0)
          ·refine k_skip (kB_normal (zaa (kr ?_)))
           refine qm (.xi x13_l2) rfl ?_
           refine G_q rfl (op_add rfl rfl rfl ?_)
           refine qa (.xi (i64 (x13_l2 + 1))) rfl ?_
           refine G_nil ?_
           refine zad ⟨_, h, ?_⟩
           exact so (lq rfl (lq rfl (lq rfl lt0)))
         ·refine k_exit (kC_exit (kI_exit (kB_exit ?_)))
          refine zad ⟨h, ?_⟩
          exact so (lq rfl (lq rfl lt0))
      ·refine zac (kr ?_)
       refine qm (.row 1 zab y36.2.1) rfl ?_
       refine G_q rfl (zai (by kernel_rfl) rfl ?_)
       refine qm (.row 1 zab y37.2.1) rfl ?_
       refine G_q rfl (zai (by kernel_rfl) rfl ?_)
       refine G_q rfl (op_lss rfl rfl ?_)
       refine qm (.row 1 zab y36.2.1) rfl ?_
       refine G_q rfl (zai (by kernel_rfl) rfl ?_)
       refine qm (.row 1 zab y37.2.1) rfl ?_
       refine G_q rfl (zai (by kernel_rfl) rfl ?_)
       refine G_q rfl (op_gtr rfl rfl ?_)
       obtain ⟨y76, hy76, h⟩ := bnd1_some h
       refine G_q rfl (zaf (m_ref9_sign_ok _ _ _ hy76) Tryz.func103 (by kernel_rfl) (LEs.cons (AV.le_eq rfl) (LEs.cons (AV.le_eq rfl) LEs.nil)) ?_)
       refine qa (.xi y76) rfl ?_
       refine G_nil (zaa (k_ret ?_))
       obtain rfl := Option.some.inj h
       refine ke (pt AF0 4 (.xi y76)) [] rfl ?_ ⟨rfl, rfl⟩
       exact so (lq rfl lt0)
set_option maxHeartbeats 4000000 in
theorem m_ref9_walk_S_ok : ∀ n : Nat, (∀ (a0 : List UInt8) (a1 : Int) (a2 : Bool) (r : Int × (List (List UInt8)) × Int), (m_ref9_walk_S n).1 a0 a1 a2 = some r → Pure Tryz.prog 51 [(.exact (.string (bs a0))), (.exact (.int .i64 a1)), (.exact (.bool a2))] (.tup [.exact (.int .i64 r.1), .row 1 zab r.2.1, .exact (.int .i64 r.2.2)])) ∧ (∀ (a0 : List UInt8) (a1 : List UInt8) (r : Int), (m_ref9_walk_S n).2 a0 a1 = some r → Pure Tryz.prog 102 [(.exact (.string (bs a0))), (.exact (.string (bs a1)))] (.exact (.int .i64 r)))
  | 0 => ⟨(fun _ _ _ _ h => by have h' : (none : Option _) = some _ := h; cases h'), (fun _ _ _ h => by have h' : (none : Option _) = some _ := h; cases h')⟩
  | n + 1 => by
    have ih := m_ref9_walk_S_ok n
    exact ⟨fun a0 a1 a2 r h => m_ref9_walk_F_ok (m_ref9_walk_S n).1 ih.1 (m_ref9_walk_S n).2 ih.2 a0 a1 a2 r h, fun a0 a1 r h => m_ref9_order_F_ok (m_ref9_walk_S n).1 ih.1 (m_ref9_walk_S n).2 ih.2 a0 a1 r h⟩
theorem m_ref9_walk_ok (a0 : List UInt8) (a1 : Int) (a2 : Bool) (r : Int × (List (List UInt8)) × Int) (h : m_ref9_walk a0 a1 a2 = some r) : Pure Tryz.prog 51 [(.exact (.string (bs a0))), (.exact (.int .i64 a1)), (.exact (.bool a2))] (.tup [.exact (.int .i64 r.1), .row 1 zab r.2.1, .exact (.int .i64 r.2.2)]) := (m_ref9_walk_S_ok FU).1 a0 a1 a2 r h
theorem m_ref9_order_ok (a0 : List UInt8) (a1 : List UInt8) (r : Int) (h : m_ref9_order a0 a1 = some r) : Pure Tryz.prog 102 [(.exact (.string (bs a0))), (.exact (.string (bs a1)))] (.exact (.int .i64 r)) := (m_ref9_walk_S_ok FU).2 a0 a1 r h
set_option maxHeartbeats 4000000 in
theorem m_ref9_read_ok (a0 : List UInt8) (a1 : Int) (r : Int × (List (List UInt8)) × Int) (h : m_ref9_read a0 a1 = some r) : Pure Tryz.prog 72 [(.exact (.string (bs a0))), (.exact (.int .i64 a1))] (.tup [.exact (.int .i64 r.1), .row 1 zab r.2.1, .exact (.int .i64 r.2.2)]) := by
 unfold m_ref9_read at h
 refine Pure.ofFun (fun_of_awp Tryz.func72 rfl Tryz.ntmps72 (by simp) rfl (res3 rfl) fun E hE => k_end ?_)
 refine zac (kr ?_)
 refine qa (.xi 0) rfl ?_
 refine qa (.exact (.slice none 0 0)) rfl ?_
 refine qa (.xi 0) rfl ?_
 refine G_nil (zaa (zac (kr ?_)))
 refine qm (.xs a0) rfl ?_
 refine qm (.xi a1) rfl ?_
 obtain ⟨y1, hy1, h⟩ := bnd1_some h
 refine G_q rfl (zaf (m_ref9_walk_ok _ _ _ _ hy1) Tryz.func51 (by kernel_rfl) (LEs.cons (AV.le_eq rfl) (LEs.cons (AV.le_eq rfl) (LEs.cons (AV.le_eq rfl) LEs.nil))) ?_)
 refine G_q rfl (op_extract (av := .xi y1.1) rfl rfl ?_)
 refine G_q rfl (op_extract (av := .row 1 zab y1.2.1) rfl rfl ?_)
 refine G_q rfl (op_extract (av := .xi y1.2.2) rfl rfl ?_)
 refine qa (.xi y1.1) rfl ?_
 refine qa (.row 1 zab y1.2.1) rfl ?_
 refine qa (.xi y1.2.2) rfl ?_
 refine G_nil (zaa (k_ret ?_))
 obtain rfl := Option.some.inj h
 refine ke (pt (pt (pt AF0 4 (.xi y1.1)) 5 (.row 1 zab y1.2.1)) 6 (.xi y1.2.2)) [] rfl ?_ ⟨rfl, rfl⟩
 exact so (lq rfl (lq rfl (lq rfl lt0)))
set_option maxHeartbeats 4000000 in
theorem m_ref9_Valid_ok (a0 : List UInt8) (r : Bool) (h : m_ref9_Valid a0 = some r) : Pure Tryz.prog 50 [(.exact (.string (bs a0)))] (.exact (.bool r)) := by
 unfold m_ref9_Valid at h
 refine Pure.ofFun (fun_of_awp Tryz.func50 rfl Tryz.ntmps50 (by simp) rfl (res1 rfl) fun E hE => k_end ?_)
 refine zac (kr ?_)
 refine qa (.xb false) rfl ?_
 refine G_nil (zaa (zac (zac (kr ?_))))
 refine qm (.xs a0) rfl ?_
 refine G_q rfl (op_lenS (by kernel_rfl) rfl ?_)
 refine G_q rfl (op_gtr rfl rfl ?_)
 refine G_nil (zaa ?_)
 refine kd (p := 131072 < (List.length a0 : Int)) rfl h (fun hc h => ?_) (fun hc h => ?_)
 ·refine zac (kr ?_)
  refine qa (.xb false) rfl ?_
  refine G_nil (zaa (k_ret (kC_ret ?_)))
  obtain rfl := Option.some.inj h
  refine ke (pt AF0 2 (.xb false)) [] rfl ?_ ⟨rfl, rfl⟩
  exact so (lq rfl lt0)
 ·refine k_skip (zaa (zac (kr ?_)))
  refine qm (.xs a0) rfl ?_
  obtain ⟨y1, hy1, h⟩ := bnd1_some h
  refine G_q rfl (zaf (m_ref9_read_ok _ _ _ hy1) Tryz.func72 (by kernel_rfl) (LEs.cons (AV.le_eq rfl) (LEs.cons (AV.le_eq rfl) LEs.nil)) ?_)
  refine qm (.tup [.xi y1.1, .row 1 zab y1.2.1, .xi y1.2.2]) rfl ?_
  refine G_q rfl (op_extract (av := .xi y1.1) rfl rfl ?_)
  refine G_q rfl (op_extract (av := .row 1 zab y1.2.1) rfl rfl ?_)
  refine G_q rfl (op_extract (av := .xi y1.2.2) rfl rfl ?_)
  refine qa (.xi y1.1) rfl ?_
  refine qa (.row 1 zab y1.2.1) rfl ?_
  refine qa (.xi y1.2.2) rfl ?_
  refine G_nil (zaa ?_)
  refine k_join1_0 h (fun (x2_j2 : Bool) => (pt AF0 2 (.xb x2_j2))) (fun (x2_j2 : Bool) => []) (fun k2 h => ?_) (fun x2_j2 h => ?_)
  ·refine kr ?_
   refine qm (.xi y1.1) rfl ?_
   refine G_q rfl (op_gtr rfl rfl ?_)
   refine qm (.xb (decide (0 < y1.1))) rfl ?_
   refine G_split (p := 0 < y1.1) 17 rfl (fun hc => ?_) (fun hc => ?_)
   ·replace h := ite_t h hc
    refine Gy_q rfl rfl rfl (zag (av := .xi y1.1) rfl ?_)
    refine Gy_q rfl rfl rfl (zag (av := .xs a0) rfl ?_)
    refine Gy_q rfl rfl rfl (op_lenS (by kernel_rfl) rfl ?_)
    refine Gy_q rfl rfl rfl (op_eql rfl rfl ?_)
    refine G_q rfl (op_pick_t rfl (av := .xb (decide (y1.1 = (List.length a0 : Int)))) rfl ?_)
    refine qa (.xb (decide (y1.1 = (List.length a0 : Int)))) rfl ?_
    refine G_nil ?_
    refine zad ⟨_, h, ?_⟩
    exact so (lq rfl lt0)
   ·replace h := ite_f h hc
    refine G_n rfl rfl (G_n rfl rfl (G_n rfl rfl (G_n rfl rfl ?_)))
    refine G_q rfl (zak rfl (av := .xb false) rfl ?_)
    refine qa (.xb false) rfl ?_
    refine G_nil ?_
    refine zad ⟨_, h, ?_⟩
    exact so (lq rfl lt0)
  ·refine k_ret ?_
   obtain rfl := Option.some.inj h
   refine ke (pt AF0 2 (.xb x2_j2)) [] rfl ?_ ⟨rfl, rfl⟩
   exact so (lq rfl lt0)
end Go.Proofs.YtjlbdhicabgliaaGreat
/- The functions compute their models, by program. -/
namespace Go.Proofs.YtjlbdhicabgliaaGreat
open Go.RowKit
attribute [local irreducible] AV.exact AV.top AV.row AV.ptr AV.agg AV.tup AV.eptr AV.fn AV.nilq AV.nilqn opA opB opM opR Quiet Loud Reads wpG awp den Sub SubU Pure Fun vecI vecT boxI CellsAll CellsOf OneC LEs LEss
set_option maxRecDepth 100000

set_option maxHeartbeats 4000000 in
theorem m_ref9_all_ok (a0 : List (List UInt8)) (r : Bool) (h : m_ref9_all a0 = some r) : Pure Tryz.prog 24 [(.row 1 zab a0)] (.exact (.bool r)) := by
 unfold m_ref9_all at h
 refine Pure.ofFun (fun_of_awp Tryz.func24 rfl Tryz.ntmps24 (by simp) rfl (res1 rfl) fun E hE => k_end ?_)
 refine zac (kr ?_)
 refine qa (.xb false) rfl ?_
 refine G_nil (zaa ?_)
 refine k_join0_0 h (AF0) ([]) (fun k1 h => ?_) (fun  h => ?_)
 ·refine zac (kr ?_)
  refine qa (.xi 0) rfl ?_
  refine G_nil (zaa (k_block ?_))
  refine k_loop1_0 (m_ref9_all_L2 a0 k1) (m_ref9_all_B2 a0 k1) (fun _ => rfl) (fun m _ => rfl) h (fun (x3_l2 : Int) => (pt (pt AF0 0 (.row 1 zab a0)) 3 (.xi x3_l2))) (fun (x3_l2 : Int) => []) ?_ (fun rec2 x3_l2 h => ?_)
  ·exact so (lq rfl (lq rfl lt0))
  ·unfold m_ref9_all_B2 at h
   refine zac (zac (kr ?_))
   refine qm (.xi x3_l2) rfl ?_
   refine qm (.row 1 zab a0) rfl ?_
   refine G_q rfl (zai (by kernel_rfl) rfl ?_)
   refine G_q rfl (op_lss rfl rfl ?_)
   refine G_nil (zaa ?_)
   refine kd (p := x3_l2 < (List.length a0 : Int)) rfl h (fun hc h => ?_) (fun hc h => ?_)
   ·refine k_skip (zaa (zac (k_block (zac (kr ?_)))))
    refine qm (.row 1 zab a0) rfl ?_
    refine qm (.xi x3_l2) rfl ?_
    obtain ⟨n13, h⟩ := need_some h
    refine G_q rfl (zaj (by kernel_rfl) rfl rfl n13.1 n13.2 ?_)
    refine G_q rfl (op_load1p (a := .xs (gi a0 x3_l2)) (by kernel_rfl) rfl rfl ?_)
    obtain ⟨y14, hy14, h⟩ := bnd1_some h
    refine G_q rfl (zaf (m_ref9_Valid_ok _ _ hy14) Tryz.func50 (by kernel_rfl) (LEs.cons (AV.le_eq rfl) LEs.nil) ?_)
    refine G_q rfl (op_not rfl ?_)
    refine G_nil (zaa ?_)
    refine kb (p := !y14) rfl h (fun hc h => ?_) (fun hc h => ?_)
    ·refine zac (kr ?_)
     refine qa (.xb false) rfl ?_
     refine G_nil (zaa (k_ret (kB_ret (kC_ret (kI_ret (kB_ret (kI_ret ?_)))))))
     obtain rfl := Option.some.inj h
     refine ke (pt AF0 2 (.xb false)) [] rfl ?_ ⟨rfl, rfl⟩
     exact so (lq rfl lt0)
    ·refine k_skip (kB_normal (zaa (kr ?_)))
     refine qm (.xi x3_l2) rfl ?_
     refine G_q rfl (op_add rfl rfl rfl ?_)
     refine qa (.xi (i64 (x3_l2 + 1))) rfl ?_
     refine G_nil ?_
     refine zad ⟨_, h, ?_⟩
     exact so (lq rfl (lq rfl lt0))
   ·refine k_exit (kC_exit (kI_exit (kB_exit ?_)))
    refine zad ⟨h, ?_⟩
    exact Sub.of_le lt0
 ·refine zac (kr ?_)
  refine qa (.xb true) rfl ?_
  refine G_nil (zaa (k_ret ?_))
  obtain rfl := Option.some.inj h
  refine ke (pt AF0 2 (.xb true)) [] rfl ?_ ⟨rfl, rfl⟩
  exact so (lq rfl lt0)
set_option maxHeartbeats 4000000 in
theorem m_ref9_Compare_ok (a0 : List UInt8) (a1 : List UInt8) (r : Int) (h : m_ref9_Compare a0 a1 = some r) : Pure Tryz.prog 74 [(.exact (.string (bs a0))), (.exact (.string (bs a1)))] (.exact (.int .i64 r)) := by
 unfold m_ref9_Compare at h
 refine Pure.ofFun (fun_of_awp Tryz.func74 rfl Tryz.ntmps74 (by simp) rfl (res1 rfl) fun E hE => k_end ?_)
 refine zac (kr ?_)
 refine qa (.xi 0) rfl ?_
 refine G_nil (zaa (zac (kr ?_)))
 refine qm (.xs a0) rfl ?_
 obtain ⟨y1, hy1, h⟩ := bnd1_some h
 refine G_q rfl (zaf (m_ref9_Valid_ok _ _ hy1) Tryz.func50 (by kernel_rfl) (LEs.cons (AV.le_eq rfl) LEs.nil) ?_)
 refine qm (.xs a1) rfl ?_
 obtain ⟨y2, hy2, h⟩ := bnd1_some h
 refine G_q rfl (zaf (m_ref9_Valid_ok _ _ hy2) Tryz.func50 (by kernel_rfl) (LEs.cons (AV.le_eq rfl) LEs.nil) ?_)
 refine qa (.xb y1) rfl ?_
 refine qa (.xb y2) rfl ?_
 refine G_nil (zaa (zac (k_block ?_)))
 refine k_join1_0 h (fun (x11_j7 : Bool) => (pt (pt (pt (pt (pt AF0 0 (.xs a0)) 1 (.xs a1)) 5 (.xb y1)) 6 (.xb y2)) 11 (.xb x11_j7))) (fun (x11_j7 : Bool) => []) (fun k7 h => ?_) (fun x11_j7 h => ?_)
 ·refine kr ?_
  refine qm (.xb y1) rfl ?_
  refine qm (.xb y1) rfl ?_
  refine G_splitB (c := y1) 13 rfl (fun hc => ?_) (fun hc => ?_)
  ·replace h := ite_t h hc
   refine Gy_q rfl rfl rfl (zag (av := .xb y2) rfl ?_)
   refine G_q rfl (op_pick_t rfl (av := .xb y2) rfl ?_)
   refine qa (.xb y2) rfl ?_
   refine G_nil ?_
   refine zad ⟨_, h, ?_⟩
   exact so (l4 rfl rfl rfl rfl (lq rfl lt0))
  ·replace h := ite_f h hc
   refine G_n rfl rfl ?_
   refine G_q rfl (zak rfl (av := .xb false) rfl ?_)
   refine qa (.xb false) rfl ?_
   refine G_nil ?_
   refine zad ⟨_, h, ?_⟩
   exact so (l4 rfl rfl rfl rfl (lq rfl lt0))
 ·refine kb (p := x11_j7) rfl h (fun hc h => ?_) (fun hc h => ?_)
  ·refine zac (kr ?_)
   refine qm (.xs a0) rfl ?_
   refine qm (.xs a1) rfl ?_
   obtain ⟨y8, hy8, h⟩ := bnd1_some h
   refine G_q rfl (zaf (m_ref9_order_ok _ _ _ hy8) Tryz.func102 (by kernel_rfl) (LEs.cons (AV.le_eq rfl) (LEs.cons (AV.le_eq rfl) LEs.nil)) ?_)
   refine qa (.xi y8) rfl ?_
   refine G_nil (zaa (k_ret (kB_ret (kC_ret ?_))))
   obtain rfl := Option.some.inj h
   refine ke (pt AF0 4 (.xi y8)) [] rfl ?_ ⟨rfl, rfl⟩
   exact so (lq rfl lt0)
  ·refine zac (kr ?_)
   refine qm (.xb y1) rfl ?_
   refine qm (.xb y2) rfl ?_
   refine G_q rfl (op_neqB (a := y1) (b := y2) (by kernel_rfl) rfl rfl ?_)
   refine qa (.xb (decide (¬ y1 = y2))) rfl ?_
   refine G_nil (zaa ?_)
   refine kd (p := ¬ y1 = y2) rfl h (fun hc h => ?_) (fun hc h => ?_)
   ·refine zac (kr ?_)
    refine qm (.xb y2) rfl ?_
    refine qm (.xb y1) rfl ?_
    obtain ⟨y9, hy9, h⟩ := bnd1_some h
    refine G_q rfl (zaf (m_ref9_sign_ok _ _ _ hy9) Tryz.func103 (by kernel_rfl) (LEs.cons (AV.le_eq rfl) (LEs.cons (AV.le_eq rfl) LEs.nil)) ?_)
    refine qa (.xi y9) rfl ?_
    refine G_nil (zaa (k_ret (kB_ret (kC_ret ?_))))
    obtain rfl := Option.some.inj h
    refine ke (pt AF0 4 (.xi y9)) [] rfl ?_ ⟨rfl, rfl⟩
    exact so (lq rfl lt0)
   ·refine k_skip (kB_normal (zaa (zac (kr ?_))))
    refine qm (.xs a0) rfl ?_
    refine qm (.xs a1) rfl ?_
    refine G_q rfl (op_lssS rfl rfl ?_)
    refine qm (.xs a0) rfl ?_
    refine qm (.xs a1) rfl ?_
    refine G_q rfl (op_gtrS rfl rfl ?_)
    obtain ⟨y10, hy10, h⟩ := bnd1_some h
    refine G_q rfl (zaf (m_ref9_sign_ok _ _ _ hy10) Tryz.func103 (by kernel_rfl) (LEs.cons (AV.le_eq rfl) (LEs.cons (AV.le_eq rfl) LEs.nil)) ?_)
    refine qa (.xi y10) rfl ?_
    refine G_nil (zaa (k_ret ?_))
    obtain rfl := Option.some.inj h
    refine ke (pt AF0 4 (.xi y10)) [] rfl ?_ ⟨rfl, rfl⟩
    exact so (lq rfl lt0)
set_option maxHeartbeats 4000000 in
theorem m_ref9_Sort_ok (a0 : List (List UInt8)) (r : (List (List UInt8))) (h : m_ref9_Sort a0 = some r) : Pure Tryz.prog 26 [(.row 1 zab a0)] (.row 1 zab r) := by
 unfold m_ref9_Sort at h
 refine Pure.ofFun (fun_of_awp Tryz.func26 rfl Tryz.ntmps26 (by simp) rfl (res1 rfl) fun E hE => k_end ?_)
 refine zac (kr ?_)
 refine qa (.exact (.slice none 0 0)) rfl ?_
 refine G_nil (zaa (zac (kr ?_)))
 refine qa (.exact (.slice none 0 0)) rfl ?_
 refine G_nil (zaa ?_)
 refine k_join1_1 h (fun (x3_j1 : List (List UInt8)) (v3_j1 : Value) => (pt AF0 3 (.exact v3_j1))) (fun (x3_j1 : List (List UInt8)) (v3_j1 : Value) => [vecT Tryz.prog 23 1 zab v3_j1 x3_j1]) (fun k1 h => ?_) (fun x3_j1 v3_j1 h => ?_)
 ·refine zac (kr ?_)
  refine qa (.xi 0) rfl ?_
  refine G_nil (zaa (k_block ?_))
  refine k_loop2_1 (m_ref9_Sort_L14 a0 k1) (m_ref9_Sort_B14 a0 k1) (fun _ _ => rfl) (fun m _ _ => rfl) h (fun (x3_l14 : List (List UInt8)) (x4_l14 : Int) (v3_l14 : Value) => (pt (pt (pt AF0 0 (.row 1 zab a0)) 3 (.exact v3_l14)) 4 (.xi x4_l14))) (fun (x3_l14 : List (List UInt8)) (x4_l14 : Int) (v3_l14 : Value) => [vecT Tryz.prog 23 1 zab v3_l14 x3_l14]) (.slice none 0 0) ?_ (fun rec14 x3_l14 x4_l14 v3_l14 h => ?_)
  ·refine Sub.trans (SubU.to (SubU.nilT (P := Tryz.prog) (t := 23) (n := 1) (enc := zab))) ?_
   exact so (lq rfl (lq rfl (lq rfl lt0)))
  ·unfold m_ref9_Sort_B14 at h
   refine zac (zac (kr ?_))
   refine qm (.xi x4_l14) rfl ?_
   refine qm (.row 1 zab a0) rfl ?_
   refine G_q rfl (zai (by kernel_rfl) rfl ?_)
   refine G_q rfl (op_lss rfl rfl ?_)
   refine G_nil (zaa ?_)
   refine kd (p := x4_l14 < (List.length a0 : Int)) rfl h (fun hc h => ?_) (fun hc h => ?_)
   ·refine k_skip (zaa ?_)
    refine k_join1_1 h (fun (x3_j844 : List (List UInt8)) (v3_j844 : Value) => (pt (pt (pt AF0 0 (.row 1 zab a0)) 3 (.exact v3_j844)) 4 (.xi x4_l14))) (fun (x3_j844 : List (List UInt8)) (v3_j844 : Value) => [vecT Tryz.prog 23 1 zab v3_j844 x3_j844]) (fun k844 h => ?_) (fun x3_j844 v3_j844 h => ?_)
    ·refine k_block (zac (kr ?_))
     refine qm (.exact v3_l14) rfl ?_
     refine G_r rfl (op_len_vec (by kernel_rfl) rfl ?_)
     refine qa (.xi (List.length x3_l14 : Int)) rfl ?_
     refine G_nil (zaa ?_)
     refine k_join1_0 h (fun (x5_j955 : Int) => (pt (pt (pt (pt AF0 0 (.row 1 zab a0)) 3 (.exact v3_l14)) 4 (.xi x4_l14)) 5 (.xi x5_j955))) (fun (x5_j955 : Int) => [vecT Tryz.prog 23 1 zab v3_l14 x3_l14]) (fun k955 h => ?_) (fun x5_j955 h => ?_)
     ·refine k_block ?_
      refine k_loop1_0 (m_ref9_Sort_L26 a0 x3_l14 x4_l14 k955) (m_ref9_Sort_B26 a0 x3_l14 x4_l14 k955) (fun _ => rfl) (fun m _ => rfl) h (fun (x5_l26 : Int) => (pt (pt (pt (pt AF0 0 (.row 1 zab a0)) 3 (.exact v3_l14)) 4 (.xi x4_l14)) 5 (.xi x5_l26))) (fun (x5_l26 : Int) => [vecT Tryz.prog 23 1 zab v3_l14 x3_l14]) ?_ (fun rec26 x5_l26 h => ?_)
      ·exact so (l4 rfl rfl rfl rfl lt0)
      ·unfold m_ref9_Sort_B26 at h
       refine zac ?_
       refine k_join1_0 h (fun (x28_j1040 : Bool) => (pt (pt (pt (pt (pt AF0 0 (.row 1 zab a0)) 3 (.exact v3_l14)) 4 (.xi x4_l14)) 5 (.xi x5_l26)) 28 (.xb x28_j1040))) (fun (x28_j1040 : Bool) => [vecT Tryz.prog 23 1 zab v3_l14 x3_l14]) (fun k1040 h => ?_) (fun x28_j1040 h => ?_)
       ·refine k_plan [] [(0, 0), (0, 1), (0, 2), (0, 3), (0, 4), (0, 5), (0, 8), (0, 9), (0, 10), (0, 11), (1, 6), (1, 7), (0, 12), (0, 13), (0, 14)] hmixP (by kernel_rfl) ?_
        refine P_q no34_0 rfl (zag (av := .xi x5_l26) rfl ?_)
        refine P_q no34_0 rfl (op_gtr rfl rfl ?_)
        refine P_q no34_0 rfl (zag (av := .xb (decide (0 < x5_l26))) rfl ?_)
        refine P_split (p := 0 < x5_l26) 16 rfl (fun hc => ?_) (fun hc => ?_)
        ·replace h := ite_t h hc
         refine Py_q no34_0 rfl rfl rfl (zag (av := .exact v3_l14) rfl ?_)
         refine Py_q no34_0 rfl rfl rfl (zag (av := .xi x5_l26) rfl ?_)
         refine Py_q no34_0 rfl rfl rfl (op_sub rfl rfl rfl ?_)
         refine Py_q no34_0 rfl rfl rfl (zag (av := .row 1 zab a0) rfl ?_)
         refine Py_q no34_0 rfl rfl rfl (zag (av := .xi x4_l14) rfl ?_)
         obtain ⟨n1044, h⟩ := need_some h
         refine Py_q no34_0 rfl rfl rfl (zaj (by kernel_rfl) rfl rfl n1044.1 n1044.2 ?_)
         refine Py_q no34_0 rfl rfl rfl (op_load1p (a := .xs (gi a0 x4_l14)) (by kernel_rfl) rfl rfl ?_)
         obtain ⟨n1045, h⟩ := need_some h
         refine Py_r rfl rfl rfl (op_index_vec (by kernel_rfl) rfl rfl n1045.1 n1045.2 ?_)
         refine Py_r rfl rfl rfl (op_load_vec1 (i := i64 (x5_l26 - 1)) (o := 0) (a := .xs (gi x3_l14 (i64 (x5_l26 - 1)))) (by kernel_rfl) len_c_api_Value rfl n1045.1 n1045.2 rfl ?_)
         obtain ⟨y1046, hy1046, h⟩ := bnd1_some h
         refine Py_q no34_0 rfl rfl rfl (zaf (m_ref9_Compare_ok _ _ _ hy1046) Tryz.func74 (by kernel_rfl) (LEs.cons (AV.le_eq rfl) (LEs.cons (AV.le_eq rfl) LEs.nil)) ?_)
         refine Py_q no34_0 rfl rfl rfl (op_gtr rfl rfl ?_)
         refine P_q no34_0 rfl (op_pick_t rfl (av := .xb (decide (0 < y1046))) rfl ?_)
         refine P_nil ?_
         refine zad ⟨_, h, ?_⟩
         exact so (l4 rfl rfl rfl rfl (lq rfl lt0))
        ·replace h := ite_f h hc
         refine P_n no34_0 rfl rfl rfl ?_
         refine P_n no34_0 rfl rfl rfl ?_
         refine P_n no34_0 rfl rfl rfl ?_
         refine P_n no34_0 rfl rfl rfl ?_
         refine P_n no34_0 rfl rfl rfl ?_
         refine P_n no34_0 rfl rfl rfl ?_
         refine P_n no34_0 rfl rfl rfl ?_
         refine P_n no34_1 rfl rfl rfl ?_
         refine P_n no34_1 rfl rfl rfl ?_
         refine P_n no34_0 rfl rfl rfl ?_
         refine P_n no34_0 rfl rfl rfl ?_
         refine P_q no34_0 rfl (zak rfl (av := .xb false) rfl ?_)
         refine P_nil ?_
         refine zad ⟨_, h, ?_⟩
         exact so (l4 rfl rfl rfl rfl (lq rfl lt0))
       ·refine kb (p := x28_j1040) rfl h (fun hc h => ?_) (fun hc h => ?_)
        ·refine k_skip (zaa (k_block (kr ?_)))
         refine qm (.xi x5_l26) rfl ?_
         refine G_q rfl (op_sub rfl rfl rfl ?_)
         refine qa (.xi (i64 (x5_l26 - 1))) rfl ?_
         refine G_nil (kB_normal ?_)
         refine zad ⟨_, h, ?_⟩
         exact so (l4 rfl rfl rfl rfl lt0)
        ·refine k_exit (kC_exit (kI_exit (kB_exit ?_)))
         refine zad ⟨_, h, ?_⟩
         exact so (l4 rfl rfl rfl rfl lt0)
     ·refine zac ?_
      refine k_join1_0 h (fun (x44_j1053 : Bool) => (pt (pt (pt (pt (pt AF0 0 (.row 1 zab a0)) 3 (.exact v3_l14)) 4 (.xi x4_l14)) 5 (.xi x5_j955)) 44 (.xb x44_j1053))) (fun (x44_j1053 : Bool) => [vecT Tryz.prog 23 1 zab v3_l14 x3_l14]) (fun k1053 h => ?_) (fun x44_j1053 h => ?_)
      ·refine k_plan [] [(0, 0), (0, 1), (0, 2), (0, 3), (0, 4), (0, 5), (0, 8), (0, 9), (0, 10), (0, 11), (1, 6), (1, 7), (0, 12), (0, 13)] hmixP (by kernel_rfl) ?_
       refine P_q no34_0 rfl (zag (av := .xi x5_j955) rfl ?_)
       refine P_q no34_0 rfl (op_gtr rfl rfl ?_)
       refine P_q no34_0 rfl (zag (av := .xb (decide (0 < x5_j955))) rfl ?_)
       refine P_split (p := 0 < x5_j955) 33 rfl (fun hc => ?_) (fun hc => ?_)
       ·replace h := ite_t h hc
        refine Py_q no34_0 rfl rfl rfl (zag (av := .exact v3_l14) rfl ?_)
        refine Py_q no34_0 rfl rfl rfl (zag (av := .xi x5_j955) rfl ?_)
        refine Py_q no34_0 rfl rfl rfl (op_sub rfl rfl rfl ?_)
        refine Py_q no34_0 rfl rfl rfl (zag (av := .row 1 zab a0) rfl ?_)
        refine Py_q no34_0 rfl rfl rfl (zag (av := .xi x4_l14) rfl ?_)
        obtain ⟨n1056, h⟩ := need_some h
        refine Py_q no34_0 rfl rfl rfl (zaj (by kernel_rfl) rfl rfl n1056.1 n1056.2 ?_)
        refine Py_q no34_0 rfl rfl rfl (op_load1p (a := .xs (gi a0 x4_l14)) (by kernel_rfl) rfl rfl ?_)
        obtain ⟨n1057, h⟩ := need_some h
        refine Py_r rfl rfl rfl (op_index_vec (by kernel_rfl) rfl rfl n1057.1 n1057.2 ?_)
        refine Py_r rfl rfl rfl (op_load_vec1 (i := i64 (x5_j955 - 1)) (o := 0) (a := .xs (gi x3_l14 (i64 (x5_j955 - 1)))) (by kernel_rfl) len_c_api_Value rfl n1057.1 n1057.2 rfl ?_)
        refine Py_q no34_0 rfl rfl rfl (op_eqlS rfl rfl ?_)
        refine P_q no34_0 rfl (op_pick_t rfl (av := .xb (decide ((gi x3_l14 (i64 (x5_j955 - 1))) = (gi a0 x4_l14)))) rfl ?_)
        refine P_nil ?_
        refine zad ⟨_, h, ?_⟩
        exact so (l4 rfl rfl rfl rfl (lq rfl lt0))
       ·replace h := ite_f h hc
        refine P_n no34_0 rfl rfl rfl ?_
        refine P_n no34_0 rfl rfl rfl ?_
        refine P_n no34_0 rfl rfl rfl ?_
        refine P_n no34_0 rfl rfl rfl ?_
        refine P_n no34_0 rfl rfl rfl ?_
        refine P_n no34_0 rfl rfl rfl ?_
        refine P_n no34_0 rfl rfl rfl ?_
        refine P_n no34_1 rfl rfl rfl ?_
        refine P_n no34_1 rfl rfl rfl ?_
        refine P_n no34_0 rfl rfl rfl ?_
        refine P_q no34_0 rfl (zak rfl (av := .xb false) rfl ?_)
        refine P_nil ?_
        refine zad ⟨_, h, ?_⟩
        exact so (l4 rfl rfl rfl rfl (lq rfl lt0))
      ·refine kb (p := x44_j1053) rfl h (fun hc h => ?_) (fun hc h => ?_)
       ·refine k_exit (kC_exit (kB_exit ?_))
        refine zad ⟨_, v3_l14, h, ?_⟩
        exact so (lq rfl (lq rfl (lq rfl lt0)))
       ·refine k_skip (zaa (zac (kr ?_)))
        refine qm (.exact v3_l14) rfl ?_
        refine G_q rfl (op_litT (n := 1) (enc := zab) [([] : List UInt8)] (CellsAll.cons rfl CellsOf.str CellsAll.nil) rfl (by kernel_rfl) (LEss.cons (LEs.cons (AV.le_eq rfl) LEs.nil) LEss.nil) ?_)
        obtain ⟨n1058, h⟩ := need_some h
        refine G_l rfl (op_appT (by kernel_rfl) rfl rfl oc_c_api_Value n1058 (fun v1059 => ?_))
        refine qa (.exact v1059) rfl ?_
        refine G_nil (zaa (zac ?_))
        refine k_plan [] [(0, 0), (0, 1), (0, 2), (0, 4), (0, 5), (1, 3), (1, 6), (2, 7)] hmixP (by kernel_rfl) ?_
        refine P_q no34_0 rfl (zag (av := .exact v1059) rfl ?_)
        refine P_q no34_0 rfl (zag (av := .xi x5_j955) rfl ?_)
        refine P_q no34_0 rfl (op_add rfl rfl rfl ?_)
        refine P_q no34_0 rfl (zag (av := .exact v1059) rfl ?_)
        refine P_q no34_0 rfl (zag (av := .xi x5_j955) rfl ?_)
        obtain ⟨n1060, h⟩ := need_some h
        refine P_r rfl (op_slice_vec (by kernel_rfl) rfl (bnd_some rfl) bnd_none n1060.1 n1060.2.1 n1060.2.2 ?_)
        obtain ⟨n1061, h⟩ := need_some h
        refine P_r rfl (op_slice_vec (by kernel_rfl) rfl (bnd_some rfl) bnd_none n1061.1 n1061.2.1 n1061.2.2 ?_)
        refine P_l rfl (op_copy (q := (Nat.min (Int.toNat (List.length (x3_l14 ++ ([([] : List UInt8)])) : Int) - Int.toNat x5_j955) (Int.toNat (List.length (x3_l14 ++ ([([] : List UInt8)])) : Int) - Int.toNat (i64 (x5_j955 + 1))))) (by kernel_rfl) (by kernel_rfl) len_c_api_Value oc_c_api_Value rfl rfl (by have hh := n1060; first | omega | (simp only [i64] at hh; omega) | (simp only [i64] at hh ⊢; omega)) (by have hh := n1061; first | omega | (simp only [i64] at hh; omega) | (simp only [i64] at hh ⊢; omega)) rfl ?_)
        refine P_nil (zaa (kr ?_))
        refine qm (.exact v1059) rfl ?_
        refine qm (.xi x5_j955) rfl ?_
        refine qm (.row 1 zab a0) rfl ?_
        refine qm (.xi x4_l14) rfl ?_
        obtain ⟨n1062, h⟩ := need_some h
        refine G_q rfl (zaj (by kernel_rfl) rfl rfl n1062.1 n1062.2 ?_)
        refine G_q rfl (op_load1p (a := .xs (gi a0 x4_l14)) (by kernel_rfl) rfl rfl ?_)
        obtain ⟨n1063, h⟩ := need_some h
        refine G_r rfl (op_index_vec (by kernel_rfl) rfl rfl n1063.1 n1063.2 ?_)
        refine G_l rfl (op_store_vec (i := x5_j955) (o := 0) (z := gi a0 x4_l14) (c' := [.xs (gi a0 x4_l14)]) (by kernel_rfl) len_c_api_Value rfl n1063.1 n1063.2 rfl CellsOf.str (LEs.cons (AV.le_eq rfl) LEs.nil) (OneC.str OneC.nil) (by kernel_rfl) (Nat.le_of_ble_eq_true rfl) rfl ?_)
        refine G_nil (kB_normal ?_)
        refine zad ⟨_, v1059, h, ?_⟩
        exact so (lq rfl (lq rfl (lq rfl lt0)))
    ·refine kr ?_
     refine qm (.xi x4_l14) rfl ?_
     refine G_q rfl (op_add rfl rfl rfl ?_)
     refine qa (.xi (i64 (x4_l14 + 1))) rfl ?_
     refine G_nil ?_
     refine zad ⟨_, _, v3_j844, h, ?_⟩
     exact so (lq rfl (lq rfl (lq rfl lt0)))
   ·refine k_exit (kC_exit (kI_exit (kB_exit ?_)))
    refine zad ⟨_, v3_l14, h, ?_⟩
    exact so (lq rfl lt0)
 ·refine zac (kr ?_)
  refine qm (.exact v3_j1) rfl ?_
  refine qa (.exact v3_j1) rfl ?_
  refine G_nil (zaa (k_ret ?_))
  obtain rfl := Option.some.inj h
  refine ke (pt AF0 2 (.row 1 zab x3_j1)) [] rfl ?_ ⟨rfl, rfl⟩
  refine Sub.trans (SubU.to (SubU.freezeT (s := 2) rfl len_c_api_Value)) ?_
  exact so (lq rfl lt0)
set_option maxHeartbeats 4000000 in
theorem m_ref9_two_ok (a0 : Int) (r : (List UInt8)) (h : m_ref9_two a0 = some r) : Pure Tryz.prog 71 [(.exact (.int .i64 a0))] (.exact (.string (bs r))) := by
 unfold m_ref9_two at h
 refine Pure.ofFun (fun_of_awp Tryz.func71 rfl Tryz.ntmps71 (by simp) rfl (res1 rfl) fun E hE => k_end ?_)
 refine zac (kr ?_)
 refine qa (.xs ([] : List UInt8)) rfl ?_
 refine G_nil (zaa (zac (kr ?_)))
 refine qm (.xi a0) rfl ?_
 refine G_q rfl (op_shr rfl rfl (by decide) rfl ?_)
 refine G_q rfl (op_convInt (k := .u8) (r := (UInt8.toNat (u8i (Int.fdiv a0 (2 ^ min (Int.toNat 8) IntKind.i64.bits))) : Int)) (by kernel_rfl) rfl (u8i_eq _) ?_)
 refine qm (.xi a0) rfl ?_
 refine G_q rfl (op_convInt (k := .u8) (r := (UInt8.toNat (u8i a0) : Int)) (by kernel_rfl) rfl (u8i_eq _) ?_)
 refine G_q rfl (op_litT (n := 1) (enc := c_uint8) [u8i (Int.fdiv a0 (2 ^ min (Int.toNat 8) IntKind.i64.bits)), u8i a0] (CellsAll.cons rfl CellsOf.int (CellsAll.cons rfl CellsOf.int CellsAll.nil)) rfl (by kernel_rfl) (LEss.cons (LEs.cons (AV.le_eq rfl) LEs.nil) (LEss.cons (LEs.cons (AV.le_eq rfl) LEs.nil) LEss.nil)) ?_)
 refine G_q rfl (op_bytesS rfl (by kernel_rfl) rfl ?_)
 refine qa (.exact (.string (bs [u8i (Int.fdiv a0 (2 ^ min (Int.toNat 8) IntKind.i64.bits)), u8i a0]))) rfl ?_
 refine G_nil (zaa (k_ret ?_))
 obtain rfl := Option.some.inj h
 refine ke (pt AF0 2 (.exact (.string (bs [u8i (Int.fdiv a0 (2 ^ min (Int.toNat 8) IntKind.i64.bits)), u8i a0])))) [] rfl ?_ ⟨rfl, rfl⟩
 exact so (lq rfl lt0)
set_option maxHeartbeats 4000000 in
theorem m_ref9_checked_ok (a0 : List UInt8) (r : (List UInt8)) (h : m_ref9_checked a0 = some r) : Pure Tryz.prog 73 [(.exact (.string (bs a0)))] (.exact (.string (bs r))) := by
 unfold m_ref9_checked at h
 refine Pure.ofFun (fun_of_awp Tryz.func73 rfl Tryz.ntmps73 (by simp) rfl (res1 rfl) fun E hE => k_end ?_)
 refine zac (kr ?_)
 refine qa (.xs ([] : List UInt8)) rfl ?_
 refine G_nil (zaa (zac (zac (kr ?_))))
 refine qm (.xs a0) rfl ?_
 obtain ⟨y1, hy1, h⟩ := bnd1_some h
 refine G_q rfl (zaf (m_ref9_Valid_ok _ _ hy1) Tryz.func50 (by kernel_rfl) (LEs.cons (AV.le_eq rfl) LEs.nil) ?_)
 refine G_nil (zaa ?_)
 refine kb (p := y1) rfl h (fun hc h => ?_) (fun hc h => ?_)
 ·refine zac (kr ?_)
  refine qm (.xs a0) rfl ?_
  refine qa (.xs a0) rfl ?_
  refine G_nil (zaa (k_ret (kC_ret ?_)))
  obtain rfl := Option.some.inj h
  refine ke (pt AF0 2 (.xs a0)) [] rfl ?_ ⟨rfl, rfl⟩
  exact so (lq rfl lt0)
 ·refine k_skip (zaa (zac (kr ?_)))
  refine qa (.xs ([] : List UInt8)) rfl ?_
  refine G_nil (zaa (k_ret ?_))
  obtain rfl := Option.some.inj h
  refine ke (pt AF0 2 (.xs ([] : List UInt8))) [] rfl ?_ ⟨rfl, rfl⟩
  exact so (lq rfl lt0)
set_option maxHeartbeats 4000000 in
theorem m_ref9_compound_ok (a0 : Int) (a1 : List (List UInt8)) (r : (List UInt8)) (h : m_ref9_compound a0 a1 = some r) : Pure Tryz.prog 25 [(.exact (.int .i64 a0)), (.row 1 zab a1)] (.exact (.string (bs r))) := by
 unfold m_ref9_compound at h
 refine Pure.ofFun (fun_of_awp Tryz.func25 rfl Tryz.ntmps25 (by simp) rfl (res1 rfl) fun E hE => k_end ?_)
 refine zac (kr ?_)
 refine qa (.xs ([] : List UInt8)) rfl ?_
 refine G_nil (zaa (zac (zac (kr ?_))))
 refine qm (.row 1 zab a1) rfl ?_
 refine G_q rfl (zai (by kernel_rfl) rfl ?_)
 refine G_q rfl (op_gtr rfl rfl ?_)
 refine G_nil (zaa ?_)
 refine kd (p := 65535 < (List.length a1 : Int)) rfl h (fun hc h => ?_) (fun hc h => ?_)
 ·refine zac (kr ?_)
  refine qa (.xs ([] : List UInt8)) rfl ?_
  refine G_nil (zaa (k_ret (kC_ret ?_)))
  obtain rfl := Option.some.inj h
  refine ke (pt AF0 4 (.xs ([] : List UInt8))) [] rfl ?_ ⟨rfl, rfl⟩
  exact so (lq rfl lt0)
 ·refine k_skip (zaa (zac ?_))
  refine k_plan [] [(0, 0), (0, 1), (0, 2), (0, 3), (0, 4), (0, 5), (0, 6), (0, 7), (0, 8)] hmixP (by kernel_rfl) ?_
  refine P_q no34_0 rfl (zag (av := .xi a0) rfl ?_)
  refine P_q no34_0 rfl (op_convInt (k := .u8) (r := (UInt8.toNat (u8i a0) : Int)) (by kernel_rfl) rfl (u8i_eq _) ?_)
  refine P_q no34_0 rfl (op_litT (n := 1) (enc := c_uint8) [u8i a0] (CellsAll.cons rfl CellsOf.int CellsAll.nil) rfl (by kernel_rfl) (LEss.cons (LEs.cons (AV.le_eq rfl) LEs.nil) LEss.nil) ?_)
  refine P_q no34_0 rfl (op_bytesS rfl (by kernel_rfl) rfl ?_)
  refine P_q no34_0 rfl (zag (av := .row 1 zab a1) rfl ?_)
  refine P_q no34_0 rfl (zai (by kernel_rfl) rfl ?_)
  obtain ⟨y1, hy1, h⟩ := bnd1_some h
  refine P_q no34_0 rfl (zaf (m_ref9_two_ok _ _ hy1) Tryz.func71 (by kernel_rfl) (LEs.cons (AV.le_eq rfl) LEs.nil) ?_)
  obtain ⟨n2, h⟩ := need_some h
  refine P_q no34_0 rfl (op_addS n2 rfl rfl ?_)
  refine P_q no34_0 rfl (op_assign (av := .xs ([u8i a0] ++ y1)) rfl ?_)
  refine P_nil (zaa ?_)
  refine k_join1_0 h (fun (x5_j3 : List UInt8) => (pt (pt AF0 1 (.row 1 zab a1)) 5 (.xs x5_j3))) (fun (x5_j3 : List UInt8) => []) (fun k3 h => ?_) (fun x5_j3 h => ?_)
  ·refine zac (kr ?_)
   refine qa (.xi 0) rfl ?_
   refine G_nil (zaa (k_block ?_))
   refine k_loop2_0 (m_ref9_compound_L2 a1 k3) (m_ref9_compound_B2 a1 k3) (fun _ _ => rfl) (fun m _ _ => rfl) h (fun (x5_l2 : List UInt8) (x6_l2 : Int) => (pt (pt (pt AF0 1 (.row 1 zab a1)) 5 (.xs x5_l2)) 6 (.xi x6_l2))) (fun (x5_l2 : List UInt8) (x6_l2 : Int) => []) ?_ (fun rec2 x5_l2 x6_l2 h => ?_)
   ·exact so (lq rfl (lq rfl (lq rfl lt0)))
   ·unfold m_ref9_compound_B2 at h
    refine zac (zac (kr ?_))
    refine qm (.xi x6_l2) rfl ?_
    refine qm (.row 1 zab a1) rfl ?_
    refine G_q rfl (zai (by kernel_rfl) rfl ?_)
    refine G_q rfl (op_lss rfl rfl ?_)
    refine G_nil (zaa ?_)
    refine kd (p := x6_l2 < (List.length a1 : Int)) rfl h (fun hc h => ?_) (fun hc h => ?_)
    ·refine k_skip (zaa (zac (k_block (zac ?_))))
     refine k_join1_0 h (fun (x36_j114 : Bool) => (pt (pt (pt (pt AF0 1 (.row 1 zab a1)) 5 (.xs x5_l2)) 6 (.xi x6_l2)) 36 (.xb x36_j114))) (fun (x36_j114 : Bool) => []) (fun k114 h => ?_) (fun x36_j114 h => ?_)
     ·refine kr ?_
      refine qm (.row 1 zab a1) rfl ?_
      refine qm (.xi x6_l2) rfl ?_
      obtain ⟨n116, h⟩ := need_some h
      refine G_q rfl (zaj (by kernel_rfl) rfl rfl n116.1 n116.2 ?_)
      refine G_q rfl (op_load1p (a := .xs (gi a1 x6_l2)) (by kernel_rfl) rfl rfl ?_)
      refine G_q rfl (op_eqlS rfl rfl ?_)
      refine qm (.xb (decide ((gi a1 x6_l2) = ([] : List UInt8)))) rfl ?_
      refine G_split (p := (gi a1 x6_l2) = ([] : List UInt8)) 32 rfl (fun hc => ?_) (fun hc => ?_)
      ·replace h := ite_t h hc
       refine G_n rfl rfl (G_n rfl rfl (G_n rfl rfl ?_))
       refine G_q rfl (op_pick_t rfl (av := .xb true) rfl ?_)
       refine G_nil ?_
       refine zad ⟨_, h, ?_⟩
       exact so (l4 rfl rfl rfl rfl lt0)
      ·replace h := ite_f h hc
       refine Gy_q rfl rfl rfl (zag (av := .xs x5_l2) rfl ?_)
       refine Gy_q rfl rfl rfl (op_lenS (by kernel_rfl) rfl ?_)
       refine Gy_q rfl rfl rfl (op_gtr rfl rfl ?_)
       refine G_q rfl (zak rfl (av := .xb (decide (131072 < (List.length x5_l2 : Int)))) rfl ?_)
       refine G_nil ?_
       refine zad ⟨_, h, ?_⟩
       exact so (l4 rfl rfl rfl rfl lt0)
     ·refine kb (p := x36_j114) rfl h (fun hc h => ?_) (fun hc h => ?_)
      ·refine zac (kr ?_)
       refine qa (.xs ([] : List UInt8)) rfl ?_
       refine G_nil (zaa (k_ret (kC_ret (kB_ret (kC_ret (kI_ret (kB_ret (kI_ret ?_))))))))
       obtain rfl := Option.some.inj h
       refine ke (pt AF0 4 (.xs ([] : List UInt8))) [] rfl ?_ ⟨rfl, rfl⟩
       exact so (lq rfl lt0)
      ·refine k_skip (zaa (kr ?_))
       refine qm (.xs x5_l2) rfl ?_
       refine qm (.row 1 zab a1) rfl ?_
       refine qm (.xi x6_l2) rfl ?_
       obtain ⟨n117, h⟩ := need_some h
       refine G_q rfl (zaj (by kernel_rfl) rfl rfl n117.1 n117.2 ?_)
       refine G_q rfl (op_load1p (a := .xs (gi a1 x6_l2)) (by kernel_rfl) rfl rfl ?_)
       obtain ⟨n118, h⟩ := need_some h
       refine G_q rfl (op_addS n118 rfl rfl ?_)
       refine qa (.xs (x5_l2 ++ (gi a1 x6_l2))) rfl ?_
       refine G_nil (kB_normal (zaa (kr ?_)))
       refine qm (.xi x6_l2) rfl ?_
       refine G_q rfl (op_add rfl rfl rfl ?_)
       refine qa (.xi (i64 (x6_l2 + 1))) rfl ?_
       refine G_nil ?_
       refine zad ⟨_, _, h, ?_⟩
       exact so (lq rfl (lq rfl (lq rfl lt0)))
    ·refine k_exit (kC_exit (kI_exit (kB_exit ?_)))
     refine zad ⟨_, h, ?_⟩
     exact so (lq rfl (lq rfl lt0))
  ·refine zac (zac (kr ?_))
   refine qm (.xs x5_j3) rfl ?_
   obtain ⟨y122, hy122, h⟩ := bnd1_some h
   refine G_q rfl (zaf (m_ref9_read_ok _ _ _ hy122) Tryz.func72 (by kernel_rfl) (LEs.cons (AV.le_eq rfl) (LEs.cons (AV.le_eq rfl) LEs.nil)) ?_)
   refine qm (.tup [.xi y122.1, .row 1 zab y122.2.1, .xi y122.2.2]) rfl ?_
   refine G_q rfl (op_extract (av := .xi y122.1) rfl rfl ?_)
   refine G_q rfl (op_extract (av := .row 1 zab y122.2.1) rfl rfl ?_)
   refine G_q rfl (op_extract (av := .xi y122.2.2) rfl rfl ?_)
   refine qa (.xi y122.1) rfl ?_
   refine qa (.row 1 zab y122.2.1) rfl ?_
   refine qa (.xi y122.2.2) rfl ?_
   refine G_nil (zaa ?_)
   refine k_join1_0 h (fun (x59_j123 : Bool) => (pt (pt AF0 5 (.xs x5_j3)) 59 (.xb x59_j123))) (fun (x59_j123 : Bool) => []) (fun k123 h => ?_) (fun x59_j123 h => ?_)
   ·refine kr ?_
    refine qm (.xi y122.1) rfl ?_
    refine qm (.xs x5_j3) rfl ?_
    refine G_q rfl (op_lenS (by kernel_rfl) rfl ?_)
    refine G_q rfl (op_neq rfl rfl ?_)
    refine qm (.xb (decide (¬ y122.1 = (List.length x5_j3 : Int)))) rfl ?_
    refine G_split (p := ¬ y122.1 = (List.length x5_j3 : Int)) 53 rfl (fun hc => ?_) (fun hc => ?_)
    ·replace h := ite_t h hc
     refine G_n rfl rfl (G_n rfl rfl (G_n rfl rfl (G_n rfl rfl (G_n rfl rfl ?_))))
     refine G_q rfl (op_pick_t rfl (av := .xb true) rfl ?_)
     refine G_nil ?_
     refine zad ⟨_, h, ?_⟩
     exact so (lq rfl (lq rfl lt0))
    ·replace h := ite_f h hc
     refine Gy_q rfl rfl rfl (zag (av := .row 1 zab y122.2.1) rfl ?_)
     refine Gy_q rfl rfl rfl (zai (by kernel_rfl) rfl ?_)
     refine Gy_q rfl rfl rfl (zag (av := .row 1 zab a1) rfl ?_)
     refine Gy_q rfl rfl rfl (zai (by kernel_rfl) rfl ?_)
     refine Gy_q rfl rfl rfl (op_neq rfl rfl ?_)
     refine G_q rfl (zak rfl (av := .xb (decide (¬ (List.length y122.2.1 : Int) = (List.length a1 : Int)))) rfl ?_)
     refine G_nil ?_
     refine zad ⟨_, h, ?_⟩
     exact so (lq rfl (lq rfl lt0))
   ·refine kb (p := x59_j123) rfl h (fun hc h => ?_) (fun hc h => ?_)
    ·refine zac (kr ?_)
     refine qa (.xs ([] : List UInt8)) rfl ?_
     refine G_nil (zaa (k_ret (kC_ret ?_)))
     obtain rfl := Option.some.inj h
     refine ke (pt AF0 4 (.xs ([] : List UInt8))) [] rfl ?_ ⟨rfl, rfl⟩
     exact so (lq rfl lt0)
    ·refine k_skip (zaa (zac (kr ?_)))
     refine qm (.xs x5_j3) rfl ?_
     obtain ⟨y124, hy124, h⟩ := bnd1_some h
     refine G_q rfl (zaf (m_ref9_checked_ok _ _ hy124) Tryz.func73 (by kernel_rfl) (LEs.cons (AV.le_eq rfl) LEs.nil) ?_)
     refine qa (.xs y124) rfl ?_
     refine G_nil (zaa (k_ret ?_))
     obtain rfl := Option.some.inj h
     refine ke (pt AF0 4 (.xs y124)) [] rfl ?_ ⟨rfl, rfl⟩
     exact so (lq rfl lt0)
set_option maxHeartbeats 4000000 in
theorem m_ref9_Set_ok (a0 : List (List UInt8)) (r : (List UInt8)) (h : m_ref9_Set a0 = some r) : Pure Tryz.prog 6 [(.row 1 zab a0)] (.exact (.string (bs r))) := by
 unfold m_ref9_Set at h
 refine Pure.ofFun (fun_of_awp Tryz.func6 rfl Tryz.ntmps6 (by simp) rfl (res1 rfl) fun E hE => k_end ?_)
 refine zac (kr ?_)
 refine qa (.xs ([] : List UInt8)) rfl ?_
 refine G_nil (zaa (zac (zac (kr ?_))))
 refine qm (.row 1 zab a0) rfl ?_
 obtain ⟨y1, hy1, h⟩ := bnd1_some h
 refine G_q rfl (zaf (m_ref9_all_ok _ _ hy1) Tryz.func24 (by kernel_rfl) (LEs.cons (AV.le_eq rfl) LEs.nil) ?_)
 refine G_q rfl (op_not rfl ?_)
 refine G_nil (zaa ?_)
 refine kb (p := !y1) rfl h (fun hc h => ?_) (fun hc h => ?_)
 ·refine zac (kr ?_)
  refine qa (.xs ([] : List UInt8)) rfl ?_
  refine G_nil (zaa (k_ret (kC_ret ?_)))
  obtain rfl := Option.some.inj h
  refine ke (pt AF0 2 (.xs ([] : List UInt8))) [] rfl ?_ ⟨rfl, rfl⟩
  exact so (lq rfl lt0)
 ·refine k_skip (zaa (zac (kr ?_)))
  refine qm (.row 1 zab a0) rfl ?_
  obtain ⟨y2, hy2, h⟩ := bnd1_some h
  refine G_q rfl (zaf (m_ref9_Sort_ok _ _ hy2) Tryz.func26 (by kernel_rfl) (LEs.cons (AV.le_eq rfl) LEs.nil) ?_)
  obtain ⟨y3, hy3, h⟩ := bnd1_some h
  refine G_q rfl (zaf (m_ref9_compound_ok _ _ _ hy3) Tryz.func25 (by kernel_rfl) (LEs.cons (AV.le_eq rfl) (LEs.cons (AV.le_eq rfl) LEs.nil)) ?_)
  refine qa (.xs y3) rfl ?_
  refine G_nil (zaa (k_ret ?_))
  obtain rfl := Option.some.inj h
  refine ke (pt AF0 2 (.xs y3)) [] rfl ?_ ⟨rfl, rfl⟩
  exact so (lq rfl lt0)
set_option maxHeartbeats 4000000 in
theorem m_ref9_Name_ok (a0 : Int) (r : (List UInt8)) (h : m_ref9_Name a0 = some r) : Pure Tryz.prog 29 [(.exact (.int .i64 a0))] (.exact (.string (bs r))) := by
 unfold m_ref9_Name at h
 refine Pure.ofFun (fun_of_awp Tryz.func29 rfl Tryz.ntmps29 (by simp) rfl (res1 rfl) fun E hE => k_end ?_)
 refine zac (kr ?_)
 refine qa (.xs ([] : List UInt8)) rfl ?_
 refine G_nil (zaa (zac ?_))
 refine k_join1_0 h (fun (x8_j3 : Bool) => (pt (pt AF0 0 (.xi a0)) 8 (.xb x8_j3))) (fun (x8_j3 : Bool) => []) (fun k3 h => ?_) (fun x8_j3 h => ?_)
 ·refine kr ?_
  refine qm (.xi a0) rfl ?_
  refine G_q rfl (op_lss rfl rfl ?_)
  refine qm (.xb (decide (a0 < 0))) rfl ?_
  refine G_split (p := a0 < 0) 5 rfl (fun hc => ?_) (fun hc => ?_)
  ·replace h := ite_t h hc
   refine G_n rfl rfl (G_n rfl rfl ?_)
   refine G_q rfl (op_pick_t rfl (av := .xb true) rfl ?_)
   refine G_nil ?_
   refine zad ⟨_, h, ?_⟩
   exact so (lq rfl (lq rfl lt0))
  ·replace h := ite_f h hc
   refine Gy_q rfl rfl rfl (zag (av := .xi a0) rfl ?_)
   refine Gy_q rfl rfl rfl (op_gtr rfl rfl ?_)
   refine G_q rfl (zak rfl (av := .xb (decide (65535 < a0))) rfl ?_)
   refine G_nil ?_
   refine zad ⟨_, h, ?_⟩
   exact so (lq rfl (lq rfl lt0))
 ·refine kb (p := x8_j3) rfl h (fun hc h => ?_) (fun hc h => ?_)
  ·refine zac (kr ?_)
   refine qa (.xs ([] : List UInt8)) rfl ?_
   refine G_nil (zaa (k_ret (kC_ret ?_)))
   obtain rfl := Option.some.inj h
   refine ke (pt AF0 2 (.xs ([] : List UInt8))) [] rfl ?_ ⟨rfl, rfl⟩
   exact so (lq rfl lt0)
  ·refine k_skip (zaa (zac ?_))
   refine k_plan [] [(0, 0), (0, 1), (0, 2), (0, 3), (0, 4), (0, 5)] hmixP (by kernel_rfl) ?_
   refine P_q no34_0 rfl (op_litT (n := 1) (enc := c_uint8) [10] (CellsAll.cons rfl CellsOf.int CellsAll.nil) rfl (by kernel_rfl) (LEss.cons (LEs.cons (AV.le_eq rfl) LEs.nil) LEss.nil) ?_)
   refine P_q no34_0 rfl (op_bytesS rfl (by kernel_rfl) rfl ?_)
   refine P_q no34_0 rfl (zag (av := .xi a0) rfl ?_)
   obtain ⟨y4, hy4, h⟩ := bnd1_some h
   refine P_q no34_0 rfl (zaf (m_ref9_two_ok _ _ hy4) Tryz.func71 (by kernel_rfl) (LEs.cons (AV.le_eq rfl) LEs.nil) ?_)
   obtain ⟨n5, h⟩ := need_some h
   refine P_q no34_0 rfl (op_addS n5 rfl rfl ?_)
   refine P_q no34_0 rfl (op_assign (av := .xs ([10] ++ y4)) rfl ?_)
   refine P_nil (zaa (k_ret ?_))
   obtain rfl := Option.some.inj h
   refine ke (pt AF0 2 (.xs ([10] ++ y4))) [] rfl ?_ ⟨rfl, rfl⟩
   exact so (lq rfl lt0)
set_option maxHeartbeats 4000000 in
theorem m_ref9_Make_ok (a0 : Int) (a1 : List (List UInt8)) (r : (List UInt8)) (h : m_ref9_Make a0 a1 = some r) : Pure Tryz.prog 28 [(.exact (.int .i64 a0)), (.row 1 zab a1)] (.exact (.string (bs r))) := by
 unfold m_ref9_Make at h
 refine Pure.ofFun (fun_of_awp Tryz.func28 rfl Tryz.ntmps28 (by simp) rfl (res1 rfl) fun E hE => k_end ?_)
 refine zac (kr ?_)
 refine qa (.xs ([] : List UInt8)) rfl ?_
 refine G_nil (zaa (zac (zac (kr ?_))))
 refine qm (.row 1 zab a1) rfl ?_
 obtain ⟨y1, hy1, h⟩ := bnd1_some h
 refine G_q rfl (zaf (m_ref9_all_ok _ _ hy1) Tryz.func24 (by kernel_rfl) (LEs.cons (AV.le_eq rfl) LEs.nil) ?_)
 refine G_q rfl (op_not rfl ?_)
 refine G_nil (zaa ?_)
 refine kb (p := !y1) rfl h (fun hc h => ?_) (fun hc h => ?_)
 ·refine zac (kr ?_)
  refine qa (.xs ([] : List UInt8)) rfl ?_
  refine G_nil (zaa (k_ret (kC_ret ?_)))
  obtain rfl := Option.some.inj h
  refine ke (pt AF0 4 (.xs ([] : List UInt8))) [] rfl ?_ ⟨rfl, rfl⟩
  exact so (lq rfl lt0)
 ·refine k_skip (zaa (zac (kr ?_)))
  refine qm (.xi a0) rfl ?_
  refine qm (.row 1 zab a1) rfl ?_
  obtain ⟨y2, hy2, h⟩ := bnd1_some h
  refine G_q rfl (zaf (m_ref9_compound_ok _ _ _ hy2) Tryz.func25 (by kernel_rfl) (LEs.cons (AV.le_eq rfl) (LEs.cons (AV.le_eq rfl) LEs.nil)) ?_)
  refine qa (.xs y2) rfl ?_
  refine G_nil (zaa (k_ret ?_))
  obtain rfl := Option.some.inj h
  refine ke (pt AF0 4 (.xs y2)) [] rfl ?_ ⟨rfl, rfl⟩
  exact so (lq rfl lt0)
set_option maxHeartbeats 4000000 in
theorem m_ref9_Dot_ok (a0 : Int) (a1 : List (List UInt8)) (r : (List UInt8)) (h : m_ref9_Dot a0 a1 = some r) : Pure Tryz.prog 8 [(.exact (.int .i64 a0)), (.row 1 zab a1)] (.exact (.string (bs r))) := by
 unfold m_ref9_Dot at h
 refine Pure.ofFun (fun_of_awp Tryz.func8 rfl Tryz.ntmps8 (by simp) rfl (res1 rfl) fun E hE => k_end ?_)
 refine zac (kr ?_)
 refine qa (.xs ([] : List UInt8)) rfl ?_
 refine G_nil (zaa (zac (kr ?_)))
 refine qm (.xi a0) rfl ?_
 obtain ⟨y1, hy1, h⟩ := bnd1_some h
 refine G_q rfl (zaf (m_ref9_Name_ok _ _ hy1) Tryz.func29 (by kernel_rfl) (LEs.cons (AV.le_eq rfl) LEs.nil) ?_)
 refine G_l rfl (op_litI (n := 1) (enc := zab) [y1] (by kernel_rfl) (CellsAll.cons rfl CellsOf.str CellsAll.nil) rfl (by kernel_rfl) (LEss.cons (LEs.cons (AV.le_eq rfl) LEs.nil) LEss.nil) (fun v2 => ?_))
 refine qm (.row 1 zab a1) rfl ?_
 obtain ⟨n3, h⟩ := need_some h
 refine G_l rfl (op_appT (by kernel_rfl) rfl rfl oc_c_api_Value n3 (fun v4 => ?_))
 refine G_sub rfl (SubU.freezeT (s := 9) rfl len_c_api_Value) ?_
 obtain ⟨y5, hy5, h⟩ := bnd1_some h
 refine G_q rfl (zaf (m_ref9_Make_ok _ _ _ hy5) Tryz.func28 (by kernel_rfl) (LEs.cons (AV.le_eq rfl) (LEs.cons (AV.le_eq rfl) LEs.nil)) ?_)
 refine qa (.xs y5) rfl ?_
 refine G_nil (zaa (k_ret ?_))
 obtain rfl := Option.some.inj h
 refine ke (pt AF0 4 (.xs y5)) [] rfl ?_ ⟨rfl, rfl⟩
 exact so (lq rfl lt0)
set_option maxHeartbeats 4000000 in
theorem m_cmp_isNaN_byte_ok (a0 : UInt8) (r : Bool) (h : m_cmp_isNaN_byte a0 = some r) : Pure Tryz.prog 148 [(.exact (.int .u8 (UInt8.toNat a0 : Int)))] (.exact (.bool r)) := by
 unfold m_cmp_isNaN_byte at h
 refine Pure.ofFun (fun_of_awp Tryz.func148 rfl Tryz.ntmps148 (by simp) rfl (res1 rfl) fun E hE => k_end ?_)
 refine zac (kr ?_)
 refine qa (.xb false) rfl ?_
 refine G_nil (zaa (zac (kr ?_)))
 refine qm (.exact (.int .u8 (UInt8.toNat a0 : Int))) rfl ?_
 refine qm (.exact (.int .u8 (UInt8.toNat a0 : Int))) rfl ?_
 refine G_q rfl (op_neqU (a := a0) (b := a0) rfl rfl ?_)
 refine qa (.xb (decide (¬ a0 = a0))) rfl ?_
 refine G_nil (zaa (k_ret ?_))
 obtain rfl := Option.some.inj h
 refine ke (pt AF0 2 (.xb (decide (¬ a0 = a0)))) [] rfl ?_ ⟨rfl, rfl⟩
 exact so (lq rfl lt0)
set_option maxHeartbeats 4000000 in
theorem m_cmp_Compare_byte_ok (a0 : UInt8) (a1 : UInt8) (r : Int) (h : m_cmp_Compare_byte a0 a1 = some r) : Pure Tryz.prog 139 [(.exact (.int .u8 (UInt8.toNat a0 : Int))), (.exact (.int .u8 (UInt8.toNat a1 : Int)))] (.exact (.int .i64 r)) := by
 unfold m_cmp_Compare_byte at h
 refine Pure.ofFun (fun_of_awp Tryz.func139 rfl Tryz.ntmps139 (by simp) rfl (res1 rfl) fun E hE => k_end ?_)
 refine zac (kr ?_)
 refine qa (.xi 0) rfl ?_
 refine G_nil (zaa (zac (kr ?_)))
 refine qm (.exact (.int .u8 (UInt8.toNat a0 : Int))) rfl ?_
 obtain ⟨y1, hy1, h⟩ := bnd1_some h
 refine G_q rfl (zaf (m_cmp_isNaN_byte_ok _ _ hy1) Tryz.func148 (by kernel_rfl) (LEs.cons (AV.le_eq rfl) LEs.nil) ?_)
 refine qa (.xb y1) rfl ?_
 refine G_nil (zaa (zac (kr ?_)))
 refine qm (.exact (.int .u8 (UInt8.toNat a1 : Int))) rfl ?_
 obtain ⟨y2, hy2, h⟩ := bnd1_some h
 refine G_q rfl (zaf (m_cmp_isNaN_byte_ok _ _ hy2) Tryz.func148 (by kernel_rfl) (LEs.cons (AV.le_eq rfl) LEs.nil) ?_)
 refine qa (.xb y2) rfl ?_
 refine G_nil (zaa (zac (zac (kr ?_))))
 refine qm (.xb y1) rfl ?_
 refine G_nil (zaa ?_)
 refine kb (p := y1) rfl h (fun hc h => ?_) (fun hc h => ?_)
 ·refine zac (zac (kr ?_))
  refine qm (.xb y2) rfl ?_
  refine G_nil (zaa ?_)
  refine kb (p := y2) rfl h (fun hc h => ?_) (fun hc h => ?_)
  ·refine zac (kr ?_)
   refine qa (.xi 0) rfl ?_
   refine G_nil (zaa (k_ret (kC_ret (kC_ret ?_))))
   obtain rfl := Option.some.inj h
   refine ke (pt AF0 4 (.xi 0)) [] rfl ?_ ⟨rfl, rfl⟩
   exact so (lq rfl lt0)
  ·refine k_skip (zaa (zac (kr ?_)))
   refine qa (.xi (-1)) rfl ?_
   refine G_nil (zaa (k_ret (kC_ret ?_)))
   obtain rfl := Option.some.inj h
   refine ke (pt AF0 4 (.xi (-1))) [] rfl ?_ ⟨rfl, rfl⟩
   exact so (lq rfl lt0)
 ·refine k_skip (zaa (zac (zac (kr ?_))))
  refine qm (.xb y2) rfl ?_
  refine G_nil (zaa ?_)
  refine kb (p := y2) rfl h (fun hc h => ?_) (fun hc h => ?_)
  ·refine zac (kr ?_)
   refine qa (.xi 1) rfl ?_
   refine G_nil (zaa (k_ret (kC_ret ?_)))
   obtain rfl := Option.some.inj h
   refine ke (pt AF0 4 (.xi 1)) [] rfl ?_ ⟨rfl, rfl⟩
   exact so (lq rfl lt0)
  ·refine k_skip (zaa (zac (zac (kr ?_))))
   refine qm (.exact (.int .u8 (UInt8.toNat a0 : Int))) rfl ?_
   refine qm (.exact (.int .u8 (UInt8.toNat a1 : Int))) rfl ?_
   refine G_q rfl (op_lssU (a := a0) (b := a1) rfl rfl ?_)
   refine G_nil (zaa ?_)
   refine kd (p := a0 < a1) rfl h (fun hc h => ?_) (fun hc h => ?_)
   ·refine zac (kr ?_)
    refine qa (.xi (-1)) rfl ?_
    refine G_nil (zaa (k_ret (kC_ret ?_)))
    obtain rfl := Option.some.inj h
    refine ke (pt AF0 4 (.xi (-1))) [] rfl ?_ ⟨rfl, rfl⟩
    exact so (lq rfl lt0)
   ·refine k_skip (zaa (zac (zac (kr ?_))))
    refine qm (.exact (.int .u8 (UInt8.toNat a0 : Int))) rfl ?_
    refine qm (.exact (.int .u8 (UInt8.toNat a1 : Int))) rfl ?_
    refine G_q rfl (op_gtrU (a := a0) (b := a1) rfl rfl ?_)
    refine G_nil (zaa ?_)
    refine kd (p := a1 < a0) rfl h (fun hc h => ?_) (fun hc h => ?_)
    ·refine zac (kr ?_)
     refine qa (.xi 1) rfl ?_
     refine G_nil (zaa (k_ret (kC_ret ?_)))
     obtain rfl := Option.some.inj h
     refine ke (pt AF0 4 (.xi 1)) [] rfl ?_ ⟨rfl, rfl⟩
     exact so (lq rfl lt0)
    ·refine k_skip (zaa (zac (kr ?_)))
     refine qa (.xi 0) rfl ?_
     refine G_nil (zaa (k_ret ?_))
     obtain rfl := Option.some.inj h
     refine ke (pt AF0 4 (.xi 0)) [] rfl ?_ ⟨rfl, rfl⟩
     exact so (lq rfl lt0)
end Go.Proofs.YtjlbdhicabgliaaGreat
/- The functions compute their models, by program. -/
namespace Go.Proofs.YtjlbdhicabgliaaGreat
open Go.RowKit
attribute [local irreducible] AV.exact AV.top AV.row AV.ptr AV.agg AV.tup AV.eptr AV.fn AV.nilq AV.nilqn opA opB opM opR Quiet Loud Reads wpG awp den Sub SubU Pure Fun vecI vecT boxI CellsAll CellsOf OneC LEs LEss
set_option maxRecDepth 100000

set_option maxHeartbeats 4000000 in
theorem m_value_integer_ok (a0 : List UInt8) (r : Int) (h : m_value_integer a0 = some r) : Pure Tryz.prog 106 [(.exact (.string (bs a0)))] (.exact (.int .i64 r)) := by
 unfold m_value_integer at h
 refine Pure.ofFun (fun_of_awp Tryz.func106 rfl Tryz.ntmps106 (by simp) rfl (res1 rfl) fun E hE => k_end ?_)
 refine zac (kr ?_)
 refine qa (.xi 0) rfl ?_
 refine G_nil (zaa (zac (kr ?_)))
 refine qa (.exact (.int .u64 0)) rfl ?_
 refine G_nil (zaa ?_)
 refine k_join1_0 h (fun (x3_j1 : Int) => (pt AF0 3 (.exact (.int .u64 x3_j1)))) (fun (x3_j1 : Int) => []) (fun k1 h => ?_) (fun x3_j1 h => ?_)
 ·refine zac (kr ?_)
  refine qa (.xi 1) rfl ?_
  refine G_nil (zaa (k_block ?_))
  refine k_loop2_0 (m_value_integer_L2 a0 k1) (m_value_integer_B2 a0 k1) (fun _ _ => rfl) (fun m _ _ => rfl) h (fun (x3_l2 : Int) (x4_l2 : Int) => (pt (pt (pt AF0 0 (.xs a0)) 3 (.exact (.int .u64 x3_l2))) 4 (.xi x4_l2))) (fun (x3_l2 : Int) (x4_l2 : Int) => []) ?_ (fun rec2 x3_l2 x4_l2 h => ?_)
  ·exact so (lq rfl (lq rfl (lq rfl lt0)))
  ·unfold m_value_integer_B2 at h
   refine zac (zac (kr ?_))
   refine qm (.xi x4_l2) rfl ?_
   refine G_q rfl (op_lss rfl rfl ?_)
   refine G_nil (zaa ?_)
   refine kd (p := x4_l2 < 9) rfl h (fun hc h => ?_) (fun hc h => ?_)
   ·refine k_skip (zaa (zac (k_block (kr ?_))))
    refine qm (.exact (.int .u64 x3_l2)) rfl ?_
    refine G_q rfl (op_shl rfl rfl (by decide) rfl ?_)
    refine qm (.xs a0) rfl ?_
    refine qm (.xi x4_l2) rfl ?_
    obtain ⟨n8, h⟩ := need_some h
    refine G_q rfl (op_index_str (by kernel_rfl) rfl rfl n8.1 n8.2 ?_)
    refine G_q rfl (op_convInt (k := .u64) (r := (UInt8.toNat (gi a0 x4_l2) : Int)) (by kernel_rfl) rfl (wrap_u8 rfl _) ?_)
    refine G_q rfl (op_or rfl rfl rfl ?_)
    refine qa (.exact (.int .u64 (bOr .u64 (IntKind.u64.wrap (x3_l2 * 2 ^ min (Int.toNat 8) IntKind.u64.bits)) (UInt8.toNat (gi a0 x4_l2) : Int)))) rfl ?_
    refine G_nil (kB_normal (zaa (kr ?_)))
    refine qm (.xi x4_l2) rfl ?_
    refine G_q rfl (op_add rfl rfl rfl ?_)
    refine qa (.xi (i64 (x4_l2 + 1))) rfl ?_
    refine G_nil ?_
    refine zad ⟨_, _, h, ?_⟩
    exact so (lq rfl (lq rfl (lq rfl lt0)))
   ·refine k_exit (kC_exit (kI_exit (kB_exit ?_)))
    refine zad ⟨_, h, ?_⟩
    exact so (lq rfl lt0)
 ·refine zac (kr ?_)
  refine qm (.exact (.int .u64 x3_j1)) rfl ?_
  refine G_q rfl (op_convInt (k := .i64) (by kernel_rfl) rfl rfl ?_)
  refine qa (.xi (i64 (x3_j1))) rfl ?_
  refine G_nil (zaa (k_ret ?_))
  obtain rfl := Option.some.inj h
  refine ke (pt AF0 2 (.xi (i64 (x3_j1)))) [] rfl ?_ ⟨rfl, rfl⟩
  exact so (lq rfl lt0)
set_option maxHeartbeats 4000000 in
theorem m_cmp_isNaN_int64_ok (a0 : Int) (r : Bool) (h : m_cmp_isNaN_int64 a0 = some r) : Pure Tryz.prog 149 [(.exact (.int .i64 a0))] (.exact (.bool r)) := by
 unfold m_cmp_isNaN_int64 at h
 refine Pure.ofFun (fun_of_awp Tryz.func149 rfl Tryz.ntmps149 (by simp) rfl (res1 rfl) fun E hE => k_end ?_)
 refine zac (kr ?_)
 refine qa (.xb false) rfl ?_
 refine G_nil (zaa (zac (kr ?_)))
 refine qm (.xi a0) rfl ?_
 refine qm (.xi a0) rfl ?_
 refine G_q rfl (op_neq rfl rfl ?_)
 refine qa (.xb (decide (¬ a0 = a0))) rfl ?_
 refine G_nil (zaa (k_ret ?_))
 obtain rfl := Option.some.inj h
 refine ke (pt AF0 2 (.xb (decide (¬ a0 = a0)))) [] rfl ?_ ⟨rfl, rfl⟩
 exact so (lq rfl lt0)
set_option maxHeartbeats 4000000 in
theorem m_cmp_Compare_int64_ok (a0 : Int) (a1 : Int) (r : Int) (h : m_cmp_Compare_int64 a0 a1 = some r) : Pure Tryz.prog 140 [(.exact (.int .i64 a0)), (.exact (.int .i64 a1))] (.exact (.int .i64 r)) := by
 unfold m_cmp_Compare_int64 at h
 refine Pure.ofFun (fun_of_awp Tryz.func140 rfl Tryz.ntmps140 (by simp) rfl (res1 rfl) fun E hE => k_end ?_)
 refine zac (kr ?_)
 refine qa (.xi 0) rfl ?_
 refine G_nil (zaa (zac (kr ?_)))
 refine qm (.xi a0) rfl ?_
 obtain ⟨y1, hy1, h⟩ := bnd1_some h
 refine G_q rfl (zaf (m_cmp_isNaN_int64_ok _ _ hy1) Tryz.func149 (by kernel_rfl) (LEs.cons (AV.le_eq rfl) LEs.nil) ?_)
 refine qa (.xb y1) rfl ?_
 refine G_nil (zaa (zac (kr ?_)))
 refine qm (.xi a1) rfl ?_
 obtain ⟨y2, hy2, h⟩ := bnd1_some h
 refine G_q rfl (zaf (m_cmp_isNaN_int64_ok _ _ hy2) Tryz.func149 (by kernel_rfl) (LEs.cons (AV.le_eq rfl) LEs.nil) ?_)
 refine qa (.xb y2) rfl ?_
 refine G_nil (zaa (zac (zac (kr ?_))))
 refine qm (.xb y1) rfl ?_
 refine G_nil (zaa ?_)
 refine kb (p := y1) rfl h (fun hc h => ?_) (fun hc h => ?_)
 ·refine zac (zac (kr ?_))
  refine qm (.xb y2) rfl ?_
  refine G_nil (zaa ?_)
  refine kb (p := y2) rfl h (fun hc h => ?_) (fun hc h => ?_)
  ·refine zac (kr ?_)
   refine qa (.xi 0) rfl ?_
   refine G_nil (zaa (k_ret (kC_ret (kC_ret ?_))))
   obtain rfl := Option.some.inj h
   refine ke (pt AF0 4 (.xi 0)) [] rfl ?_ ⟨rfl, rfl⟩
   exact so (lq rfl lt0)
  ·refine k_skip (zaa (zac (kr ?_)))
   refine qa (.xi (-1)) rfl ?_
   refine G_nil (zaa (k_ret (kC_ret ?_)))
   obtain rfl := Option.some.inj h
   refine ke (pt AF0 4 (.xi (-1))) [] rfl ?_ ⟨rfl, rfl⟩
   exact so (lq rfl lt0)
 ·refine k_skip (zaa (zac (zac (kr ?_))))
  refine qm (.xb y2) rfl ?_
  refine G_nil (zaa ?_)
  refine kb (p := y2) rfl h (fun hc h => ?_) (fun hc h => ?_)
  ·refine zac (kr ?_)
   refine qa (.xi 1) rfl ?_
   refine G_nil (zaa (k_ret (kC_ret ?_)))
   obtain rfl := Option.some.inj h
   refine ke (pt AF0 4 (.xi 1)) [] rfl ?_ ⟨rfl, rfl⟩
   exact so (lq rfl lt0)
  ·refine k_skip (zaa (zac (zac (kr ?_))))
   refine qm (.xi a0) rfl ?_
   refine qm (.xi a1) rfl ?_
   refine G_q rfl (op_lss rfl rfl ?_)
   refine G_nil (zaa ?_)
   refine kd (p := a0 < a1) rfl h (fun hc h => ?_) (fun hc h => ?_)
   ·refine zac (kr ?_)
    refine qa (.xi (-1)) rfl ?_
    refine G_nil (zaa (k_ret (kC_ret ?_)))
    obtain rfl := Option.some.inj h
    refine ke (pt AF0 4 (.xi (-1))) [] rfl ?_ ⟨rfl, rfl⟩
    exact so (lq rfl lt0)
   ·refine k_skip (zaa (zac (zac (kr ?_))))
    refine qm (.xi a0) rfl ?_
    refine qm (.xi a1) rfl ?_
    refine G_q rfl (op_gtr rfl rfl ?_)
    refine G_nil (zaa ?_)
    refine kd (p := a1 < a0) rfl h (fun hc h => ?_) (fun hc h => ?_)
    ·refine zac (kr ?_)
     refine qa (.xi 1) rfl ?_
     refine G_nil (zaa (k_ret (kC_ret ?_)))
     obtain rfl := Option.some.inj h
     refine ke (pt AF0 4 (.xi 1)) [] rfl ?_ ⟨rfl, rfl⟩
     exact so (lq rfl lt0)
    ·refine k_skip (zaa (zac (kr ?_)))
     refine qa (.xi 0) rfl ?_
     refine G_nil (zaa (k_ret ?_))
     obtain rfl := Option.some.inj h
     refine ke (pt AF0 4 (.xi 0)) [] rfl ?_ ⟨rfl, rfl⟩
     exact so (lq rfl lt0)
set_option maxHeartbeats 4000000 in
theorem m_value_simple_ok (a0 : Int) (r : Bool) (h : m_value_simple a0 = some r) : Pure Tryz.prog 82 [(.exact (.int .i64 a0))] (.exact (.bool r)) := by
 unfold m_value_simple at h
 refine Pure.ofFun (fun_of_awp Tryz.func82 rfl Tryz.ntmps82 (by simp) rfl (res1 rfl) fun E hE => k_end ?_)
 refine zac (kr ?_)
 refine qa (.xb false) rfl ?_
 refine G_nil (zaa ?_)
 refine k_join1_0 h (fun (x2_j1 : Bool) => (pt AF0 2 (.xb x2_j1))) (fun (x2_j1 : Bool) => []) (fun k1 h => ?_) (fun x2_j1 h => ?_)
 ·refine kr ?_
  refine qm (.xi a0) rfl ?_
  refine G_q rfl (op_eql rfl rfl ?_)
  refine qm (.xb (decide (a0 = 0))) rfl ?_
  refine G_split (p := a0 = 0) 5 rfl (fun hc => ?_) (fun hc => ?_)
  ·replace h := ite_t h hc
   refine G_n rfl rfl (G_n rfl rfl ?_)
   refine G_q rfl (op_pick_t rfl (av := .xb true) rfl ?_)
   refine qm (.xb true) rfl ?_
   refine G_n rfl rfl (G_n rfl rfl ?_)
   refine G_q rfl (op_pick_t rfl (av := .xb true) rfl ?_)
   refine qm (.xb true) rfl ?_
   refine G_n rfl rfl (G_n rfl rfl ?_)
   refine G_q rfl (op_pick_t rfl (av := .xb true) rfl ?_)
   refine qa (.xb true) rfl ?_
   refine G_nil ?_
   refine zad ⟨_, h, ?_⟩
   exact so (lq rfl lt0)
  ·replace h := ite_f h hc
   refine Gy_q rfl rfl rfl (zag (av := .xi a0) rfl ?_)
   refine Gy_q rfl rfl rfl (op_eql rfl rfl ?_)
   refine G_q rfl (zak rfl (av := .xb (decide (a0 = 1))) rfl ?_)
   refine qm (.xb (decide (a0 = 1))) rfl ?_
   refine G_split (p := a0 = 1) 9 rfl (fun hc => ?_) (fun hc => ?_)
   ·replace h := ite_t h hc
    refine G_n rfl rfl (G_n rfl rfl ?_)
    refine G_q rfl (op_pick_t rfl (av := .xb true) rfl ?_)
    refine qm (.xb true) rfl ?_
    refine G_n rfl rfl (G_n rfl rfl ?_)
    refine G_q rfl (op_pick_t rfl (av := .xb true) rfl ?_)
    refine qa (.xb true) rfl ?_
    refine G_nil ?_
    refine zad ⟨_, h, ?_⟩
    exact so (lq rfl lt0)
   ·replace h := ite_f h hc
    refine Gy_q rfl rfl rfl (zag (av := .xi a0) rfl ?_)
    refine Gy_q rfl rfl rfl (op_eql rfl rfl ?_)
    refine G_q rfl (zak rfl (av := .xb (decide (a0 = 2))) rfl ?_)
    refine qm (.xb (decide (a0 = 2))) rfl ?_
    refine G_split (p := a0 = 2) 13 rfl (fun hc => ?_) (fun hc => ?_)
    ·replace h := ite_t h hc
     refine G_n rfl rfl (G_n rfl rfl ?_)
     refine G_q rfl (op_pick_t rfl (av := .xb true) rfl ?_)
     refine qa (.xb true) rfl ?_
     refine G_nil ?_
     refine zad ⟨_, h, ?_⟩
     exact so (lq rfl lt0)
    ·replace h := ite_f h hc
     refine Gy_q rfl rfl rfl (zag (av := .xi a0) rfl ?_)
     refine Gy_q rfl rfl rfl (op_eql rfl rfl ?_)
     refine G_q rfl (zak rfl (av := .xb (decide (a0 = 10))) rfl ?_)
     refine qa (.xb (decide (a0 = 10))) rfl ?_
     refine G_nil ?_
     refine zad ⟨_, h, ?_⟩
     exact so (lq rfl lt0)
 ·refine k_ret ?_
  obtain rfl := Option.some.inj h
  refine ke (pt AF0 2 (.xb x2_j1)) [] rfl ?_ ⟨rfl, rfl⟩
  exact so (lq rfl lt0)
set_option maxHeartbeats 4000000 in
theorem m_cmp_isNaN_api_Value_ok (a0 : List UInt8) (r : Bool) (h : m_cmp_isNaN_api_Value a0 = some r) : Pure Tryz.prog 142 [(.exact (.string (bs a0)))] (.exact (.bool r)) := by
 unfold m_cmp_isNaN_api_Value at h
 refine Pure.ofFun (fun_of_awp Tryz.func142 rfl Tryz.ntmps142 (by simp) rfl (res1 rfl) fun E hE => k_end ?_)
 refine zac (kr ?_)
 refine qa (.xb false) rfl ?_
 refine G_nil (zaa (zac (kr ?_)))
 refine qm (.xs a0) rfl ?_
 refine qm (.xs a0) rfl ?_
 refine G_q rfl (op_neqS rfl rfl ?_)
 refine qa (.xb (decide (¬ a0 = a0))) rfl ?_
 refine G_nil (zaa (k_ret ?_))
 obtain rfl := Option.some.inj h
 refine ke (pt AF0 2 (.xb (decide (¬ a0 = a0)))) [] rfl ?_ ⟨rfl, rfl⟩
 exact so (lq rfl lt0)
set_option maxHeartbeats 4000000 in
theorem m_cmp_Compare_api_Value_ok (a0 : List UInt8) (a1 : List UInt8) (r : Int) (h : m_cmp_Compare_api_Value a0 a1 = some r) : Pure Tryz.prog 125 [(.exact (.string (bs a0))), (.exact (.string (bs a1)))] (.exact (.int .i64 r)) := by
 unfold m_cmp_Compare_api_Value at h
 refine Pure.ofFun (fun_of_awp Tryz.func125 rfl Tryz.ntmps125 (by simp) rfl (res1 rfl) fun E hE => k_end ?_)
 refine zac (kr ?_)
 refine qa (.xi 0) rfl ?_
 refine G_nil (zaa (zac (kr ?_)))
 refine qm (.xs a0) rfl ?_
 obtain ⟨y1, hy1, h⟩ := bnd1_some h
 refine G_q rfl (zaf (m_cmp_isNaN_api_Value_ok _ _ hy1) Tryz.func142 (by kernel_rfl) (LEs.cons (AV.le_eq rfl) LEs.nil) ?_)
 refine qa (.xb y1) rfl ?_
 refine G_nil (zaa (zac (kr ?_)))
 refine qm (.xs a1) rfl ?_
 obtain ⟨y2, hy2, h⟩ := bnd1_some h
 refine G_q rfl (zaf (m_cmp_isNaN_api_Value_ok _ _ hy2) Tryz.func142 (by kernel_rfl) (LEs.cons (AV.le_eq rfl) LEs.nil) ?_)
 refine qa (.xb y2) rfl ?_
 refine G_nil (zaa (zac (zac (kr ?_))))
 refine qm (.xb y1) rfl ?_
 refine G_nil (zaa ?_)
 refine kb (p := y1) rfl h (fun hc h => ?_) (fun hc h => ?_)
 ·refine zac (zac (kr ?_))
  refine qm (.xb y2) rfl ?_
  refine G_nil (zaa ?_)
  refine kb (p := y2) rfl h (fun hc h => ?_) (fun hc h => ?_)
  ·refine zac (kr ?_)
   refine qa (.xi 0) rfl ?_
   refine G_nil (zaa (k_ret (kC_ret (kC_ret ?_))))
   obtain rfl := Option.some.inj h
   refine ke (pt AF0 4 (.xi 0)) [] rfl ?_ ⟨rfl, rfl⟩
   exact so (lq rfl lt0)
  ·refine k_skip (zaa (zac (kr ?_)))
   refine qa (.xi (-1)) rfl ?_
   refine G_nil (zaa (k_ret (kC_ret ?_)))
   obtain rfl := Option.some.inj h
   refine ke (pt AF0 4 (.xi (-1))) [] rfl ?_ ⟨rfl, rfl⟩
   exact so (lq rfl lt0)
 ·refine k_skip (zaa (zac (zac (kr ?_))))
  refine qm (.xb y2) rfl ?_
  refine G_nil (zaa ?_)
  refine kb (p := y2) rfl h (fun hc h => ?_) (fun hc h => ?_)
  ·refine zac (kr ?_)
   refine qa (.xi 1) rfl ?_
   refine G_nil (zaa (k_ret (kC_ret ?_)))
   obtain rfl := Option.some.inj h
   refine ke (pt AF0 4 (.xi 1)) [] rfl ?_ ⟨rfl, rfl⟩
   exact so (lq rfl lt0)
  ·refine k_skip (zaa (zac (zac (kr ?_))))
   refine qm (.xs a0) rfl ?_
   refine qm (.xs a1) rfl ?_
   refine G_q rfl (op_lssS rfl rfl ?_)
   refine G_nil (zaa ?_)
   refine kd (p := ltS a0 a1) rfl h (fun hc h => ?_) (fun hc h => ?_)
   ·refine zac (kr ?_)
    refine qa (.xi (-1)) rfl ?_
    refine G_nil (zaa (k_ret (kC_ret ?_)))
    obtain rfl := Option.some.inj h
    refine ke (pt AF0 4 (.xi (-1))) [] rfl ?_ ⟨rfl, rfl⟩
    exact so (lq rfl lt0)
   ·refine k_skip (zaa (zac (zac (kr ?_))))
    refine qm (.xs a0) rfl ?_
    refine qm (.xs a1) rfl ?_
    refine G_q rfl (op_gtrS rfl rfl ?_)
    refine G_nil (zaa ?_)
    refine kd (p := ltS a1 a0) rfl h (fun hc h => ?_) (fun hc h => ?_)
    ·refine zac (kr ?_)
     refine qa (.xi 1) rfl ?_
     refine G_nil (zaa (k_ret (kC_ret ?_)))
     obtain rfl := Option.some.inj h
     refine ke (pt AF0 4 (.xi 1)) [] rfl ?_ ⟨rfl, rfl⟩
     exact so (lq rfl lt0)
    ·refine k_skip (zaa (zac (kr ?_)))
     refine qa (.xi 0) rfl ?_
     refine G_nil (zaa (k_ret ?_))
     obtain rfl := Option.some.inj h
     refine ke (pt AF0 4 (.xi 0)) [] rfl ?_ ⟨rfl, rfl⟩
     exact so (lq rfl lt0)
set_option maxHeartbeats 4000000 in
theorem m_value_span_F_ok (self_value_span : (List UInt8) → Option Int) (hself_value_span : ∀ (a0 : List UInt8) (r : Int), self_value_span a0 = some r → Pure Tryz.prog 108 [(.exact (.string (bs a0)))] (.exact (.int .i64 r))) (a0 : List UInt8) (r : Int) (h : m_value_span_F self_value_span a0 = some r) : Pure Tryz.prog 108 [(.exact (.string (bs a0)))] (.exact (.int .i64 r)) := by
 unfold m_value_span_F at h
 refine Pure.ofFun (fun_of_awp Tryz.func108 rfl Tryz.ntmps108 (by simp) rfl (res1 rfl) fun E hE => k_end ?_)
 refine zac (kr ?_)
 refine qa (.xi 0) rfl ?_
 refine G_nil (zaa (zac (zac (kr ?_))))
 refine qm (.xs a0) rfl ?_
 obtain ⟨n1, h⟩ := need_some h
 refine G_q rfl (op_index_str (by kernel_rfl) rfl rfl n1.1 n1.2 ?_)
 refine G_nil (zaa (k_block (zac (kr ?_))))
 refine G_q rfl (op_eqlU (a := (gi a0 0)) (b := 1) rfl rfl ?_)
 refine qa (.xb (decide ((gi a0 0) = 1))) rfl ?_
 refine G_nil (zaa ?_)
 refine kd (p := (gi a0 0) = 1) rfl h (fun hc h => ?_) (fun hc h => ?_)
 ·refine zac (kr ?_)
  refine qa (.xi 9) rfl ?_
  refine G_nil (zaa (k_ret (kB_ret (kC_ret ?_))))
  obtain rfl := Option.some.inj h
  refine ke (pt AF0 2 (.xi 9)) [] rfl ?_ ⟨rfl, rfl⟩
  exact so (lq rfl lt0)
 ·refine zac (kr ?_)
  refine G_q rfl (op_eqlU (a := (gi a0 0)) (b := 2) rfl rfl ?_)
  refine qa (.xb (decide ((gi a0 0) = 2))) rfl ?_
  refine G_nil (zaa ?_)
  refine kd (p := (gi a0 0) = 2) rfl h (fun hc h => ?_) (fun hc h => ?_)
  ·refine zac (kr ?_)
   refine qa (.xi 2) rfl ?_
   refine G_nil (zaa (k_ret (kB_ret (kC_ret ?_))))
   obtain rfl := Option.some.inj h
   refine ke (pt AF0 2 (.xi 2)) [] rfl ?_ ⟨rfl, rfl⟩
   exact so (lq rfl lt0)
  ·refine zac (kr ?_)
   refine G_q rfl (op_eqlU (a := (gi a0 0)) (b := 10) rfl rfl ?_)
   refine qa (.xb (decide ((gi a0 0) = 10))) rfl ?_
   refine G_nil (zaa ?_)
   refine kd (p := (gi a0 0) = 10) rfl h (fun hc h => ?_) (fun hc h => ?_)
   ·refine zac (kr ?_)
    refine qa (.xi 3) rfl ?_
    refine G_nil (zaa (k_ret (kB_ret (kC_ret ?_))))
    obtain rfl := Option.some.inj h
    refine ke (pt AF0 2 (.xi 3)) [] rfl ?_ ⟨rfl, rfl⟩
    exact so (lq rfl lt0)
   ·refine k_skip (kB_normal (zaa (zac (kr ?_))))
    refine qa (.xi 3) rfl ?_
    refine G_nil (zaa ?_)
    refine k_join1_0 h (fun (x3_j2 : Int) => (pt AF0 3 (.xi x3_j2))) (fun (x3_j2 : Int) => []) (fun k2 h => ?_) (fun x3_j2 h => ?_)
    ·refine zac ?_
     refine k_plan [] [(0, 0), (0, 1), (0, 2), (0, 3), (0, 4), (0, 5), (0, 6), (0, 7), (0, 8)] hmixP (by kernel_rfl) ?_
     refine P_q no34_0 rfl (zag (av := .xs a0) rfl ?_)
     obtain ⟨n12, h⟩ := need_some h
     refine P_q no34_0 rfl (op_index_str (by kernel_rfl) rfl rfl n12.1 n12.2 ?_)
     refine P_q no34_0 rfl (op_convInt (k := .i64) (r := (UInt8.toNat (gi a0 1) : Int)) (by kernel_rfl) rfl (wrap_u8 rfl _) ?_)
     refine P_q no34_0 rfl (op_shl rfl rfl (by decide) rfl ?_)
     refine P_q no34_0 rfl (zag (av := .xs a0) rfl ?_)
     obtain ⟨n13, h⟩ := need_some h
     refine P_q no34_0 rfl (op_index_str (by kernel_rfl) rfl rfl n13.1 n13.2 ?_)
     refine P_q no34_0 rfl (op_convInt (k := .i64) (r := (UInt8.toNat (gi a0 2) : Int)) (by kernel_rfl) rfl (wrap_u8 rfl _) ?_)
     refine P_q no34_0 rfl (op_or rfl rfl rfl ?_)
     refine P_q no34_0 rfl (zag (av := .xi 0) rfl ?_)
     refine P_nil (zaa (k_block ?_))
     refine k_loop2_0 (m_value_span_L2 self_value_span a0 k2) (m_value_span_B2 self_value_span a0 k2) (fun _ _ => rfl) (fun m _ _ => rfl) h (fun (x3_l2 : Int) (x20_l2 : Int) => (pt (pt (pt (pt AF0 0 (.xs a0)) 3 (.xi x3_l2)) 19 (.xi (bOr .i64 (i64 ((UInt8.toNat (gi a0 1) : Int) * 2 ^ min (Int.toNat 8) IntKind.i64.bits)) (UInt8.toNat (gi a0 2) : Int)))) 20 (.xi x20_l2))) (fun (x3_l2 : Int) (x20_l2 : Int) => []) ?_ (fun rec2 x3_l2 x20_l2 h => ?_)
     ·exact so (l4 rfl rfl rfl rfl lt0)
     ·unfold m_value_span_B2 at h
      refine zac (kr ?_)
      refine G_q rfl (op_lss rfl rfl ?_)
      refine G_nil (zaa (zac ?_))
      refine kd (p := x20_l2 < (bOr .i64 (i64 ((UInt8.toNat (gi a0 1) : Int) * 2 ^ min (Int.toNat 8) IntKind.i64.bits)) (UInt8.toNat (gi a0 2) : Int))) rfl h (fun hc h => ?_) (fun hc h => ?_)
      ·refine k_skip (zaa (zac (k_block (kr ?_))))
       refine qm (.xi x3_l2) rfl ?_
       refine qm (.xs a0) rfl ?_
       refine qm (.xi x3_l2) rfl ?_
       obtain ⟨n18, h⟩ := need_some h
       refine G_q rfl (op_slice_strd (by kernel_rfl) rfl (bnd_some rfl) bnd_none n18.1 n18.2 (Int.le_refl _) ?_)
       obtain ⟨y19, hy19, h⟩ := bnd1_some h
       refine G_q rfl (zaf (hself_value_span _ _ hy19) Tryz.func108 (by kernel_rfl) (LEs.cons (AV.le_eq rfl) LEs.nil) ?_)
       refine G_q rfl (op_add rfl rfl rfl ?_)
       refine qa (.xi (i64 (x3_l2 + y19))) rfl ?_
       refine G_nil (kB_normal (zaa (kr ?_)))
       refine G_q rfl (op_add rfl rfl rfl ?_)
       refine qm (.xi (i64 (x20_l2 + 1))) rfl ?_
       refine G_nil ?_
       refine zad ⟨_, _, h, ?_⟩
       exact so (l4 rfl rfl rfl rfl lt0)
      ·refine k_exit (kC_exit (kI_exit (kB_exit ?_)))
       refine zad ⟨_, h, ?_⟩
       exact so (lq rfl lt0)
    ·refine zac (kr ?_)
     refine qm (.xi x3_j2) rfl ?_
     refine qa (.xi x3_j2) rfl ?_
     refine G_nil (zaa (k_ret ?_))
     obtain rfl := Option.some.inj h
     refine ke (pt AF0 2 (.xi x3_j2)) [] rfl ?_ ⟨rfl, rfl⟩
     exact so (lq rfl lt0)
set_option maxHeartbeats 4000000 in
theorem m_value_span_S_ok : ∀ n : Nat, (∀ (a0 : List UInt8) (r : Int), m_value_span_S n a0 = some r → Pure Tryz.prog 108 [(.exact (.string (bs a0)))] (.exact (.int .i64 r)))
  | 0 => (fun _ _ h => by have h' : (none : Option _) = some _ := h; cases h')
  | n + 1 => by
    have ih := m_value_span_S_ok n
    exact fun a0 r h => m_value_span_F_ok (m_value_span_S n) ih a0 r h
theorem m_value_span_ok (a0 : List UInt8) (r : Int) (h : m_value_span a0 = some r) : Pure Tryz.prog 108 [(.exact (.string (bs a0)))] (.exact (.int .i64 r)) := (m_value_span_S_ok FU) a0 r h
set_option maxHeartbeats 4000000 in
theorem m_slices_Clip_L_api_Value_api_Value_ok {w0 : Value} (a0 : List (List UInt8)) (r : (List (List UInt8))) (h : m_slices_Clip_L_api_Value_api_Value a0 = some r) : Fun Tryz.prog 43 [(.exact w0)] [vecT Tryz.prog 23 1 zab w0 a0] (fun a s => ∃ z0, a = .exact z0 ∧ s = [vecO Tryz.prog 23 1 zab z0 r]) := by
 unfold m_slices_Clip_L_api_Value_api_Value at h
 refine fun_of_awp Tryz.func43 rfl Tryz.ntmps43 (by simp) rfl (res1 rfl) fun E hE => k_end ?_
 refine zac (kr ?_)
 refine qa (.exact (.slice none 0 0)) rfl ?_
 refine G_nil (zaa (zac (kr ?_)))
 refine qm (.exact w0) rfl ?_
 refine qm (.exact w0) rfl ?_
 refine G_r rfl (op_len_vec (by kernel_rfl) rfl ?_)
 refine qm (.exact w0) rfl ?_
 refine G_r rfl (op_len_vec (by kernel_rfl) rfl ?_)
 refine G_l rfl (op_clipO (by kernel_rfl) rfl rfl rfl rfl (fun v1 => ?_))
 refine qa (.exact v1) rfl ?_
 refine G_nil (zaa (k_ret ?_))
 obtain rfl := Option.some.inj h
 refine ke (pt AF0 2 (.exact v1)) [vecO Tryz.prog 23 1 zab v1 a0] rfl ?_ ⟨v1, rfl, rfl⟩
 exact so (lq rfl lt0)
set_option maxHeartbeats 4000000 in
theorem m_value_parts_ok (a0 : List UInt8) (r : (List (List UInt8))) (h : m_value_parts a0 = some r) : Pure Tryz.prog 83 [(.exact (.string (bs a0)))] (.row 1 zab r) := by
 unfold m_value_parts at h
 refine Pure.ofFun (fun_of_awp Tryz.func83 rfl Tryz.ntmps83 (by simp) rfl (res1 rfl) fun E hE => k_end ?_)
 refine zac (kr ?_)
 refine qa (.exact (.slice none 0 0)) rfl ?_
 refine G_nil (zaa (zac (kr ?_)))
 refine qa (.exact (.slice none 0 0)) rfl ?_
 refine G_nil (zaa ?_)
 refine k_join1_1 h (fun (x3_j1 : List (List UInt8)) (v3_j1 : Value) => (pt AF0 3 (.exact v3_j1))) (fun (x3_j1 : List (List UInt8)) (v3_j1 : Value) => [vecT Tryz.prog 23 1 zab v3_j1 x3_j1]) (fun k1 h => ?_) (fun x3_j1 v3_j1 h => ?_)
 ·refine zac (kr ?_)
  refine qa (.xi 3) rfl ?_
  refine G_nil (zaa (k_block ?_))
  refine k_loop2_1 (m_value_parts_L2 a0 k1) (m_value_parts_B2 a0 k1) (fun _ _ => rfl) (fun m _ _ => rfl) h (fun (x3_l2 : List (List UInt8)) (x4_l2 : Int) (v3_l2 : Value) => (pt (pt (pt AF0 0 (.xs a0)) 3 (.exact v3_l2)) 4 (.xi x4_l2))) (fun (x3_l2 : List (List UInt8)) (x4_l2 : Int) (v3_l2 : Value) => [vecT Tryz.prog 23 1 zab v3_l2 x3_l2]) (.slice none 0 0) ?_ (fun rec2 x3_l2 x4_l2 v3_l2 h => ?_)
  ·refine Sub.trans (SubU.to (SubU.nilT (P := Tryz.prog) (t := 23) (n := 1) (enc := zab))) ?_
   exact so (lq rfl (lq rfl (lq rfl lt0)))
  ·unfold m_value_parts_B2 at h
   refine zac (zac (kr ?_))
   refine qm (.xi x4_l2) rfl ?_
   refine qm (.xs a0) rfl ?_
   refine G_q rfl (op_lenS (by kernel_rfl) rfl ?_)
   refine G_q rfl (op_lss rfl rfl ?_)
   refine G_nil (zaa ?_)
   refine kd (p := x4_l2 < (List.length a0 : Int)) rfl h (fun hc h => ?_) (fun hc h => ?_)
   ·refine k_skip (zaa (k_block (zac (kr ?_))))
    refine qm (.xs a0) rfl ?_
    refine qm (.xi x4_l2) rfl ?_
    obtain ⟨n28, h⟩ := need_some h
    refine G_q rfl (op_slice_strd (by kernel_rfl) rfl (bnd_some rfl) bnd_none n28.1 n28.2 (Int.le_refl _) ?_)
    obtain ⟨y29, hy29, h⟩ := bnd1_some h
    refine G_q rfl (zaf (m_value_span_ok _ _ hy29) Tryz.func108 (by kernel_rfl) (LEs.cons (AV.le_eq rfl) LEs.nil) ?_)
    refine qa (.xi y29) rfl ?_
    refine G_nil (zaa (zac (kr ?_)))
    refine qm (.exact v3_l2) rfl ?_
    refine qm (.xs a0) rfl ?_
    refine qm (.xi x4_l2) rfl ?_
    refine qm (.xi x4_l2) rfl ?_
    refine qm (.xi y29) rfl ?_
    refine G_q rfl (op_add rfl rfl rfl ?_)
    obtain ⟨n30, h⟩ := need_some h
    refine G_q rfl (op_slice_str (by kernel_rfl) rfl (bnd_some rfl) (bnd_some rfl) n30.1 n30.2.1 n30.2.2 ?_)
    refine G_q rfl (op_litT (n := 1) (enc := zab) [List.take (Int.toNat (i64 (x4_l2 + y29)) - Int.toNat x4_l2) (List.drop (Int.toNat x4_l2) a0)] (CellsAll.cons rfl CellsOf.str CellsAll.nil) rfl (by kernel_rfl) (LEss.cons (LEs.cons (AV.le_eq rfl) LEs.nil) LEss.nil) ?_)
    obtain ⟨n31, h⟩ := need_some h
    refine G_l rfl (op_appT (by kernel_rfl) rfl rfl oc_c_api_Value n31 (fun v32 => ?_))
    refine qa (.exact v32) rfl ?_
    refine G_nil (zaa (kr ?_))
    refine qm (.xi x4_l2) rfl ?_
    refine qm (.xi y29) rfl ?_
    refine G_q rfl (op_add rfl rfl rfl ?_)
    refine qa (.xi (i64 (x4_l2 + y29))) rfl ?_
    refine G_nil (kB_normal ?_)
    refine zad ⟨_, _, v32, h, ?_⟩
    exact so (lq rfl (lq rfl (lq rfl lt0)))
   ·refine k_exit (kC_exit (kI_exit (kB_exit ?_)))
    refine zad ⟨_, v3_l2, h, ?_⟩
    exact so (lq rfl lt0)
 ·refine zac (kr ?_)
  refine qm (.exact v3_j1) rfl ?_
  obtain ⟨y33, hy33, h⟩ := bnd1_some h
  refine G_l rfl (op_fun_1_1_1 (m_slices_Clip_L_api_Value_api_Value_ok _ _ hy33) Tryz.func43 (by kernel_rfl) (LEs.cons (AV.le_eq rfl) LEs.nil) (fun v34 => ?_))
  refine qa (.exact v34) rfl ?_
  refine G_nil (zaa (k_ret ?_))
  obtain rfl := Option.some.inj h
  refine ke (pt AF0 2 (.row 1 zab y33)) [] rfl ?_ ⟨rfl, rfl⟩
  refine Sub.trans (SubU.to (SubU.freezeO (s := 2) rfl len_c_api_Value)) ?_
  exact so (lq rfl lt0)
set_option maxHeartbeats 4000000 in
theorem m_slices_CompareFunc_L_api_Value_L_api_Value_api_Value_api_Value_ok (a0 : List (List UInt8)) (a1 : List (List UInt8)) (a2 : (List UInt8) → (List UInt8) → Option Int) (r : Int) (h : m_slices_CompareFunc_L_api_Value_L_api_Value_api_Value_api_Value a0 a1 a2 = some r) : Pure Tryz.prog 141 [(.row 1 zab a0), (.row 1 zab a1), (.fn Tryz.prog (fun (i : (List UInt8) × (List UInt8)) => [.exact (.string (bs i.1)), .exact (.string (bs i.2))]) (fun (i : (List UInt8) × (List UInt8)) => a2 i.1 i.2) (fun (r : Int) => .exact (.int .i64 r)))] (.exact (.int .i64 r)) := by
 unfold m_slices_CompareFunc_L_api_Value_L_api_Value_api_Value_api_Value at h
 refine Pure.ofFun (fun_of_awp Tryz.func141 rfl Tryz.ntmps141 (by simp) rfl (res1 rfl) fun E hE => k_end ?_)
 refine zac (kr ?_)
 refine qa (.xi 0) rfl ?_
 refine G_nil (zaa ?_)
 refine k_join0_0 h ((pt (pt AF0 0 (.row 1 zab a0)) 1 (.row 1 zab a1))) ([]) (fun k1 h => ?_) (fun  h => ?_)
 ·refine zac (kr ?_)
  refine qm (.row 1 zab a0) rfl ?_
  refine G_q rfl (zai (by kernel_rfl) rfl ?_)
  refine qm (.xi 0) rfl ?_
  refine G_nil (zaa (k_block ?_))
  refine k_loop1_0 (m_slices_CompareFunc_L_api_Value_L_api_Value_api_Value_api_Value_L2 a0 a1 a2 k1) (m_slices_CompareFunc_L_api_Value_L_api_Value_api_Value_api_Value_B2 a0 a1 a2 k1) (fun _ => rfl) (fun m _ => rfl) h (fun (x13_l2 : Int) => (pt (pt (pt (pt (pt (pt AF0 0 (.row 1 zab a0)) 1 (.row 1 zab a1)) 2 (.fn Tryz.prog (fun (i : (List UInt8) × (List UInt8)) => [.xs i.1, .xs i.2]) (fun (i : (List UInt8) × (List UInt8)) => a2 i.1 i.2) (fun (r : Int) => .xi r))) 11 (.row 1 zab a0)) 12 (.xi (List.length a0 : Int))) 13 (.xi x13_l2))) (fun (x13_l2 : Int) => []) ?_ (fun rec2 x13_l2 h => ?_)
  ·exact so (l4 rfl rfl rfl rfl (lq rfl (lq rfl lt0)))
  ·unfold m_slices_CompareFunc_L_api_Value_L_api_Value_api_Value_api_Value_B2 at h
   refine zac (kr ?_)
   refine G_q rfl (op_lss rfl rfl ?_)
   refine G_nil (zaa (zac ?_))
   refine kd (p := x13_l2 < (List.length a0 : Int)) rfl h (fun hc h => ?_) (fun hc h => ?_)
   ·refine k_skip (zaa (zac (k_block (zac (kr ?_)))))
    refine qm (.xi x13_l2) rfl ?_
    obtain ⟨n18, h⟩ := need_some h
    refine G_q rfl (zaj (by kernel_rfl) rfl rfl n18.1 n18.2 ?_)
    refine G_q rfl (op_load1p (a := .xs (gi a0 x13_l2)) (by kernel_rfl) rfl rfl ?_)
    refine qa (.xi x13_l2) rfl ?_
    refine qa (.xs (gi a0 x13_l2)) rfl ?_
    refine G_nil (zaa (zac (zac (kr ?_))))
    refine qm (.xi x13_l2) rfl ?_
    refine qm (.row 1 zab a1) rfl ?_
    refine G_q rfl (zai (by kernel_rfl) rfl ?_)
    refine G_q rfl (op_geq rfl rfl ?_)
    refine G_nil (zaa ?_)
    refine kd (p := (List.length a1 : Int) ≤ x13_l2) rfl h (fun hc h => ?_) (fun hc h => ?_)
    ·refine zac (kr ?_)
     refine qa (.xi 1) rfl ?_
     refine G_nil (zaa (k_ret (kC_ret (kB_ret (kC_ret (kI_ret (kB_ret (kI_ret ?_))))))))
     obtain rfl := Option.some.inj h
     refine ke (pt AF0 6 (.xi 1)) [] rfl ?_ ⟨rfl, rfl⟩
     exact so (lq rfl lt0)
    ·refine k_skip (zaa (zac (kr ?_)))
     refine qm (.row 1 zab a1) rfl ?_
     refine qm (.xi x13_l2) rfl ?_
     obtain ⟨n19, h⟩ := need_some h
     refine G_q rfl (zaj (by kernel_rfl) rfl rfl n19.1 n19.2 ?_)
     refine G_q rfl (op_load1p (a := .xs (gi a1 x13_l2)) (by kernel_rfl) rfl rfl ?_)
     refine qa (.xs (gi a1 x13_l2)) rfl ?_
     refine G_nil (zaa (zac (kr ?_)))
     refine qm (.fn Tryz.prog (fun (i : (List UInt8) × (List UInt8)) => [.xs i.1, .xs i.2]) (fun (i : (List UInt8) × (List UInt8)) => a2 i.1 i.2) (fun (r : Int) => .xi r)) rfl ?_
     refine qm (.xs (gi a0 x13_l2)) rfl ?_
     refine qm (.xs (gi a1 x13_l2)) rfl ?_
     obtain ⟨y20, hy20, h⟩ := bnd1_some h
     refine G_q rfl (op_callfn (gi a0 x13_l2, gi a1 x13_l2) rfl hy20 (LEs.cons (AV.le_eq rfl) (LEs.cons (AV.le_eq rfl) LEs.nil)) ?_)
     refine qa (.xi y20) rfl ?_
     refine G_nil (zaa (zac (kr ?_)))
     refine qm (.xi y20) rfl ?_
     refine G_q rfl (op_neq rfl rfl ?_)
     refine G_nil (zaa ?_)
     refine kd (p := ¬ y20 = 0) rfl h (fun hc h => ?_) (fun hc h => ?_)
     ·refine zac (kr ?_)
      refine qm (.xi y20) rfl ?_
      refine qa (.xi y20) rfl ?_
      refine G_nil (zaa (k_ret (kB_ret (kC_ret (kI_ret (kB_ret (kI_ret ?_)))))))
      obtain rfl := Option.some.inj h
      refine ke (pt AF0 6 (.xi y20)) [] rfl ?_ ⟨rfl, rfl⟩
      exact so (lq rfl lt0)
     ·refine k_skip (kB_normal (zaa (kr ?_)))
      refine G_q rfl (op_add rfl rfl rfl ?_)
      refine qm (.xi (i64 (x13_l2 + 1))) rfl ?_
      refine G_nil ?_
      refine zad ⟨_, h, ?_⟩
      exact so (l4 rfl rfl rfl rfl (lq rfl (lq rfl lt0)))
   ·refine k_exit (kC_exit (kI_exit (kB_exit ?_)))
    refine zad ⟨h, ?_⟩
    exact so (lq rfl (lq rfl lt0))
 ·refine zac (zac (kr ?_))
  refine qm (.row 1 zab a0) rfl ?_
  refine G_q rfl (zai (by kernel_rfl) rfl ?_)
  refine qm (.row 1 zab a1) rfl ?_
  refine G_q rfl (zai (by kernel_rfl) rfl ?_)
  refine G_q rfl (op_lss rfl rfl ?_)
  refine G_nil (zaa ?_)
  refine kd (p := (List.length a0 : Int) < (List.length a1 : Int)) rfl h (fun hc h => ?_) (fun hc h => ?_)
  ·refine zac (kr ?_)
   refine qa (.xi (-1)) rfl ?_
   refine G_nil (zaa (k_ret (kC_ret ?_)))
   obtain rfl := Option.some.inj h
   refine ke (pt AF0 6 (.xi (-1))) [] rfl ?_ ⟨rfl, rfl⟩
   exact so (lq rfl lt0)
  ·refine k_skip (zaa (zac (kr ?_)))
   refine qa (.xi 0) rfl ?_
   refine G_nil (zaa (k_ret ?_))
   obtain rfl := Option.some.inj h
   refine ke (pt AF0 6 (.xi 0)) [] rfl ?_ ⟨rfl, rfl⟩
   exact so (lq rfl lt0)
set_option maxHeartbeats 4000000 in
theorem m_value_compare_F_ok (self_value_compare : (List UInt8) → (List UInt8) → Option Int) (hself_value_compare : ∀ (a0 : List UInt8) (a1 : List UInt8) (r : Int), self_value_compare a0 a1 = some r → Pure Tryz.prog 124 [(.exact (.string (bs a0))), (.exact (.string (bs a1)))] (.exact (.int .i64 r))) (a0 : List UInt8) (a1 : List UInt8) (r : Int) (h : m_value_compare_F self_value_compare a0 a1 = some r) : Pure Tryz.prog 124 [(.exact (.string (bs a0))), (.exact (.string (bs a1)))] (.exact (.int .i64 r)) := by
 unfold m_value_compare_F at h
 refine Pure.ofFun (fun_of_awp Tryz.func124 rfl Tryz.ntmps124 (by simp) rfl (res1 rfl) fun E hE => k_end ?_)
 refine zac (kr ?_)
 refine qa (.xi 0) rfl ?_
 refine G_nil (zaa (zac (zac (kr ?_))))
 refine qm (.xs a0) rfl ?_
 refine qm (.xs a1) rfl ?_
 refine G_q rfl (op_eqlS rfl rfl ?_)
 refine G_nil (zaa ?_)
 refine kd (p := a0 = a1) rfl h (fun hc h => ?_) (fun hc h => ?_)
 ·refine zac (kr ?_)
  refine qa (.xi 0) rfl ?_
  refine G_nil (zaa (k_ret (kC_ret ?_)))
  obtain rfl := Option.some.inj h
  refine ke (pt AF0 4 (.xi 0)) [] rfl ?_ ⟨rfl, rfl⟩
  exact so (lq rfl lt0)
 ·refine k_skip (zaa (zac (zac ?_)))
  refine k_plan [] [(0, 0), (0, 1), (0, 2), (0, 3), (0, 4), (0, 5)] hmixP (by kernel_rfl) ?_
  refine P_q no34_0 rfl (zag (av := .xs a0) rfl ?_)
  obtain ⟨n1, h⟩ := need_some h
  refine P_q no34_0 rfl (op_index_str (by kernel_rfl) rfl rfl n1.1 n1.2 ?_)
  refine P_q no34_0 rfl (zag (av := .xs a1) rfl ?_)
  obtain ⟨n2, h⟩ := need_some h
  refine P_q no34_0 rfl (op_index_str (by kernel_rfl) rfl rfl n2.1 n2.2 ?_)
  obtain ⟨y3, hy3, h⟩ := bnd1_some h
  refine P_q no34_0 rfl (zaf (m_cmp_Compare_byte_ok _ _ _ hy3) Tryz.func139 (by kernel_rfl) (LEs.cons (AV.le_eq rfl) (LEs.cons (AV.le_eq rfl) LEs.nil)) ?_)
  refine P_q no34_0 rfl (op_assign (av := .xi y3) rfl ?_)
  refine P_nil (zaa (zac (kr ?_)))
  refine qm (.xi y3) rfl ?_
  refine G_q rfl (op_neq rfl rfl ?_)
  refine G_nil (zaa ?_)
  refine kd (p := ¬ y3 = 0) rfl h (fun hc h => ?_) (fun hc h => ?_)
  ·refine zac (kr ?_)
   refine qm (.xi y3) rfl ?_
   refine qa (.xi y3) rfl ?_
   refine G_nil (zaa (k_ret (kC_ret ?_)))
   obtain rfl := Option.some.inj h
   refine ke (pt AF0 4 (.xi y3)) [] rfl ?_ ⟨rfl, rfl⟩
   exact so (lq rfl lt0)
  ·refine k_skip (zaa (zac (zac (kr ?_))))
   refine qm (.xs a0) rfl ?_
   obtain ⟨n4, h⟩ := need_some h
   refine G_q rfl (op_index_str (by kernel_rfl) rfl rfl n4.1 n4.2 ?_)
   refine G_q rfl (op_eqlU (a := (gi a0 0)) (b := 1) rfl rfl ?_)
   refine G_nil (zaa ?_)
   refine kd (p := (gi a0 0) = 1) rfl h (fun hc h => ?_) (fun hc h => ?_)
   ·refine zac (kr ?_)
    refine qm (.xs a0) rfl ?_
    obtain ⟨y5, hy5, h⟩ := bnd1_some h
    refine G_q rfl (zaf (m_value_integer_ok _ _ hy5) Tryz.func106 (by kernel_rfl) (LEs.cons (AV.le_eq rfl) LEs.nil) ?_)
    refine qm (.xs a1) rfl ?_
    obtain ⟨y6, hy6, h⟩ := bnd1_some h
    refine G_q rfl (zaf (m_value_integer_ok _ _ hy6) Tryz.func106 (by kernel_rfl) (LEs.cons (AV.le_eq rfl) LEs.nil) ?_)
    obtain ⟨y7, hy7, h⟩ := bnd1_some h
    refine G_q rfl (zaf (m_cmp_Compare_int64_ok _ _ _ hy7) Tryz.func140 (by kernel_rfl) (LEs.cons (AV.le_eq rfl) (LEs.cons (AV.le_eq rfl) LEs.nil)) ?_)
    refine qa (.xi y7) rfl ?_
    refine G_nil (zaa (k_ret (kC_ret ?_)))
    obtain rfl := Option.some.inj h
    refine ke (pt AF0 4 (.xi y7)) [] rfl ?_ ⟨rfl, rfl⟩
    exact so (lq rfl lt0)
   ·refine k_skip (zaa (zac (zac (kr ?_))))
    refine qm (.xs a0) rfl ?_
    obtain ⟨n8, h⟩ := need_some h
    refine G_q rfl (op_index_str (by kernel_rfl) rfl rfl n8.1 n8.2 ?_)
    refine G_q rfl (op_convInt (k := .i64) (r := (UInt8.toNat (gi a0 0) : Int)) (by kernel_rfl) rfl (wrap_u8 rfl _) ?_)
    obtain ⟨y9, hy9, h⟩ := bnd1_some h
    refine G_q rfl (zaf (m_value_simple_ok _ _ hy9) Tryz.func82 (by kernel_rfl) (LEs.cons (AV.le_eq rfl) LEs.nil) ?_)
    refine G_nil (zaa ?_)
    refine kb (p := y9) rfl h (fun hc h => ?_) (fun hc h => ?_)
    ·refine zac (kr ?_)
     refine qm (.xs a0) rfl ?_
     refine qm (.xs a1) rfl ?_
     obtain ⟨y10, hy10, h⟩ := bnd1_some h
     refine G_q rfl (zaf (m_cmp_Compare_api_Value_ok _ _ _ hy10) Tryz.func125 (by kernel_rfl) (LEs.cons (AV.le_eq rfl) (LEs.cons (AV.le_eq rfl) LEs.nil)) ?_)
     refine qa (.xi y10) rfl ?_
     refine G_nil (zaa (k_ret (kC_ret ?_)))
     obtain rfl := Option.some.inj h
     refine ke (pt AF0 4 (.xi y10)) [] rfl ?_ ⟨rfl, rfl⟩
     exact so (lq rfl lt0)
    ·refine k_skip (zaa (zac (kr ?_)))
     refine qm (.xs a0) rfl ?_
     obtain ⟨y11, hy11, h⟩ := bnd1_some h
     refine G_q rfl (zaf (m_value_parts_ok _ _ hy11) Tryz.func83 (by kernel_rfl) (LEs.cons (AV.le_eq rfl) LEs.nil) ?_)
     refine qm (.xs a1) rfl ?_
     obtain ⟨y12, hy12, h⟩ := bnd1_some h
     refine G_q rfl (zaf (m_value_parts_ok _ _ hy12) Tryz.func83 (by kernel_rfl) (LEs.cons (AV.le_eq rfl) LEs.nil) ?_)
     obtain ⟨y13, hy13, h⟩ := bnd1_some h
     refine G_q rfl (zaf (m_slices_CompareFunc_L_api_Value_L_api_Value_api_Value_api_Value_ok _ _ _ _ hy13) Tryz.func141 (by kernel_rfl) (LEs.cons (AV.le_eq rfl) (LEs.cons (AV.le_eq rfl) (LEs.cons ((fn_le Tryz.func124 (by kernel_rfl) (fun i r h => hself_value_compare i.1 i.2 r h))) LEs.nil))) ?_)
     refine qa (.xi y13) rfl ?_
     refine G_nil (zaa (k_ret ?_))
     obtain rfl := Option.some.inj h
     refine ke (pt AF0 4 (.xi y13)) [] rfl ?_ ⟨rfl, rfl⟩
     exact so (lq rfl lt0)
end Go.Proofs.YtjlbdhicabgliaaGreat
/- The functions compute their models, by program. -/
namespace Go.Proofs.YtjlbdhicabgliaaGreat
open Go.RowKit
attribute [local irreducible] AV.exact AV.top AV.row AV.ptr AV.agg AV.tup AV.eptr AV.fn AV.nilq AV.nilqn opA opB opM opR Quiet Loud Reads wpG awp den Sub SubU Pure Fun vecI vecT boxI CellsAll CellsOf OneC LEs LEss
set_option maxRecDepth 100000

set_option maxHeartbeats 4000000 in
theorem m_value_compare_S_ok : ∀ n : Nat, (∀ (a0 : List UInt8) (a1 : List UInt8) (r : Int), m_value_compare_S n a0 a1 = some r → Pure Tryz.prog 124 [(.exact (.string (bs a0))), (.exact (.string (bs a1)))] (.exact (.int .i64 r)))
  | 0 => (fun _ _ _ h => by have h' : (none : Option _) = some _ := h; cases h')
  | n + 1 => by
    have ih := m_value_compare_S_ok n
    exact fun a0 a1 r h => m_value_compare_F_ok (m_value_compare_S n) ih a0 a1 r h
theorem m_value_compare_ok (a0 : List UInt8) (a1 : List UInt8) (r : Int) (h : m_value_compare a0 a1 = some r) : Pure Tryz.prog 124 [(.exact (.string (bs a0))), (.exact (.string (bs a1)))] (.exact (.int .i64 r)) := (m_value_compare_S_ok FU) a0 a1 r h
set_option maxHeartbeats 4000000 in
theorem m_value_ascending_ok (a0 : List (List UInt8)) (r : Bool) (h : m_value_ascending a0 = some r) : Pure Tryz.prog 127 [(.row 1 zab a0)] (.exact (.bool r)) := by
 unfold m_value_ascending at h
 refine Pure.ofFun (fun_of_awp Tryz.func127 rfl Tryz.ntmps127 (by simp) rfl (res1 rfl) fun E hE => k_end ?_)
 refine zac (kr ?_)
 refine qa (.xb false) rfl ?_
 refine G_nil (zaa ?_)
 refine k_join0_0 h (AF0) ([]) (fun k1 h => ?_) (fun  h => ?_)
 ·refine zac (kr ?_)
  refine qa (.xi 1) rfl ?_
  refine G_nil (zaa (k_block ?_))
  refine k_loop1_0 (m_value_ascending_L2 a0 k1) (m_value_ascending_B2 a0 k1) (fun _ => rfl) (fun m _ => rfl) h (fun (x3_l2 : Int) => (pt (pt AF0 0 (.row 1 zab a0)) 3 (.xi x3_l2))) (fun (x3_l2 : Int) => []) ?_ (fun rec2 x3_l2 h => ?_)
  ·exact so (lq rfl (lq rfl lt0))
  ·unfold m_value_ascending_B2 at h
   refine zac (zac (kr ?_))
   refine qm (.xi x3_l2) rfl ?_
   refine qm (.row 1 zab a0) rfl ?_
   refine G_q rfl (zai (by kernel_rfl) rfl ?_)
   refine G_q rfl (op_lss rfl rfl ?_)
   refine G_nil (zaa ?_)
   refine kd (p := x3_l2 < (List.length a0 : Int)) rfl h (fun hc h => ?_) (fun hc h => ?_)
   ·refine k_skip (zaa (zac (k_block (zac ?_))))
    refine k_plan [] [(0, 0), (0, 1), (0, 2), (0, 3), (0, 4), (0, 5), (0, 6), (0, 7), (0, 8), (0, 9), (0, 10)] hmixP (by kernel_rfl) ?_
    refine P_q no34_0 rfl (zag (av := .row 1 zab a0) rfl ?_)
    refine P_q no34_0 rfl (zag (av := .xi x3_l2) rfl ?_)
    refine P_q no34_0 rfl (op_sub rfl rfl rfl ?_)
    obtain ⟨n18, h⟩ := need_some h
    refine P_q no34_0 rfl (zaj (by kernel_rfl) rfl rfl n18.1 n18.2 ?_)
    refine P_q no34_0 rfl (op_load1p (a := .xs (gi a0 (i64 (x3_l2 - 1)))) (by kernel_rfl) rfl rfl ?_)
    refine P_q no34_0 rfl (zag (av := .row 1 zab a0) rfl ?_)
    refine P_q no34_0 rfl (zag (av := .xi x3_l2) rfl ?_)
    obtain ⟨n19, h⟩ := need_some h
    refine P_q no34_0 rfl (zaj (by kernel_rfl) rfl rfl n19.1 n19.2 ?_)
    refine P_q no34_0 rfl (op_load1p (a := .xs (gi a0 x3_l2)) (by kernel_rfl) rfl rfl ?_)
    obtain ⟨y20, hy20, h⟩ := bnd1_some h
    refine P_q no34_0 rfl (zaf (m_value_compare_ok _ _ _ hy20) Tryz.func124 (by kernel_rfl) (LEs.cons (AV.le_eq rfl) (LEs.cons (AV.le_eq rfl) LEs.nil)) ?_)
    refine P_q no34_0 rfl (op_geq rfl rfl ?_)
    refine P_nil (zaa ?_)
    refine kd (p := 0 ≤ y20) rfl h (fun hc h => ?_) (fun hc h => ?_)
    ·refine zac (kr ?_)
     refine qa (.xb false) rfl ?_
     refine G_nil (zaa (k_ret (kB_ret (kC_ret (kI_ret (kB_ret (kI_ret ?_)))))))
     obtain rfl := Option.some.inj h
     refine ke (pt AF0 2 (.xb false)) [] rfl ?_ ⟨rfl, rfl⟩
     exact so (lq rfl lt0)
    ·refine k_skip (kB_normal (zaa (kr ?_)))
     refine qm (.xi x3_l2) rfl ?_
     refine G_q rfl (op_add rfl rfl rfl ?_)
     refine qa (.xi (i64 (x3_l2 + 1))) rfl ?_
     refine G_nil ?_
     refine zad ⟨_, h, ?_⟩
     exact so (lq rfl (lq rfl lt0))
   ·refine k_exit (kC_exit (kI_exit (kB_exit ?_)))
    refine zad ⟨h, ?_⟩
    exact Sub.of_le lt0
 ·refine zac (kr ?_)
  refine qa (.xb true) rfl ?_
  refine G_nil (zaa (k_ret ?_))
  obtain rfl := Option.some.inj h
  refine ke (pt AF0 2 (.xb true)) [] rfl ?_ ⟨rfl, rfl⟩
  exact so (lq rfl lt0)
set_option maxHeartbeats 4000000 in
theorem m_value_between_ok (a0 : List UInt8) (a1 : Int) (a2 : Int) (r : Bool) (h : m_value_between a0 a1 a2 = some r) : Pure Tryz.prog 128 [(.exact (.string (bs a0))), (.exact (.int .i64 a1)), (.exact (.int .i64 a2))] (.exact (.bool r)) := by
 unfold m_value_between at h
 refine Pure.ofFun (fun_of_awp Tryz.func128 rfl Tryz.ntmps128 (by simp) rfl (res1 rfl) fun E hE => k_end ?_)
 refine zac (kr ?_)
 refine qa (.xb false) rfl ?_
 refine G_nil (zaa ?_)
 refine k_join1_0 h (fun (x6_j1 : Bool) => (pt AF0 6 (.xb x6_j1))) (fun (x6_j1 : Bool) => []) (fun k1 h => ?_) (fun x6_j1 h => ?_)
 ·refine kr ?_
  refine qm (.xs a0) rfl ?_
  obtain ⟨n5, h⟩ := need_some h
  refine G_q rfl (op_index_str (by kernel_rfl) rfl rfl n5.1 n5.2 ?_)
  refine G_q rfl (op_eqlU (a := (gi a0 0)) (b := 1) rfl rfl ?_)
  refine qm (.xb (decide ((gi a0 0) = 1))) rfl ?_
  refine G_split (p := (gi a0 0) = 1) 10 rfl (fun hc => ?_) (fun hc => ?_)
  ·replace h := ite_t h hc
   refine Gy_q rfl rfl rfl (zag (av := .xs a0) rfl ?_)
   obtain ⟨y6, hy6, h⟩ := bnd1_some h
   refine Gy_q rfl rfl rfl (zaf (m_value_integer_ok _ _ hy6) Tryz.func106 (by kernel_rfl) (LEs.cons (AV.le_eq rfl) LEs.nil) ?_)
   refine Gy_q rfl rfl rfl (zag (av := .xi a1) rfl ?_)
   refine Gy_q rfl rfl rfl (op_geq rfl rfl ?_)
   refine G_q rfl (op_pick_t rfl (av := .xb (decide (a1 ≤ y6))) rfl ?_)
   refine qm (.xb (decide (a1 ≤ y6))) rfl ?_
   refine G_split (p := a1 ≤ y6) 16 rfl (fun hc => ?_) (fun hc => ?_)
   ·replace h := ite_t h hc
    refine Gy_q rfl rfl rfl (zag (av := .xs a0) rfl ?_)
    obtain ⟨y7, hy7, h⟩ := bnd1_some h
    refine Gy_q rfl rfl rfl (zaf (m_value_integer_ok _ _ hy7) Tryz.func106 (by kernel_rfl) (LEs.cons (AV.le_eq rfl) LEs.nil) ?_)
    refine Gy_q rfl rfl rfl (zag (av := .xi a2) rfl ?_)
    refine Gy_q rfl rfl rfl (op_leq rfl rfl ?_)
    refine G_q rfl (op_pick_t rfl (av := .xb (decide (y7 ≤ a2))) rfl ?_)
    refine qa (.xb (decide (y7 ≤ a2))) rfl ?_
    refine G_nil ?_
    refine zad ⟨_, h, ?_⟩
    exact so (lq rfl lt0)
   ·replace h := ite_f h hc
    refine G_n rfl rfl (G_n rfl rfl (G_n rfl rfl (G_n rfl rfl ?_)))
    refine G_q rfl (zak rfl (av := .xb false) rfl ?_)
    refine qa (.xb false) rfl ?_
    refine G_nil ?_
    refine zad ⟨_, h, ?_⟩
    exact so (lq rfl lt0)
  ·replace h := ite_f h hc
   refine G_n rfl rfl (G_n rfl rfl (G_n rfl rfl (G_n rfl rfl ?_)))
   refine G_q rfl (zak rfl (av := .xb false) rfl ?_)
   refine qm (.xb false) rfl ?_
   refine G_n rfl rfl (G_n rfl rfl (G_n rfl rfl (G_n rfl rfl ?_)))
   refine G_q rfl (zak rfl (av := .xb false) rfl ?_)
   refine qa (.xb false) rfl ?_
   refine G_nil ?_
   refine zad ⟨_, h, ?_⟩
   exact so (lq rfl lt0)
 ·refine k_ret ?_
  obtain rfl := Option.some.inj h
  refine ke (pt AF0 6 (.xb x6_j1)) [] rfl ?_ ⟨rfl, rfl⟩
  exact so (lq rfl lt0)
set_option maxHeartbeats 4000000 in
theorem m_value_formed_ok (a0 : Int) (a1 : List (List UInt8)) (r : Bool) (h : m_value_formed a0 a1 = some r) : Pure Tryz.prog 121 [(.exact (.int .i64 a0)), (.row 1 zab a1)] (.exact (.bool r)) := by
 unfold m_value_formed at h
 refine Pure.ofFun (fun_of_awp Tryz.func121 rfl Tryz.ntmps121 (by simp) rfl (res1 rfl) fun E hE => k_end ?_)
 refine zac (kr ?_)
 refine qa (.xb false) rfl ?_
 refine G_nil (zaa (zac (kr ?_)))
 refine qm (.row 1 zab a1) rfl ?_
 refine G_q rfl (zai (by kernel_rfl) rfl ?_)
 refine qa (.xi (List.length a1 : Int)) rfl ?_
 refine G_nil (zaa ?_)
 refine k_join0_0 h (AF0) ([]) (fun k1 h => ?_) (fun  h => ?_)
 ·refine zac (kr ?_)
  refine qm (.xi a0) rfl ?_
  refine G_nil (zaa (k_block (zac (kr ?_))))
  refine G_q rfl (op_eql rfl rfl ?_)
  refine qa (.xb (decide (a0 = 3))) rfl ?_
  refine G_nil (zaa ?_)
  refine kd (p := a0 = 3) rfl h (fun hc h => ?_) (fun hc h => ?_)
  ·refine k_join1_0 h (fun (x4_j43 : Bool) => (pt AF0 4 (.xb x4_j43))) (fun (x4_j43 : Bool) => []) (fun k43 h => ?_) (fun x4_j43 h => ?_)
   ·refine kr ?_
    refine qm (.xi (List.length a1 : Int)) rfl ?_
    refine G_q rfl (op_geq rfl rfl ?_)
    refine qm (.xb (decide (2 ≤ (List.length a1 : Int)))) rfl ?_
    refine G_split (p := 2 ≤ (List.length a1 : Int)) 15 rfl (fun hc => ?_) (fun hc => ?_)
    ·replace h := ite_t h hc
     refine Gy_q rfl rfl rfl (zag (av := .xi (List.length a1 : Int)) rfl ?_)
     refine Gy_q rfl rfl rfl (op_leq rfl rfl ?_)
     refine G_q rfl (op_pick_t rfl (av := .xb (decide ((List.length a1 : Int) ≤ 8))) rfl ?_)
     refine qa (.xb (decide ((List.length a1 : Int) ≤ 8))) rfl ?_
     refine G_nil ?_
     refine zad ⟨_, h, ?_⟩
     exact so (lq rfl lt0)
    ·replace h := ite_f h hc
     refine G_n rfl rfl (G_n rfl rfl ?_)
     refine G_q rfl (zak rfl (av := .xb false) rfl ?_)
     refine qa (.xb false) rfl ?_
     refine G_nil ?_
     refine zad ⟨_, h, ?_⟩
     exact so (lq rfl lt0)
   ·refine k_ret (kB_ret (kI_ret ?_))
    obtain rfl := Option.some.inj h
    refine ke (pt AF0 4 (.xb x4_j43)) [] rfl ?_ ⟨rfl, rfl⟩
    exact so (lq rfl lt0)
  ·refine zac (kr ?_)
   refine G_q rfl (op_eql rfl rfl ?_)
   refine qa (.xb (decide (a0 = 5))) rfl ?_
   refine G_nil (zaa ?_)
   refine kd (p := a0 = 5) rfl h (fun hc h => ?_) (fun hc h => ?_)
   ·refine zac (kr ?_)
    refine qm (.row 1 zab a1) rfl ?_
    obtain ⟨y44, hy44, h⟩ := bnd1_some h
    refine G_q rfl (zaf (m_value_ascending_ok _ _ hy44) Tryz.func127 (by kernel_rfl) (LEs.cons (AV.le_eq rfl) LEs.nil) ?_)
    refine qa (.xb y44) rfl ?_
    refine G_nil (zaa (k_ret (kB_ret (kI_ret ?_))))
    obtain rfl := Option.some.inj h
    refine ke (pt AF0 4 (.xb y44)) [] rfl ?_ ⟨rfl, rfl⟩
    exact so (lq rfl lt0)
   ·refine zac (kr ?_)
    refine G_q rfl (op_eql rfl rfl ?_)
    refine qa (.xb (decide (a0 = 6))) rfl ?_
    refine G_nil (zaa ?_)
    refine kd (p := a0 = 6) rfl h (fun hc h => ?_) (fun hc h => ?_)
    ·refine zac (kr ?_)
     refine qa (.exact (.slice none 0 0)) rfl ?_
     refine G_nil (zaa ?_)
     refine k_join1_1 h (fun (x6_j45 : List (List UInt8)) (v6_j45 : Value) => (pt (pt AF0 5 (.xi (List.length a1 : Int))) 6 (.exact v6_j45))) (fun (x6_j45 : List (List UInt8)) (v6_j45 : Value) => [vecT Tryz.prog 23 1 zab v6_j45 x6_j45]) (fun k45 h => ?_) (fun x6_j45 v6_j45 h => ?_)
     ·refine zac (kr ?_)
      refine qa (.xi 0) rfl ?_
      refine G_nil (zaa (k_block ?_))
      refine k_loop2_1 (m_value_formed_L4 a1 k45) (m_value_formed_B4 a1 k45) (fun _ _ => rfl) (fun m _ _ => rfl) h (fun (x6_l4 : List (List UInt8)) (x7_l4 : Int) (v6_l4 : Value) => (pt (pt (pt (pt AF0 1 (.row 1 zab a1)) 5 (.xi (List.length a1 : Int))) 6 (.exact v6_l4)) 7 (.xi x7_l4))) (fun (x6_l4 : List (List UInt8)) (x7_l4 : Int) (v6_l4 : Value) => [vecT Tryz.prog 23 1 zab v6_l4 x6_l4]) (.slice none 0 0) ?_ (fun rec4 x6_l4 x7_l4 v6_l4 h => ?_)
      ·refine Sub.trans (SubU.to (SubU.nilT (P := Tryz.prog) (t := 23) (n := 1) (enc := zab))) ?_
       exact so (l4 rfl rfl rfl rfl lt0)
      ·unfold m_value_formed_B4 at h
       refine zac (zac (kr ?_))
       refine qm (.xi x7_l4) rfl ?_
       refine qm (.xi (List.length a1 : Int)) rfl ?_
       refine G_q rfl (op_lss rfl rfl ?_)
       refine G_nil (zaa ?_)
       refine kd (p := x7_l4 < (List.length a1 : Int)) rfl h (fun hc h => ?_) (fun hc h => ?_)
       ·refine k_skip (zaa (zac (k_block (kr ?_))))
        refine qm (.exact v6_l4) rfl ?_
        refine qm (.row 1 zab a1) rfl ?_
        refine qm (.xi x7_l4) rfl ?_
        obtain ⟨n62, h⟩ := need_some h
        refine G_q rfl (zaj (by kernel_rfl) rfl rfl n62.1 n62.2 ?_)
        refine G_q rfl (op_load1p (a := .xs (gi a1 x7_l4)) (by kernel_rfl) rfl rfl ?_)
        refine G_q rfl (op_litT (n := 1) (enc := zab) [gi a1 x7_l4] (CellsAll.cons rfl CellsOf.str CellsAll.nil) rfl (by kernel_rfl) (LEss.cons (LEs.cons (AV.le_eq rfl) LEs.nil) LEss.nil) ?_)
        obtain ⟨n63, h⟩ := need_some h
        refine G_l rfl (op_appT (by kernel_rfl) rfl rfl oc_c_api_Value n63 (fun v64 => ?_))
        refine qa (.exact v64) rfl ?_
        refine G_nil (kB_normal (zaa (kr ?_)))
        refine qm (.xi x7_l4) rfl ?_
        refine G_q rfl (op_add rfl rfl rfl ?_)
        refine qa (.xi (i64 (x7_l4 + 2))) rfl ?_
        refine G_nil ?_
        refine zad ⟨_, _, v64, h, ?_⟩
        exact so (l4 rfl rfl rfl rfl lt0)
       ·refine k_exit (kC_exit (kI_exit (kB_exit ?_)))
        refine zad ⟨_, v6_l4, h, ?_⟩
        exact so (lq rfl (lq rfl lt0))
     ·refine k_join1_0 h (fun (x4_j65 : Bool) => (pt AF0 4 (.xb x4_j65))) (fun (x4_j65 : Bool) => []) (fun k65 h => ?_) (fun x4_j65 h => ?_)
      ·refine kr ?_
       refine qm (.xi (List.length a1 : Int)) rfl ?_
       refine G_q rfl (op_rem rfl rfl (by decide) rfl ?_)
       refine G_q rfl (op_eql rfl rfl ?_)
       refine qm (.xb (decide ((Int.tmod (List.length a1 : Int) 2) = 0))) rfl ?_
       refine G_split (p := (Int.tmod (List.length a1 : Int) 2) = 0) 40 rfl (fun hc => ?_) (fun hc => ?_)
       ·replace h := ite_t h hc
        refine Gy_q rfl rfl rfl (zag (av := .exact v6_j45) rfl ?_)
        refine G_sub rfl (SubU.freezeT2 (s1 := 6) (s2 := 41) rfl rfl len_c_api_Value) ?_
        obtain ⟨y67, hy67, h⟩ := bnd1_some h
        refine Gy_q rfl rfl rfl (zaf (m_value_ascending_ok _ _ hy67) Tryz.func127 (by kernel_rfl) (LEs.cons (AV.le_eq rfl) LEs.nil) ?_)
        refine G_q rfl (op_pick_t rfl (av := .xb y67) rfl ?_)
        refine qa (.xb y67) rfl ?_
        refine G_nil ?_
        refine zad ⟨_, h, ?_⟩
        exact so (lq rfl lt0)
       ·replace h := ite_f h hc
        refine G_n rfl rfl (G_n rfl rfl ?_)
        refine G_q rfl (zak rfl (av := .xb false) rfl ?_)
        refine qa (.xb false) rfl ?_
        refine G_nil ?_
        refine zad ⟨_, h, ?_⟩
        refine Sub.trans (SubU.to SubU.drop) ?_
        exact so (lq rfl lt0)
      ·refine k_ret (kB_ret (kI_ret ?_))
       obtain rfl := Option.some.inj h
       refine ke (pt AF0 4 (.xb x4_j65)) [] rfl ?_ ⟨rfl, rfl⟩
       exact so (lq rfl lt0)
    ·refine zac (kr ?_)
     refine G_q rfl (op_eql rfl rfl ?_)
     refine qa (.xb (decide (a0 = 7))) rfl ?_
     refine G_nil (zaa ?_)
     refine kd (p := a0 = 7) rfl h (fun hc h => ?_) (fun hc h => ?_)
     ·refine k_join1_0 h (fun (x4_j68 : Bool) => (pt AF0 4 (.xb x4_j68))) (fun (x4_j68 : Bool) => []) (fun k68 h => ?_) (fun x4_j68 h => ?_)
      ·refine kr ?_
       refine qm (.xi (List.length a1 : Int)) rfl ?_
       refine G_q rfl (op_geq rfl rfl ?_)
       refine qm (.xb (decide (1 ≤ (List.length a1 : Int)))) rfl ?_
       refine G_split (p := 1 ≤ (List.length a1 : Int)) 48 rfl (fun hc => ?_) (fun hc => ?_)
       ·replace h := ite_t h hc
        refine Gy_q rfl rfl rfl (zag (av := .xi (List.length a1 : Int)) rfl ?_)
        refine Gy_q rfl rfl rfl (op_leq rfl rfl ?_)
        refine G_q rfl (op_pick_t rfl (av := .xb (decide ((List.length a1 : Int) ≤ 9))) rfl ?_)
        refine qm (.xb (decide ((List.length a1 : Int) ≤ 9))) rfl ?_
        refine G_split (p := (List.length a1 : Int) ≤ 9) 52 rfl (fun hc => ?_) (fun hc => ?_)
        ·replace h := ite_t h hc
         refine Gy_q rfl rfl rfl (zag (av := .row 1 zab a1) rfl ?_)
         obtain ⟨n71, h⟩ := need_some h
         refine Gy_q rfl rfl rfl (zaj (by kernel_rfl) rfl rfl n71.1 n71.2 ?_)
         refine Gy_q rfl rfl rfl (op_load1p (a := .xs (gi a1 0)) (by kernel_rfl) rfl rfl ?_)
         obtain ⟨n72, h⟩ := need_some h
         refine Gy_q rfl rfl rfl (op_index_str (by kernel_rfl) rfl rfl n72.1 n72.2 ?_)
         refine Gy_q rfl rfl rfl (op_eqlU (a := (gi (gi a1 0) 0)) (b := 10) rfl rfl ?_)
         refine G_q rfl (op_pick_t rfl (av := .xb (decide ((gi (gi a1 0) 0) = 10))) rfl ?_)
         refine qa (.xb (decide ((gi (gi a1 0) 0) = 10))) rfl ?_
         refine G_nil ?_
         refine zad ⟨_, h, ?_⟩
         exact so (lq rfl lt0)
        ·replace h := ite_f h hc
         refine G_n rfl rfl (G_n rfl rfl (G_n rfl rfl (G_n rfl rfl (G_n rfl rfl ?_))))
         refine G_q rfl (zak rfl (av := .xb false) rfl ?_)
         refine qa (.xb false) rfl ?_
         refine G_nil ?_
         refine zad ⟨_, h, ?_⟩
         exact so (lq rfl lt0)
       ·replace h := ite_f h hc
        refine G_n rfl rfl (G_n rfl rfl ?_)
        refine G_q rfl (zak rfl (av := .xb false) rfl ?_)
        refine qm (.xb false) rfl ?_
        refine G_n rfl rfl (G_n rfl rfl (G_n rfl rfl (G_n rfl rfl (G_n rfl rfl ?_))))
        refine G_q rfl (zak rfl (av := .xb false) rfl ?_)
        refine qa (.xb false) rfl ?_
        refine G_nil ?_
        refine zad ⟨_, h, ?_⟩
        exact so (lq rfl lt0)
      ·refine k_ret (kB_ret (kI_ret ?_))
       obtain rfl := Option.some.inj h
       refine ke (pt AF0 4 (.xb x4_j68)) [] rfl ?_ ⟨rfl, rfl⟩
       exact so (lq rfl lt0)
     ·refine zac (kr ?_)
      refine G_q rfl (op_eql rfl rfl ?_)
      refine qa (.xb (decide (a0 = 8))) rfl ?_
      refine G_nil (zaa ?_)
      refine kd (p := a0 = 8) rfl h (fun hc h => ?_) (fun hc h => ?_)
      ·refine k_join1_0 h (fun (x4_j73 : Bool) => (pt AF0 4 (.xb x4_j73))) (fun (x4_j73 : Bool) => []) (fun k73 h => ?_) (fun x4_j73 h => ?_)
       ·refine kr ?_
        refine qm (.xi (List.length a1 : Int)) rfl ?_
        refine G_q rfl (op_geq rfl rfl ?_)
        refine qm (.xb (decide (1 ≤ (List.length a1 : Int)))) rfl ?_
        refine G_split (p := 1 ≤ (List.length a1 : Int)) 63 rfl (fun hc => ?_) (fun hc => ?_)
        ·replace h := ite_t h hc
         refine Gy_q rfl rfl rfl (zag (av := .xi (List.length a1 : Int)) rfl ?_)
         refine Gy_q rfl rfl rfl (op_leq rfl rfl ?_)
         refine G_q rfl (op_pick_t rfl (av := .xb (decide ((List.length a1 : Int) ≤ 33))) rfl ?_)
         refine qm (.xb (decide ((List.length a1 : Int) ≤ 33))) rfl ?_
         refine G_split (p := (List.length a1 : Int) ≤ 33) 67 rfl (fun hc => ?_) (fun hc => ?_)
         ·replace h := ite_t h hc
          refine Gy_q rfl rfl rfl (zag (av := .row 1 zab a1) rfl ?_)
          obtain ⟨n76, h⟩ := need_some h
          refine Gy_q rfl rfl rfl (zaj (by kernel_rfl) rfl rfl n76.1 n76.2 ?_)
          refine Gy_q rfl rfl rfl (op_load1p (a := .xs (gi a1 0)) (by kernel_rfl) rfl rfl ?_)
          obtain ⟨y77, hy77, h⟩ := bnd1_some h
          refine Gy_q rfl rfl rfl (zaf (m_value_between_ok _ _ _ _ hy77) Tryz.func128 (by kernel_rfl) (LEs.cons (AV.le_eq rfl) (LEs.cons (AV.le_eq rfl) (LEs.cons (AV.le_eq rfl) LEs.nil))) ?_)
          refine G_q rfl (op_pick_t rfl (av := .xb y77) rfl ?_)
          refine qa (.xb y77) rfl ?_
          refine G_nil ?_
          refine zad ⟨_, h, ?_⟩
          exact so (lq rfl lt0)
         ·replace h := ite_f h hc
          refine G_n rfl rfl (G_n rfl rfl (G_n rfl rfl (G_n rfl rfl ?_)))
          refine G_q rfl (zak rfl (av := .xb false) rfl ?_)
          refine qa (.xb false) rfl ?_
          refine G_nil ?_
          refine zad ⟨_, h, ?_⟩
          exact so (lq rfl lt0)
        ·replace h := ite_f h hc
         refine G_n rfl rfl (G_n rfl rfl ?_)
         refine G_q rfl (zak rfl (av := .xb false) rfl ?_)
         refine qm (.xb false) rfl ?_
         refine G_n rfl rfl (G_n rfl rfl (G_n rfl rfl (G_n rfl rfl ?_)))
         refine G_q rfl (zak rfl (av := .xb false) rfl ?_)
         refine qa (.xb false) rfl ?_
         refine G_nil ?_
         refine zad ⟨_, h, ?_⟩
         exact so (lq rfl lt0)
       ·refine k_ret (kB_ret (kI_ret ?_))
        obtain rfl := Option.some.inj h
        refine ke (pt AF0 4 (.xb x4_j73)) [] rfl ?_ ⟨rfl, rfl⟩
        exact so (lq rfl lt0)
      ·refine zac (kr ?_)
       refine G_q rfl (op_eql rfl rfl ?_)
       refine qa (.xb (decide (a0 = 9))) rfl ?_
       refine G_nil (zaa ?_)
       refine kd (p := a0 = 9) rfl h (fun hc h => ?_) (fun hc h => ?_)
       ·refine k_join1_0 h (fun (x4_j78 : Bool) => (pt AF0 4 (.xb x4_j78))) (fun (x4_j78 : Bool) => []) (fun k78 h => ?_) (fun x4_j78 h => ?_)
        ·refine kr ?_
         refine qm (.xi (List.length a1 : Int)) rfl ?_
         refine G_q rfl (op_geq rfl rfl ?_)
         refine qm (.xb (decide (1 ≤ (List.length a1 : Int)))) rfl ?_
         refine G_split (p := 1 ≤ (List.length a1 : Int)) 77 rfl (fun hc => ?_) (fun hc => ?_)
         ·replace h := ite_t h hc
          refine Gy_q rfl rfl rfl (zag (av := .row 1 zab a1) rfl ?_)
          obtain ⟨n81, h⟩ := need_some h
          refine Gy_q rfl rfl rfl (zaj (by kernel_rfl) rfl rfl n81.1 n81.2 ?_)
          refine Gy_q rfl rfl rfl (op_load1p (a := .xs (gi a1 0)) (by kernel_rfl) rfl rfl ?_)
          obtain ⟨y82, hy82, h⟩ := bnd1_some h
          refine Gy_q rfl rfl rfl (zaf (m_value_between_ok _ _ _ _ hy82) Tryz.func128 (by kernel_rfl) (LEs.cons (AV.le_eq rfl) (LEs.cons (AV.le_eq rfl) (LEs.cons (AV.le_eq rfl) LEs.nil))) ?_)
          refine G_q rfl (op_pick_t rfl (av := .xb y82) rfl ?_)
          refine qa (.xb y82) rfl ?_
          refine G_nil ?_
          refine zad ⟨_, h, ?_⟩
          exact so (lq rfl lt0)
         ·replace h := ite_f h hc
          refine G_n rfl rfl (G_n rfl rfl (G_n rfl rfl (G_n rfl rfl ?_)))
          refine G_q rfl (zak rfl (av := .xb false) rfl ?_)
          refine qa (.xb false) rfl ?_
          refine G_nil ?_
          refine zad ⟨_, h, ?_⟩
          exact so (lq rfl lt0)
        ·refine k_ret (kB_ret (kI_ret ?_))
         obtain rfl := Option.some.inj h
         refine ke (pt AF0 4 (.xb x4_j78)) [] rfl ?_ ⟨rfl, rfl⟩
         exact so (lq rfl lt0)
       ·refine k_skip (kB_normal ?_)
        refine zad ⟨h, ?_⟩
        exact Sub.of_le lt0
 ·refine zac (kr ?_)
  refine qa (.xb true) rfl ?_
  refine G_nil (zaa (k_ret ?_))
  obtain rfl := Option.some.inj h
  refine ke (pt AF0 4 (.xb true)) [] rfl ?_ ⟨rfl, rfl⟩
  exact so (lq rfl lt0)
set_option maxHeartbeats 4000000 in
theorem m_value_long_ok (self_value_length : (List UInt8) → Int → Option Int) (hself_value_length : ∀ (a0 : List UInt8) (a1 : Int) (r : Int), self_value_length a0 a1 = some r → Pure Tryz.prog 80 [(.exact (.string (bs a0))), (.exact (.int .i64 a1))] (.exact (.int .i64 r))) (a0 : List UInt8) (a1 : Int) (r : Int) (h : m_value_long self_value_length a0 a1 = some r) : Pure Tryz.prog 107 [(.exact (.string (bs a0))), (.exact (.int .i64 a1))] (.exact (.int .i64 r)) := by
 unfold m_value_long at h
 refine Pure.ofFun (fun_of_awp Tryz.func107 rfl Tryz.ntmps107 (by simp) rfl (res1 rfl) fun E hE => k_end ?_)
 refine zac (kr ?_)
 refine qa (.xi 0) rfl ?_
 refine G_nil (zaa (zac (zac (kr ?_))))
 refine qm (.xs a0) rfl ?_
 refine G_q rfl (op_lenS (by kernel_rfl) rfl ?_)
 refine G_q rfl (op_lss rfl rfl ?_)
 refine G_nil (zaa ?_)
 refine kd (p := (List.length a0 : Int) < 3) rfl h (fun hc h => ?_) (fun hc h => ?_)
 ·refine zac (kr ?_)
  refine qa (.xi 0) rfl ?_
  refine G_nil (zaa (k_ret (kC_ret ?_)))
  obtain rfl := Option.some.inj h
  refine ke (pt AF0 4 (.xi 0)) [] rfl ?_ ⟨rfl, rfl⟩
  exact so (lq rfl lt0)
 ·refine k_skip (zaa (zac (kr ?_)))
  refine qa (.xi 3) rfl ?_
  refine G_nil (zaa (zac (kr ?_)))
  refine qa (.exact (.slice none 0 0)) rfl ?_
  refine G_nil (zaa ?_)
  refine k_join2_1 h (fun (x5_j1 : Int) (x6_j1 : List (List UInt8)) (v6_j1 : Value) => (pt (pt (pt AF0 0 (.xs a0)) 5 (.xi x5_j1)) 6 (.exact v6_j1))) (fun (x5_j1 : Int) (x6_j1 : List (List UInt8)) (v6_j1 : Value) => [vecT Tryz.prog 23 1 zab v6_j1 x6_j1]) (fun k1 h => ?_) (fun x5_j1 x6_j1 v6_j1 h => ?_)
  ·refine zac ?_
   refine k_plan [] [(0, 0), (0, 1), (0, 2), (0, 3), (0, 4), (0, 5), (0, 6), (0, 7), (0, 8)] hmixP (by kernel_rfl) ?_
   refine P_q no34_0 rfl (zag (av := .xs a0) rfl ?_)
   obtain ⟨n20, h⟩ := need_some h
   refine P_q no34_0 rfl (op_index_str (by kernel_rfl) rfl rfl n20.1 n20.2 ?_)
   refine P_q no34_0 rfl (op_convInt (k := .i64) (r := (UInt8.toNat (gi a0 1) : Int)) (by kernel_rfl) rfl (wrap_u8 rfl _) ?_)
   refine P_q no34_0 rfl (op_shl rfl rfl (by decide) rfl ?_)
   refine P_q no34_0 rfl (zag (av := .xs a0) rfl ?_)
   obtain ⟨n21, h⟩ := need_some h
   refine P_q no34_0 rfl (op_index_str (by kernel_rfl) rfl rfl n21.1 n21.2 ?_)
   refine P_q no34_0 rfl (op_convInt (k := .i64) (r := (UInt8.toNat (gi a0 2) : Int)) (by kernel_rfl) rfl (wrap_u8 rfl _) ?_)
   refine P_q no34_0 rfl (op_or rfl rfl rfl ?_)
   refine P_q no34_0 rfl (zag (av := .xi 0) rfl ?_)
   refine P_nil (zaa (k_block ?_))
   refine k_loop3_1 (m_value_long_L2 self_value_length a0 a1 k1) (m_value_long_B2 self_value_length a0 a1 k1) (fun _ _ _ => rfl) (fun m _ _ _ => rfl) h (fun (x5_l2 : Int) (x6_l2 : List (List UInt8)) (x19_l2 : Int) (v6_l2 : Value) => (pt (pt (pt (pt (pt (pt AF0 0 (.xs a0)) 1 (.xi a1)) 5 (.xi x5_l2)) 6 (.exact v6_l2)) 18 (.xi (bOr .i64 (i64 ((UInt8.toNat (gi a0 1) : Int) * 2 ^ min (Int.toNat 8) IntKind.i64.bits)) (UInt8.toNat (gi a0 2) : Int)))) 19 (.xi x19_l2))) (fun (x5_l2 : Int) (x6_l2 : List (List UInt8)) (x19_l2 : Int) (v6_l2 : Value) => [vecT Tryz.prog 23 1 zab v6_l2 x6_l2]) (.slice none 0 0) ?_ (fun rec2 x5_l2 x6_l2 x19_l2 v6_l2 h => ?_)
   ·refine Sub.trans (SubU.to (SubU.nilT (P := Tryz.prog) (t := 23) (n := 1) (enc := zab))) ?_
    exact so (l4 rfl rfl rfl rfl (lq rfl (lq rfl lt0)))
   ·unfold m_value_long_B2 at h
    refine zac (kr ?_)
    refine G_q rfl (op_lss rfl rfl ?_)
    refine G_nil (zaa (zac ?_))
    refine kd (p := x19_l2 < (bOr .i64 (i64 ((UInt8.toNat (gi a0 1) : Int) * 2 ^ min (Int.toNat 8) IntKind.i64.bits)) (UInt8.toNat (gi a0 2) : Int))) rfl h (fun hc h => ?_) (fun hc h => ?_)
    ·refine k_skip (zaa (zac (k_block (zac (kr ?_)))))
     refine qm (.xs a0) rfl ?_
     refine qm (.xi x5_l2) rfl ?_
     obtain ⟨n32, h⟩ := need_some h
     refine G_q rfl (op_slice_strd (by kernel_rfl) rfl (bnd_some rfl) bnd_none n32.1 n32.2 (Int.le_refl _) ?_)
     refine qm (.xi a1) rfl ?_
     refine G_q rfl (op_add rfl rfl rfl ?_)
     obtain ⟨y33, hy33, h⟩ := bnd1_some h
     refine G_q rfl (zaf (hself_value_length _ _ _ hy33) Tryz.func80 (by kernel_rfl) (LEs.cons (AV.le_eq rfl) (LEs.cons (AV.le_eq rfl) LEs.nil)) ?_)
     refine qa (.xi y33) rfl ?_
     refine G_nil (zaa (zac (zac (kr ?_))))
     refine qm (.xi y33) rfl ?_
     refine G_q rfl (op_eql rfl rfl ?_)
     refine G_nil (zaa ?_)
     refine kd (p := y33 = 0) rfl h (fun hc h => ?_) (fun hc h => ?_)
     ·refine zac (kr ?_)
      refine qa (.xi 0) rfl ?_
      refine G_nil (zaa (k_ret (kC_ret (kB_ret (kC_ret (kI_ret (kB_ret (kI_ret ?_))))))))
      obtain rfl := Option.some.inj h
      refine ke (pt AF0 4 (.xi 0)) [] rfl ?_ ⟨rfl, rfl⟩
      refine Sub.trans (SubU.to SubU.drop) ?_
      exact so (lq rfl lt0)
     ·refine k_skip (zaa (zac (kr ?_)))
      refine qm (.exact v6_l2) rfl ?_
      refine qm (.xs a0) rfl ?_
      refine qm (.xi x5_l2) rfl ?_
      refine qm (.xi x5_l2) rfl ?_
      refine qm (.xi y33) rfl ?_
      refine G_q rfl (op_add rfl rfl rfl ?_)
      obtain ⟨n34, h⟩ := need_some h
      refine G_q rfl (op_slice_str (by kernel_rfl) rfl (bnd_some rfl) (bnd_some rfl) n34.1 n34.2.1 n34.2.2 ?_)
      refine G_q rfl (op_litT (n := 1) (enc := zab) [List.take (Int.toNat (i64 (x5_l2 + y33)) - Int.toNat x5_l2) (List.drop (Int.toNat x5_l2) a0)] (CellsAll.cons rfl CellsOf.str CellsAll.nil) rfl (by kernel_rfl) (LEss.cons (LEs.cons (AV.le_eq rfl) LEs.nil) LEss.nil) ?_)
      obtain ⟨n35, h⟩ := need_some h
      refine G_l rfl (op_appT (by kernel_rfl) rfl rfl oc_c_api_Value n35 (fun v36 => ?_))
      refine qa (.exact v36) rfl ?_
      refine G_nil (zaa (kr ?_))
      refine qm (.xi x5_l2) rfl ?_
      refine qm (.xi y33) rfl ?_
      refine G_q rfl (op_add rfl rfl rfl ?_)
      refine qa (.xi (i64 (x5_l2 + y33))) rfl ?_
      refine G_nil (kB_normal (zaa (kr ?_)))
      refine G_q rfl (op_add rfl rfl rfl ?_)
      refine qm (.xi (i64 (x19_l2 + 1))) rfl ?_
      refine G_nil ?_
      refine zad ⟨_, _, _, v36, h, ?_⟩
      exact so (l4 rfl rfl rfl rfl (lq rfl (lq rfl lt0)))
    ·refine k_exit (kC_exit (kI_exit (kB_exit ?_)))
     refine zad ⟨_, _, v6_l2, h, ?_⟩
     exact so (lq rfl (lq rfl (lq rfl lt0)))
  ·refine zac (zac (kr ?_))
   refine qm (.xs a0) rfl ?_
   obtain ⟨n37, h⟩ := need_some h
   refine G_q rfl (op_index_str (by kernel_rfl) rfl rfl n37.1 n37.2 ?_)
   refine G_q rfl (op_convInt (k := .i64) (r := (UInt8.toNat (gi a0 0) : Int)) (by kernel_rfl) rfl (wrap_u8 rfl _) ?_)
   refine qm (.exact v6_j1) rfl ?_
   refine G_sub rfl (SubU.freezeT2 (s1 := 6) (s2 := 45) rfl rfl len_c_api_Value) ?_
   obtain ⟨y38, hy38, h⟩ := bnd1_some h
   refine G_q rfl (zaf (m_value_formed_ok _ _ _ hy38) Tryz.func121 (by kernel_rfl) (LEs.cons (AV.le_eq rfl) (LEs.cons (AV.le_eq rfl) LEs.nil)) ?_)
   refine G_q rfl (op_not rfl ?_)
   refine G_nil (zaa ?_)
   refine kb (p := !y38) rfl h (fun hc h => ?_) (fun hc h => ?_)
   ·refine zac (kr ?_)
    refine qa (.xi 0) rfl ?_
    refine G_nil (zaa (k_ret (kC_ret ?_)))
    obtain rfl := Option.some.inj h
    refine ke (pt AF0 4 (.xi 0)) [] rfl ?_ ⟨rfl, rfl⟩
    exact so (lq rfl lt0)
   ·refine k_skip (zaa (zac (kr ?_)))
    refine qm (.xi x5_j1) rfl ?_
    refine qa (.xi x5_j1) rfl ?_
    refine G_nil (zaa (k_ret ?_))
    obtain rfl := Option.some.inj h
    refine ke (pt AF0 4 (.xi x5_j1)) [] rfl ?_ ⟨rfl, rfl⟩
    exact so (lq rfl lt0)
set_option maxHeartbeats 4000000 in
theorem m_value_length_F_ok (self_value_length : (List UInt8) → Int → Option Int) (hself_value_length : ∀ (a0 : List UInt8) (a1 : Int) (r : Int), self_value_length a0 a1 = some r → Pure Tryz.prog 80 [(.exact (.string (bs a0))), (.exact (.int .i64 a1))] (.exact (.int .i64 r))) (a0 : List UInt8) (a1 : Int) (r : Int) (h : m_value_length_F self_value_length a0 a1 = some r) : Pure Tryz.prog 80 [(.exact (.string (bs a0))), (.exact (.int .i64 a1))] (.exact (.int .i64 r)) := by
 unfold m_value_length_F at h
 refine Pure.ofFun (fun_of_awp Tryz.func80 rfl Tryz.ntmps80 (by simp) rfl (res1 rfl) fun E hE => k_end ?_)
 refine zac (kr ?_)
 refine qa (.xi 0) rfl ?_
 refine G_nil (zaa (zac ?_))
 refine k_join1_0 h (fun (x11_j3 : Bool) => (pt (pt (pt AF0 0 (.xs a0)) 1 (.xi a1)) 11 (.xb x11_j3))) (fun (x11_j3 : Bool) => []) (fun k3 h => ?_) (fun x11_j3 h => ?_)
 ·refine kr ?_
  refine qm (.xs a0) rfl ?_
  refine G_q rfl (op_eqlS rfl rfl ?_)
  refine qm (.xb (decide (a0 = ([] : List UInt8)))) rfl ?_
  refine G_split (p := a0 = ([] : List UInt8)) 8 rfl (fun hc => ?_) (fun hc => ?_)
  ·replace h := ite_t h hc
   refine G_n rfl rfl (G_n rfl rfl ?_)
   refine G_q rfl (op_pick_t rfl (av := .xb true) rfl ?_)
   refine G_nil ?_
   refine zad ⟨_, h, ?_⟩
   exact so (lq rfl (lq rfl (lq rfl lt0)))
  ·replace h := ite_f h hc
   refine Gy_q rfl rfl rfl (zag (av := .xi a1) rfl ?_)
   refine Gy_q rfl rfl rfl (op_gtr rfl rfl ?_)
   refine G_q rfl (zak rfl (av := .xb (decide (32 < a1))) rfl ?_)
   refine G_nil ?_
   refine zad ⟨_, h, ?_⟩
   exact so (lq rfl (lq rfl (lq rfl lt0)))
 ·refine kb (p := x11_j3) rfl h (fun hc h => ?_) (fun hc h => ?_)
  ·refine zac (kr ?_)
   refine qa (.xi 0) rfl ?_
   refine G_nil (zaa (k_ret (kC_ret ?_)))
   obtain rfl := Option.some.inj h
   refine ke (pt AF0 4 (.xi 0)) [] rfl ?_ ⟨rfl, rfl⟩
   exact so (lq rfl lt0)
  ·refine k_skip (zaa (zac (kr ?_)))
   refine qa (.xi 0) rfl ?_
   refine G_nil (zaa ?_)
   refine k_join1_0 h (fun (x5_j4 : Int) => (pt (pt AF0 0 (.xs a0)) 5 (.xi x5_j4))) (fun (x5_j4 : Int) => []) (fun k4 h => ?_) (fun x5_j4 h => ?_)
   ·refine zac (kr ?_)
    refine qm (.xs a0) rfl ?_
    obtain ⟨n15, h⟩ := need_some h
    refine G_q rfl (op_index_str (by kernel_rfl) rfl rfl n15.1 n15.2 ?_)
    refine G_nil (zaa (k_block (zac (kr ?_))))
    refine G_q rfl (op_eqlU (a := (gi a0 0)) (b := 1) rfl rfl ?_)
    refine qa (.xb (decide ((gi a0 0) = 1))) rfl ?_
    refine G_nil (zaa ?_)
    refine kd (p := (gi a0 0) = 1) rfl h (fun hc h => ?_) (fun hc h => ?_)
    ·refine kr ?_
     refine qa (.xi 9) rfl ?_
     refine G_nil (kB_normal ?_)
     refine zad ⟨_, h, ?_⟩
     exact so (lq rfl (lq rfl lt0))
    ·refine zac (kr ?_)
     refine G_q rfl (op_eqlU (a := (gi a0 0)) (b := 2) rfl rfl ?_)
     refine qa (.xb (decide ((gi a0 0) = 2))) rfl ?_
     refine G_nil (zaa ?_)
     refine kd (p := (gi a0 0) = 2) rfl h (fun hc h => ?_) (fun hc h => ?_)
     ·refine zac ?_
      refine k_join1_0 h (fun (x25_j20 : Bool) => (pt (pt AF0 0 (.xs a0)) 25 (.xb x25_j20))) (fun (x25_j20 : Bool) => []) (fun k20 h => ?_) (fun x25_j20 h => ?_)
      ·refine kr ?_
       refine qm (.xs a0) rfl ?_
       refine G_q rfl (op_lenS (by kernel_rfl) rfl ?_)
       refine G_q rfl (op_lss rfl rfl ?_)
       refine qm (.xb (decide ((List.length a0 : Int) < 2))) rfl ?_
       refine G_split (p := (List.length a0 : Int) < 2) 21 rfl (fun hc => ?_) (fun hc => ?_)
       ·replace h := ite_t h hc
        refine G_n rfl rfl (G_n rfl rfl (G_n rfl rfl ?_))
        refine G_q rfl (op_pick_t rfl (av := .xb true) rfl ?_)
        refine G_nil ?_
        refine zad ⟨_, h, ?_⟩
        exact so (lq rfl (lq rfl lt0))
       ·replace h := ite_f h hc
        refine Gy_q rfl rfl rfl (zag (av := .xs a0) rfl ?_)
        obtain ⟨n22, h⟩ := need_some h
        refine Gy_q rfl rfl rfl (op_index_str (by kernel_rfl) rfl rfl n22.1 n22.2 ?_)
        refine Gy_q rfl rfl rfl (op_gtrU (a := (gi a0 1)) (b := 1) rfl rfl ?_)
        refine G_q rfl (zak rfl (av := .xb (decide (1 < (gi a0 1)))) rfl ?_)
        refine G_nil ?_
        refine zad ⟨_, h, ?_⟩
        exact so (lq rfl (lq rfl lt0))
      ·refine kb (p := x25_j20) rfl h (fun hc h => ?_) (fun hc h => ?_)
       ·refine zac (kr ?_)
        refine qa (.xi 0) rfl ?_
        refine G_nil (zaa (k_ret (kC_ret (kB_ret (kI_ret ?_)))))
        obtain rfl := Option.some.inj h
        refine ke (pt AF0 4 (.xi 0)) [] rfl ?_ ⟨rfl, rfl⟩
        exact so (lq rfl lt0)
       ·refine k_skip (zaa (kr ?_))
        refine qa (.xi 2) rfl ?_
        refine G_nil (kB_normal ?_)
        refine zad ⟨_, h, ?_⟩
        exact so (lq rfl (lq rfl lt0))
     ·refine zac (kr ?_)
      refine G_q rfl (op_eqlU (a := (gi a0 0)) (b := 10) rfl rfl ?_)
      refine qa (.xb (decide ((gi a0 0) = 10))) rfl ?_
      refine G_nil (zaa ?_)
      refine kd (p := (gi a0 0) = 10) rfl h (fun hc h => ?_) (fun hc h => ?_)
      ·refine kr ?_
       refine qa (.xi 3) rfl ?_
       refine G_nil (kB_normal ?_)
       refine zad ⟨_, h, ?_⟩
       exact so (lq rfl (lq rfl lt0))
      ·refine k_join1_0 h (fun (x28_j23 : Bool) => (pt (pt (pt (pt AF0 0 (.xs a0)) 1 (.xi a1)) 5 (.xi 0)) 28 (.xb x28_j23))) (fun (x28_j23 : Bool) => []) (fun k23 h => ?_) (fun x28_j23 h => ?_)
       ·refine zac (kr ?_)
        refine G_q rfl (op_eqlU (a := (gi a0 0)) (b := 3) rfl rfl ?_)
        refine qa (.xb (decide ((gi a0 0) = 3))) rfl ?_
        refine G_nil (zaa ?_)
        refine kd (p := (gi a0 0) = 3) rfl h (fun hc h => ?_) (fun hc h => ?_)
        ·refine k_skip ?_
         refine zad ⟨_, h, ?_⟩
         exact so (l4 rfl rfl rfl rfl lt0)
        ·refine zac (kr ?_)
         refine G_q rfl (op_eqlU (a := (gi a0 0)) (b := 4) rfl rfl ?_)
         refine qa (.xb (decide ((gi a0 0) = 4))) rfl ?_
         refine G_nil (zaa ?_)
         refine kd (p := (gi a0 0) = 4) rfl h (fun hc h => ?_) (fun hc h => ?_)
         ·refine k_skip ?_
          refine zad ⟨_, h, ?_⟩
          exact so (l4 rfl rfl rfl rfl lt0)
         ·refine zac (kr ?_)
          refine G_q rfl (op_eqlU (a := (gi a0 0)) (b := 5) rfl rfl ?_)
          refine qa (.xb (decide ((gi a0 0) = 5))) rfl ?_
          refine G_nil (zaa ?_)
          refine kd (p := (gi a0 0) = 5) rfl h (fun hc h => ?_) (fun hc h => ?_)
          ·refine k_skip ?_
           refine zad ⟨_, h, ?_⟩
           exact so (l4 rfl rfl rfl rfl lt0)
          ·refine zac (kr ?_)
           refine G_q rfl (op_eqlU (a := (gi a0 0)) (b := 6) rfl rfl ?_)
           refine qa (.xb (decide ((gi a0 0) = 6))) rfl ?_
           refine G_nil (zaa ?_)
           refine kd (p := (gi a0 0) = 6) rfl h (fun hc h => ?_) (fun hc h => ?_)
           ·refine k_skip ?_
            refine zad ⟨_, h, ?_⟩
            exact so (l4 rfl rfl rfl rfl lt0)
           ·refine zac (kr ?_)
            refine G_q rfl (op_eqlU (a := (gi a0 0)) (b := 7) rfl rfl ?_)
            refine qa (.xb (decide ((gi a0 0) = 7))) rfl ?_
            refine G_nil (zaa ?_)
            refine kd (p := (gi a0 0) = 7) rfl h (fun hc h => ?_) (fun hc h => ?_)
            ·refine k_skip ?_
             refine zad ⟨_, h, ?_⟩
             exact so (l4 rfl rfl rfl rfl lt0)
            ·refine zac (kr ?_)
             refine G_q rfl (op_eqlU (a := (gi a0 0)) (b := 8) rfl rfl ?_)
             refine qa (.xb (decide ((gi a0 0) = 8))) rfl ?_
             refine G_nil (zaa ?_)
             refine kd (p := (gi a0 0) = 8) rfl h (fun hc h => ?_) (fun hc h => ?_)
             ·refine k_skip ?_
              refine zad ⟨_, h, ?_⟩
              exact so (l4 rfl rfl rfl rfl lt0)
             ·refine kr ?_
              refine G_q rfl (op_eqlU (a := (gi a0 0)) (b := 9) rfl rfl ?_)
              refine qa (.xb (decide ((gi a0 0) = 9))) rfl ?_
              refine G_nil ?_
              refine zad ⟨_, h, ?_⟩
              exact so (l4 rfl rfl rfl rfl lt0)
       ·refine kb (p := x28_j23) rfl h (fun hc h => ?_) (fun hc h => ?_)
        ·refine zac (kr ?_)
         refine qm (.xs a0) rfl ?_
         refine qm (.xi a1) rfl ?_
         obtain ⟨y24, hy24, h⟩ := bnd1_some h
         refine G_q rfl (zaf (m_value_long_ok self_value_length hself_value_length _ _ _ hy24) Tryz.func107 (by kernel_rfl) (LEs.cons (AV.le_eq rfl) (LEs.cons (AV.le_eq rfl) LEs.nil)) ?_)
         refine qa (.xi y24) rfl ?_
         refine G_nil (zaa (k_ret (kB_ret (kI_ret ?_))))
         obtain rfl := Option.some.inj h
         refine ke (pt AF0 4 (.xi y24)) [] rfl ?_ ⟨rfl, rfl⟩
         exact so (lq rfl lt0)
        ·refine k_skip (kB_normal ?_)
         refine zad ⟨_, h, ?_⟩
         exact so (lq rfl (lq rfl lt0))
   ·refine zac (zac (kr ?_))
    refine qm (.xi x5_j4) rfl ?_
    refine qm (.xs a0) rfl ?_
    refine G_q rfl (op_lenS (by kernel_rfl) rfl ?_)
    refine G_q rfl (op_gtr rfl rfl ?_)
    refine G_nil (zaa ?_)
    refine kd (p := (List.length a0 : Int) < x5_j4) rfl h (fun hc h => ?_) (fun hc h => ?_)
    ·refine zac (kr ?_)
     refine qa (.xi 0) rfl ?_
     refine G_nil (zaa (k_ret (kC_ret ?_)))
     obtain rfl := Option.some.inj h
     refine ke (pt AF0 4 (.xi 0)) [] rfl ?_ ⟨rfl, rfl⟩
     exact so (lq rfl lt0)
    ·refine k_skip (zaa (zac (kr ?_)))
     refine qm (.xi x5_j4) rfl ?_
     refine qa (.xi x5_j4) rfl ?_
     refine G_nil (zaa (k_ret ?_))
     obtain rfl := Option.some.inj h
     refine ke (pt AF0 4 (.xi x5_j4)) [] rfl ?_ ⟨rfl, rfl⟩
     exact so (lq rfl lt0)
set_option maxHeartbeats 4000000 in
theorem m_value_length_S_ok : ∀ n : Nat, (∀ (a0 : List UInt8) (a1 : Int) (r : Int), m_value_length_S n a0 a1 = some r → Pure Tryz.prog 80 [(.exact (.string (bs a0))), (.exact (.int .i64 a1))] (.exact (.int .i64 r)))
  | 0 => (fun _ _ _ h => by have h' : (none : Option _) = some _ := h; cases h')
  | n + 1 => by
    have ih := m_value_length_S_ok n
    exact fun a0 a1 r h => m_value_length_F_ok (m_value_length_S n) ih a0 a1 r h
theorem m_value_length_ok (a0 : List UInt8) (a1 : Int) (r : Int) (h : m_value_length a0 a1 = some r) : Pure Tryz.prog 80 [(.exact (.string (bs a0))), (.exact (.int .i64 a1))] (.exact (.int .i64 r)) := (m_value_length_S_ok FU) a0 a1 r h
set_option maxHeartbeats 4000000 in
theorem m_value_Valid_ok (a0 : List UInt8) (r : Bool) (h : m_value_Valid a0 = some r) : Pure Tryz.prog 37 [(.exact (.string (bs a0)))] (.exact (.bool r)) := by
 unfold m_value_Valid at h
 refine Pure.ofFun (fun_of_awp Tryz.func37 rfl Tryz.ntmps37 (by simp) rfl (res1 rfl) fun E hE => k_end ?_)
 refine zac (kr ?_)
 refine qa (.xb false) rfl ?_
 refine G_nil (zaa ?_)
 refine k_join1_0 h (fun (x2_j1 : Bool) => (pt AF0 2 (.xb x2_j1))) (fun (x2_j1 : Bool) => []) (fun k1 h => ?_) (fun x2_j1 h => ?_)
 ·refine kr ?_
  refine qm (.xs a0) rfl ?_
  refine G_q rfl (op_neqS rfl rfl ?_)
  refine qm (.xb (decide (¬ a0 = ([] : List UInt8)))) rfl ?_
  refine G_split (p := ¬ a0 = ([] : List UInt8)) 5 rfl (fun hc => ?_) (fun hc => ?_)
  ·replace h := ite_t h hc
   refine Gy_q rfl rfl rfl (zag (av := .xs a0) rfl ?_)
   refine Gy_q rfl rfl rfl (op_lenS (by kernel_rfl) rfl ?_)
   refine Gy_q rfl rfl rfl (op_leq rfl rfl ?_)
   refine G_q rfl (op_pick_t rfl (av := .xb (decide ((List.length a0 : Int) ≤ 131072))) rfl ?_)
   refine qm (.xb (decide ((List.length a0 : Int) ≤ 131072))) rfl ?_
   refine G_split (p := (List.length a0 : Int) ≤ 131072) 10 rfl (fun hc => ?_) (fun hc => ?_)
   ·replace h := ite_t h hc
    refine Gy_q rfl rfl rfl (zag (av := .xs a0) rfl ?_)
    obtain ⟨y3, hy3, h⟩ := bnd1_some h
    refine Gy_q rfl rfl rfl (zaf (m_value_length_ok _ _ _ hy3) Tryz.func80 (by kernel_rfl) (LEs.cons (AV.le_eq rfl) (LEs.cons (AV.le_eq rfl) LEs.nil)) ?_)
    refine Gy_q rfl rfl rfl (zag (av := .xs a0) rfl ?_)
    refine Gy_q rfl rfl rfl (op_lenS (by kernel_rfl) rfl ?_)
    refine Gy_q rfl rfl rfl (op_eql rfl rfl ?_)
    refine G_q rfl (op_pick_t rfl (av := .xb (decide (y3 = (List.length a0 : Int)))) rfl ?_)
    refine qa (.xb (decide (y3 = (List.length a0 : Int)))) rfl ?_
    refine G_nil ?_
    refine zad ⟨_, h, ?_⟩
    exact so (lq rfl lt0)
   ·replace h := ite_f h hc
    refine G_n rfl rfl (G_n rfl rfl (G_n rfl rfl (G_n rfl rfl (G_n rfl rfl ?_))))
    refine G_q rfl (zak rfl (av := .xb false) rfl ?_)
    refine qa (.xb false) rfl ?_
    refine G_nil ?_
    refine zad ⟨_, h, ?_⟩
    exact so (lq rfl lt0)
  ·replace h := ite_f h hc
   refine G_n rfl rfl (G_n rfl rfl (G_n rfl rfl ?_))
   refine G_q rfl (zak rfl (av := .xb false) rfl ?_)
   refine qm (.xb false) rfl ?_
   refine G_n rfl rfl (G_n rfl rfl (G_n rfl rfl (G_n rfl rfl (G_n rfl rfl ?_))))
   refine G_q rfl (zak rfl (av := .xb false) rfl ?_)
   refine qa (.xb false) rfl ?_
   refine G_nil ?_
   refine zad ⟨_, h, ?_⟩
   exact so (lq rfl lt0)
 ·refine k_ret ?_
  obtain rfl := Option.some.inj h
  refine ke (pt AF0 2 (.xb x2_j1)) [] rfl ?_ ⟨rfl, rfl⟩
  exact so (lq rfl lt0)
set_option maxHeartbeats 4000000 in
theorem m_value_Kind_ok (a0 : List UInt8) (r : Int) (h : m_value_Kind a0 = some r) : Pure Tryz.prog 31 [(.exact (.string (bs a0)))] (.exact (.int .i64 r)) := by
 unfold m_value_Kind at h
 refine Pure.ofFun (fun_of_awp Tryz.func31 rfl Tryz.ntmps31 (by simp) rfl (res1 rfl) fun E hE => k_end ?_)
 refine zac (kr ?_)
 refine qa (.xi 0) rfl ?_
 refine G_nil (zaa (zac (zac (kr ?_))))
 refine qm (.xs a0) rfl ?_
 obtain ⟨y1, hy1, h⟩ := bnd1_some h
 refine G_q rfl (zaf (m_value_Valid_ok _ _ hy1) Tryz.func37 (by kernel_rfl) (LEs.cons (AV.le_eq rfl) LEs.nil) ?_)
 refine G_q rfl (op_not rfl ?_)
 refine G_nil (zaa ?_)
 refine kb (p := !y1) rfl h (fun hc h => ?_) (fun hc h => ?_)
 ·refine zac (kr ?_)
  refine qa (.xi 0) rfl ?_
  refine G_nil (zaa (k_ret (kC_ret ?_)))
  obtain rfl := Option.some.inj h
  refine ke (pt AF0 2 (.xi 0)) [] rfl ?_ ⟨rfl, rfl⟩
  exact so (lq rfl lt0)
 ·refine k_skip (zaa (zac (kr ?_)))
  refine qm (.xs a0) rfl ?_
  obtain ⟨n2, h⟩ := need_some h
  refine G_q rfl (op_index_str (by kernel_rfl) rfl rfl n2.1 n2.2 ?_)
  refine G_q rfl (op_convInt (k := .i64) (r := (UInt8.toNat (gi a0 0) : Int)) (by kernel_rfl) rfl (wrap_u8 rfl _) ?_)
  refine qa (.xi (UInt8.toNat (gi a0 0) : Int)) rfl ?_
  refine G_nil (zaa (k_ret ?_))
  obtain rfl := Option.some.inj h
  refine ke (pt AF0 2 (.xi (UInt8.toNat (gi a0 0) : Int))) [] rfl ?_ ⟨rfl, rfl⟩
  exact so (lq rfl lt0)
set_option maxHeartbeats 4000000 in
theorem m_dataspace_Valid_ok (a0 : List ((List UInt8) × Int × (List Int) × (List (List UInt8)))) (r : Bool) (h : m_dataspace_Valid a0 = some r) : Pure Tryz.prog 30 [(.row 4 zae a0)] (.exact (.bool r)) := by
 unfold m_dataspace_Valid at h
 refine Pure.ofFun (fun_of_awp Tryz.func30 rfl Tryz.ntmps30 (by simp) rfl (res1 rfl) fun E hE => k_end ?_)
 refine zac (kr ?_)
 refine qa (.xb false) rfl ?_
 refine G_nil (zaa ?_)
 refine k_join0_0 h ((pt AF0 0 (.row 4 zae a0))) ([]) (fun k1 h => ?_) (fun  h => ?_)
 ·refine zac (kr ?_)
  refine qm (.row 4 zae a0) rfl ?_
  refine G_q rfl (zai (by kernel_rfl) rfl ?_)
  refine qm (.xi 0) rfl ?_
  refine G_nil (zaa (k_block ?_))
  refine k_loop1_0 (m_dataspace_Valid_L8 a0 k1) (m_dataspace_Valid_B8 a0 k1) (fun _ => rfl) (fun m _ => rfl) h (fun (x9_l8 : Int) => (pt (pt (pt (pt AF0 0 (.row 4 zae a0)) 7 (.row 4 zae a0)) 8 (.xi (List.length a0 : Int))) 9 (.xi x9_l8))) (fun (x9_l8 : Int) => []) ?_ (fun rec8 x9_l8 h => ?_)
  ·exact so (l4 rfl rfl rfl rfl lt0)
  ·unfold m_dataspace_Valid_B8 at h
   refine zac (kr ?_)
   refine G_q rfl (op_lss rfl rfl ?_)
   refine G_nil (zaa (zac ?_))
   refine kd (p := x9_l8 < (List.length a0 : Int)) rfl h (fun hc h => ?_) (fun hc h => ?_)
   ·refine k_skip (zaa ?_)
    refine k_join0_0 h ((pt (pt (pt (pt AF0 0 (.row 4 zae a0)) 7 (.row 4 zae a0)) 8 (.xi (List.length a0 : Int))) 9 (.xi x9_l8))) ([]) (fun k338 h => ?_) (fun  h => ?_)
    ·refine k_block (zac (kr ?_))
     obtain ⟨n372, h⟩ := need_some h
     refine G_q rfl (zaj (by kernel_rfl) rfl rfl n372.1 n372.2 ?_)
     refine G_q rfl (op_loadNp (m := 4) (c' := zae (gi a0 x9_l8)) (by kernel_rfl) rfl rfl rfl ?_)
     refine G_l rfl (op_alloc (c := [.xs ((([], 0, [], []) : (List UInt8) × Int × (List Int) × (List (List UInt8))).1), .xi ((([], 0, [], []) : (List UInt8) × Int × (List Int) × (List (List UInt8))).2.1), .row 1 c_int ((([], 0, [], []) : (List UInt8) × Int × (List Int) × (List (List UInt8))).2.2.1), .row 1 zab ((([], 0, [], []) : (List UInt8) × Int × (List Int) × (List (List UInt8))).2.2.2)]) rfl (LEs.cons (AV.le_eq rfl) (LEs.cons (AV.le_eq rfl) (LEs.cons (row_nil (by decide)) (LEs.cons (row_nil (by decide)) LEs.nil)))) (fun b373 => ?_))
     refine G_l rfl (op_store_box (c' := [.xs ((gi a0 x9_l8).1), .xi ((gi a0 x9_l8).2.1), .row 1 c_int ((gi a0 x9_l8).2.2.1), .row 1 zab ((gi a0 x9_l8).2.2.2)]) (c3 := [.xs ((gi a0 x9_l8).1), .xi ((gi a0 x9_l8).2.1), .row 1 c_int ((gi a0 x9_l8).2.2.1), .row 1 zab ((gi a0 x9_l8).2.2.2)]) rfl rfl CellsOf.agg (LEs.cons (AV.le_eq rfl) (LEs.cons (AV.le_eq rfl) (LEs.cons (AV.le_eq rfl) (LEs.cons (AV.le_eq rfl) LEs.nil)))) (oc_c_api_Info _) (by kernel_rfl) (Nat.le_of_ble_eq_true rfl) rfl ?_)
     refine G_nil (zaa (zac ?_))
     refine k_join1_0 h (fun (x21_j376 : Bool) => (pt (pt (pt (pt (pt (pt AF0 0 (.row 4 zae a0)) 4 (pA b373 0)) 7 (.row 4 zae a0)) 8 (.xi (List.length a0 : Int))) 9 (.xi x9_l8)) 21 (.xb x21_j376))) (fun (x21_j376 : Bool) => [boxI 25 b373 [.xs ((gi a0 x9_l8).1), .xi ((gi a0 x9_l8).2.1), .row 1 c_int ((gi a0 x9_l8).2.2.1), .row 1 zab ((gi a0 x9_l8).2.2.2)]]) (fun k376 h => ?_) (fun x21_j376 h => ?_)
     ·refine kr ?_
      refine G_q rfl (op_fieldAddr (o := 1) (by kernel_rfl) rfl ?_)
      refine G_r rfl (op_load_box1 (a := .xi ((gi a0 x9_l8).2.1)) (by kernel_rfl) rfl rfl ?_)
      refine G_q rfl (op_lss rfl rfl ?_)
      refine qm (.xb (decide (((gi a0 x9_l8).2.1) < (-1)))) rfl ?_
      refine G_split (p := ((gi a0 x9_l8).2.1) < (-1)) 16 rfl (fun hc => ?_) (fun hc => ?_)
      ·replace h := ite_t h hc
       refine G_n rfl rfl (G_n rfl rfl (G_n rfl rfl (G_n rfl rfl ?_)))
       refine G_q rfl (op_pick_t rfl (av := .xb true) rfl ?_)
       refine G_nil ?_
       refine zad ⟨_, h, ?_⟩
       exact so (l4 rfl rfl rfl rfl (lq rfl (lq rfl lt0)))
      ·replace h := ite_f h hc
       refine Gy_q rfl rfl rfl (op_fieldAddr (o := 3) (by kernel_rfl) rfl ?_)
       refine Gy_r rfl rfl rfl (op_load_box1 (a := .row 1 zab ((gi a0 x9_l8).2.2.2)) (by kernel_rfl) rfl rfl ?_)
       refine Gy_q rfl rfl rfl (zai (by kernel_rfl) rfl ?_)
       refine Gy_q rfl rfl rfl (op_gtr rfl rfl ?_)
       refine G_q rfl (zak rfl (av := .xb (decide (8 < (List.length ((gi a0 x9_l8).2.2.2) : Int)))) rfl ?_)
       refine G_nil ?_
       refine zad ⟨_, h, ?_⟩
       exact so (l4 rfl rfl rfl rfl (lq rfl (lq rfl lt0)))
     ·refine kb (p := x21_j376) rfl h (fun hc h => ?_) (fun hc h => ?_)
      ·refine zac (kr ?_)
       refine qa (.xb false) rfl ?_
       refine G_nil (zaa (k_ret (kC_ret (kB_ret (kI_ret (kI_ret (kB_ret (kI_ret ?_))))))))
       obtain rfl := Option.some.inj h
       refine ke (pt AF0 2 (.xb false)) [] rfl ?_ ⟨rfl, rfl⟩
       refine Sub.trans (SubU.to SubU.drop) ?_
       exact so (lq rfl lt0)
      ·refine k_skip (zaa (zac (kr ?_)))
       refine G_q rfl (op_fieldAddr (o := 3) (by kernel_rfl) rfl ?_)
       refine G_r rfl (op_load_box1 (a := .row 1 zab ((gi a0 x9_l8).2.2.2)) (by kernel_rfl) rfl rfl ?_)
       refine G_q rfl (zai (by kernel_rfl) rfl ?_)
       refine qm (.xi 0) rfl ?_
       refine G_nil (zaa (k_block ?_))
       refine k_loop1_0 (m_dataspace_Valid_L14 a0 x9_l8 k338) (m_dataspace_Valid_B14 a0 x9_l8 k338) (fun _ => rfl) (fun m _ => rfl) h (fun (x25_l14 : Int) => (pt (pt (pt (pt (pt (pt (pt AF0 0 (.row 4 zae a0)) 7 (.row 4 zae a0)) 8 (.xi (List.length a0 : Int))) 9 (.xi x9_l8)) 23 (.row 1 zab ((gi a0 x9_l8).2.2.2))) 24 (.xi (List.length ((gi a0 x9_l8).2.2.2) : Int))) 25 (.xi x25_l14))) (fun (x25_l14 : Int) => []) ?_ (fun rec14 x25_l14 h => ?_)
       ·refine Sub.trans (SubU.to SubU.drop) ?_
        exact so (l4 rfl rfl rfl rfl (lq rfl (lq rfl (lq rfl lt0))))
       ·unfold m_dataspace_Valid_B14 at h
        refine zac (kr ?_)
        refine G_q rfl (op_lss rfl rfl ?_)
        refine G_nil (zaa (zac ?_))
        refine kd (p := x25_l14 < (List.length ((gi a0 x9_l8).2.2.2) : Int)) rfl h (fun hc h => ?_) (fun hc h => ?_)
        ·refine k_skip (zaa (zac (k_block (zac (kr ?_)))))
         obtain ⟨n400, h⟩ := need_some h
         refine G_q rfl (zaj (by kernel_rfl) rfl rfl n400.1 n400.2 ?_)
         refine G_q rfl (op_load1p (a := .xs (gi ((gi a0 x9_l8).2.2.2) x25_l14)) (by kernel_rfl) rfl rfl ?_)
         refine qa (.xs (gi ((gi a0 x9_l8).2.2.2) x25_l14)) rfl ?_
         refine G_nil (zaa ?_)
         refine k_join1_0 h (fun (x35_j401 : Bool) => (pt (pt (pt (pt (pt (pt (pt (pt AF0 0 (.row 4 zae a0)) 7 (.row 4 zae a0)) 8 (.xi (List.length a0 : Int))) 9 (.xi x9_l8)) 23 (.row 1 zab ((gi a0 x9_l8).2.2.2))) 24 (.xi (List.length ((gi a0 x9_l8).2.2.2) : Int))) 25 (.xi x25_l14)) 35 (.xb x35_j401))) (fun (x35_j401 : Bool) => []) (fun k401 h => ?_) (fun x35_j401 h => ?_)
         ·refine kr ?_
          refine qm (.xs (gi ((gi a0 x9_l8).2.2.2) x25_l14)) rfl ?_
          refine G_q rfl (op_neqS rfl rfl ?_)
          refine qm (.xb (decide (¬ (gi ((gi a0 x9_l8).2.2.2) x25_l14) = ([] : List UInt8)))) rfl ?_
          refine G_split (p := ¬ (gi ((gi a0 x9_l8).2.2.2) x25_l14) = ([] : List UInt8)) 31 rfl (fun hc => ?_) (fun hc => ?_)
          ·replace h := ite_t h hc
           refine Gy_q rfl rfl rfl (zag (av := .xs (gi ((gi a0 x9_l8).2.2.2) x25_l14)) rfl ?_)
           obtain ⟨y403, hy403, h⟩ := bnd1_some h
           refine Gy_q rfl rfl rfl (zaf (m_value_Kind_ok _ _ hy403) Tryz.func31 (by kernel_rfl) (LEs.cons (AV.le_eq rfl) LEs.nil) ?_)
           refine Gy_q rfl rfl rfl (op_neq rfl rfl ?_)
           refine G_q rfl (op_pick_t rfl (av := .xb (decide (¬ y403 = 5))) rfl ?_)
           refine G_nil ?_
           refine zad ⟨_, h, ?_⟩
           exact so (l4 rfl rfl rfl rfl (l4 rfl rfl rfl rfl lt0))
          ·replace h := ite_f h hc
           refine G_n rfl rfl (G_n rfl rfl (G_n rfl rfl ?_))
           refine G_q rfl (zak rfl (av := .xb false) rfl ?_)
           refine G_nil ?_
           refine zad ⟨_, h, ?_⟩
           exact so (l4 rfl rfl rfl rfl (l4 rfl rfl rfl rfl lt0))
         ·refine kb (p := x35_j401) rfl h (fun hc h => ?_) (fun hc h => ?_)
          ·refine zac (kr ?_)
           refine qa (.xb false) rfl ?_
           refine G_nil (zaa (k_ret (kB_ret (kC_ret (kI_ret (kB_ret (kB_ret (kI_ret (kI_ret (kB_ret (kI_ret ?_)))))))))))
           obtain rfl := Option.some.inj h
           refine ke (pt AF0 2 (.xb false)) [] rfl ?_ ⟨rfl, rfl⟩
           exact so (lq rfl lt0)
          ·refine k_skip (kB_normal (zaa (kr ?_)))
           refine G_q rfl (op_add rfl rfl rfl ?_)
           refine qm (.xi (i64 (x25_l14 + 1))) rfl ?_
           refine G_nil ?_
           refine zad ⟨_, h, ?_⟩
           exact so (l4 rfl rfl rfl rfl (lq rfl (lq rfl (lq rfl lt0))))
        ·refine k_exit (kC_exit (kI_exit (kB_exit (kB_normal ?_))))
         refine zad ⟨h, ?_⟩
         exact so (l4 rfl rfl rfl rfl lt0)
    ·refine kr ?_
     refine G_q rfl (op_add rfl rfl rfl ?_)
     refine qm (.xi (i64 (x9_l8 + 1))) rfl ?_
     refine G_nil ?_
     refine zad ⟨_, h, ?_⟩
     exact so (l4 rfl rfl rfl rfl lt0)
   ·refine k_exit (kC_exit (kI_exit (kB_exit ?_)))
    refine zad ⟨h, ?_⟩
    exact so (lq rfl lt0)
 ·refine zac (kr ?_)
  refine qm (.row 4 zae a0) rfl ?_
  refine G_q rfl (zai (by kernel_rfl) rfl ?_)
  refine G_q rfl (op_leq rfl rfl ?_)
  refine qa (.xb (decide ((List.length a0 : Int) ≤ 65536))) rfl ?_
  refine G_nil (zaa (k_ret ?_))
  obtain rfl := Option.some.inj h
  refine ke (pt AF0 2 (.xb (decide ((List.length a0 : Int) ≤ 65536)))) [] rfl ?_ ⟨rfl, rfl⟩
  exact so (lq rfl lt0)
set_option maxHeartbeats 4000000 in
theorem m_value_Parts_ok (a0 : List UInt8) (r : (List (List UInt8))) (h : m_value_Parts a0 = some r) : Pure Tryz.prog 39 [(.exact (.string (bs a0)))] (.row 1 zab r) := by
 unfold m_value_Parts at h
 refine Pure.ofFun (fun_of_awp Tryz.func39 rfl Tryz.ntmps39 (by simp) rfl (res1 rfl) fun E hE => k_end ?_)
 refine zac (kr ?_)
 refine qa (.exact (.slice none 0 0)) rfl ?_
 refine G_nil (zaa (zac (zac (kr ?_))))
 refine qm (.xs a0) rfl ?_
 obtain ⟨y1, hy1, h⟩ := bnd1_some h
 refine G_q rfl (zaf (m_value_Kind_ok _ _ hy1) Tryz.func31 (by kernel_rfl) (LEs.cons (AV.le_eq rfl) LEs.nil) ?_)
 obtain ⟨y2, hy2, h⟩ := bnd1_some h
 refine G_q rfl (zaf (m_value_simple_ok _ _ hy2) Tryz.func82 (by kernel_rfl) (LEs.cons (AV.le_eq rfl) LEs.nil) ?_)
 refine G_nil (zaa ?_)
 refine kb (p := y2) rfl h (fun hc h => ?_) (fun hc h => ?_)
 ·refine zac (kr ?_)
  refine qa (.exact (.slice none 0 0)) rfl ?_
  refine G_nil (zaa (k_ret (kC_ret ?_)))
  obtain rfl := Option.some.inj h
  refine ke (pt AF0 2 (.row 1 zab [])) [] rfl ?_ ⟨rfl, rfl⟩
  exact so (AF.le_put (row_nil (by decide)) lt0)
 ·refine k_skip (zaa (zac (kr ?_)))
  refine qm (.xs a0) rfl ?_
  obtain ⟨y3, hy3, h⟩ := bnd1_some h
  refine G_q rfl (zaf (m_value_parts_ok _ _ hy3) Tryz.func83 (by kernel_rfl) (LEs.cons (AV.le_eq rfl) LEs.nil) ?_)
  refine qa (.row 1 zab y3) rfl ?_
  refine G_nil (zaa (k_ret ?_))
  obtain rfl := Option.some.inj h
  refine ke (pt AF0 2 (.row 1 zab y3)) [] rfl ?_ ⟨rfl, rfl⟩
  exact so (lq rfl lt0)
set_option maxHeartbeats 4000000 in
theorem m_value_Number_ok (a0 : List UInt8) (r : Int) (h : m_value_Number a0 = some r) : Pure Tryz.prog 79 [(.exact (.string (bs a0)))] (.exact (.int .i64 r)) := by
 unfold m_value_Number at h
 refine Pure.ofFun (fun_of_awp Tryz.func79 rfl Tryz.ntmps79 (by simp) rfl (res1 rfl) fun E hE => k_end ?_)
 refine zac (kr ?_)
 refine qa (.xi 0) rfl ?_
 refine G_nil (zaa (zac (zac (kr ?_))))
 refine qm (.xs a0) rfl ?_
 obtain ⟨y1, hy1, h⟩ := bnd1_some h
 refine G_q rfl (zaf (m_value_Kind_ok _ _ hy1) Tryz.func31 (by kernel_rfl) (LEs.cons (AV.le_eq rfl) LEs.nil) ?_)
 refine G_nil (zaa (k_block (zac (kr ?_))))
 refine G_q rfl (op_eql rfl rfl ?_)
 refine qa (.xb (decide (y1 = 1))) rfl ?_
 refine G_nil (zaa ?_)
 refine kd (p := y1 = 1) rfl h (fun hc h => ?_) (fun hc h => ?_)
 ·refine zac (kr ?_)
  refine qm (.xs a0) rfl ?_
  obtain ⟨y2, hy2, h⟩ := bnd1_some h
  refine G_q rfl (zaf (m_value_integer_ok _ _ hy2) Tryz.func106 (by kernel_rfl) (LEs.cons (AV.le_eq rfl) LEs.nil) ?_)
  refine qa (.xi y2) rfl ?_
  refine G_nil (zaa (k_ret (kB_ret (kC_ret ?_))))
  obtain rfl := Option.some.inj h
  refine ke (pt AF0 2 (.xi y2)) [] rfl ?_ ⟨rfl, rfl⟩
  exact so (lq rfl lt0)
 ·refine zac (kr ?_)
  refine G_q rfl (op_eql rfl rfl ?_)
  refine qa (.xb (decide (y1 = 2))) rfl ?_
  refine G_nil (zaa ?_)
  refine kd (p := y1 = 2) rfl h (fun hc h => ?_) (fun hc h => ?_)
  ·refine zac (kr ?_)
   refine qm (.xs a0) rfl ?_
   obtain ⟨n3, h⟩ := need_some h
   refine G_q rfl (op_index_str (by kernel_rfl) rfl rfl n3.1 n3.2 ?_)
   refine G_q rfl (op_convInt (k := .i64) (r := (UInt8.toNat (gi a0 1) : Int)) (by kernel_rfl) rfl (wrap_u8 rfl _) ?_)
   refine qa (.xi (UInt8.toNat (gi a0 1) : Int)) rfl ?_
   refine G_nil (zaa (k_ret (kB_ret (kC_ret ?_))))
   obtain rfl := Option.some.inj h
   refine ke (pt AF0 2 (.xi (UInt8.toNat (gi a0 1) : Int))) [] rfl ?_ ⟨rfl, rfl⟩
   exact so (lq rfl lt0)
  ·refine zac (kr ?_)
   refine G_q rfl (op_eql rfl rfl ?_)
   refine qa (.xb (decide (y1 = 10))) rfl ?_
   refine G_nil (zaa ?_)
   refine kd (p := y1 = 10) rfl h (fun hc h => ?_) (fun hc h => ?_)
   ·refine zac ?_
    refine k_plan [] [(0, 0), (0, 1), (0, 2), (0, 3), (0, 4), (0, 5), (0, 6), (0, 7), (0, 8)] hmixP (by kernel_rfl) ?_
    refine P_q no34_0 rfl (zag (av := .xs a0) rfl ?_)
    obtain ⟨n4, h⟩ := need_some h
    refine P_q no34_0 rfl (op_index_str (by kernel_rfl) rfl rfl n4.1 n4.2 ?_)
    refine P_q no34_0 rfl (op_convInt (k := .i64) (r := (UInt8.toNat (gi a0 1) : Int)) (by kernel_rfl) rfl (wrap_u8 rfl _) ?_)
    refine P_q no34_0 rfl (op_shl rfl rfl (by decide) rfl ?_)
    refine P_q no34_0 rfl (zag (av := .xs a0) rfl ?_)
    obtain ⟨n5, h⟩ := need_some h
    refine P_q no34_0 rfl (op_index_str (by kernel_rfl) rfl rfl n5.1 n5.2 ?_)
    refine P_q no34_0 rfl (op_convInt (k := .i64) (r := (UInt8.toNat (gi a0 2) : Int)) (by kernel_rfl) rfl (wrap_u8 rfl _) ?_)
    refine P_q no34_0 rfl (op_or rfl rfl rfl ?_)
    refine P_q no34_0 rfl (op_assign (av := .xi (bOr .i64 (i64 ((UInt8.toNat (gi a0 1) : Int) * 2 ^ min (Int.toNat 8) IntKind.i64.bits)) (UInt8.toNat (gi a0 2) : Int))) rfl ?_)
    refine P_nil (zaa (k_ret (kB_ret (kC_ret ?_))))
    obtain rfl := Option.some.inj h
    refine ke (pt AF0 2 (.xi (bOr .i64 (i64 ((UInt8.toNat (gi a0 1) : Int) * 2 ^ min (Int.toNat 8) IntKind.i64.bits)) (UInt8.toNat (gi a0 2) : Int)))) [] rfl ?_ ⟨rfl, rfl⟩
    exact so (lq rfl lt0)
   ·refine k_skip (kB_normal (zaa (zac (kr ?_))))
    refine qa (.xi 0) rfl ?_
    refine G_nil (zaa (k_ret ?_))
    obtain rfl := Option.some.inj h
    refine ke (pt AF0 2 (.xi 0)) [] rfl ?_ ⟨rfl, rfl⟩
    exact so (lq rfl lt0)
end Go.Proofs.YtjlbdhicabgliaaGreat
