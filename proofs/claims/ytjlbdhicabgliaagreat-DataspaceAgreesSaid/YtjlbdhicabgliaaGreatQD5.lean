/- Types and their cells, by program. -/
import Derived.Test.YtjlbdhicabgliaaGreatQD4
import Derived.Test.YtjlbdhicabgliaaGreatQD1
namespace Go.Proofs.YtjlbdhicabgliaaGreat
open Go.RowKit
abbrev c_int (x : Int) : List AV := [.exact (.int .i64 x)]
theorem len_c_int (x : Int) : (c_int x).length = 1 := rfl
theorem oc_c_int (x : Int) : OneC (c_int x) := (OneC.int OneC.nil)
abbrev c_uint8 (x : UInt8) : List AV := [.exact (.int .u8 (UInt8.toNat x : Int))]
theorem len_c_uint8 (x : UInt8) : (c_uint8 x).length = 1 := rfl
theorem oc_c_uint8 (x : UInt8) : OneC (c_uint8 x) := (OneC.int OneC.nil)
abbrev zab (x : List UInt8) : List AV := [.exact (.string (bs x))]
theorem zay (x : List UInt8) : (zab x).length = 1 := rfl
theorem zbe (x : List UInt8) : OneC (zab x) := (OneC.str OneC.nil)
abbrev zaf (x : (List UInt8) × Int × (List Int) × (List (List UInt8))) : List AV := [.exact (.string (bs x.1)), .exact (.int .i64 x.2.1), .row 1 c_int x.2.2.1, .row 1 zab x.2.2.2]
theorem len_c_api_Info (x : (List UInt8) × Int × (List Int) × (List (List UInt8))) : (zaf x).length = 4 := rfl
theorem oc_c_api_Info (x : (List UInt8) × Int × (List Int) × (List (List UInt8))) : OneC (zaf x) := (OneC.str (OneC.int (OneC.row (OneC.row OneC.nil))))
abbrev zan (x : List (List UInt8)) : List AV := [.row 1 zab x]
theorem len_c_L_api_Value (x : List (List UInt8)) : (zan x).length = 1 := rfl
theorem oc_c_L_api_Value (x : List (List UInt8)) : OneC (zan x) := (OneC.row OneC.nil)
abbrev c_cspcheckgen_Choices (x : (List Int) × Int) : List AV := [.row 1 c_int x.1, .exact (.int .i64 x.2)]
abbrev c_string (x : List UInt8) : List AV := [.exact (.string (bs x))]
theorem len_c_string (x : List UInt8) : (c_string x).length = 1 := rfl
theorem oc_c_string (x : List UInt8) : OneC (c_string x) := (OneC.str OneC.nil)

end Go.Proofs.YtjlbdhicabgliaaGreat
/- The sorts' contracts, laid by program. -/
namespace Go.Proofs.YtjlbdhicabgliaaGreat
open Go.RowKit Go.Sort
set_option maxRecDepth 100000
def lay0_ren : Go.Shelf.Ren := ⟨fun | 6 => 113 | 14 => 122 | 15 => 123 | 20 => 129 | 21 => 130 | 22 => 131 | 23 => 132 | 24 => 133 | 25 => 134 | 26 => 135 | 27 => 136 | 28 => 137 | 29 => 138 | 46 => 143 | 47 => 144 | 48 => 145 | 49 => 146 | 50 => 147 | 57 => 150 | n => n, fun | 0 => 0 | 3 => 3 | 4 => 4 | 5 => 5 | 9 => 9 | 22 => 23 | 24 => 26 | 25 => 88 | 39 => 90 | 45 => 125 | 46 => 126 | 50 => 130 | 53 => 133 | 55 => 89 | 66 => 138 | 70 => 142 | 76 => 146 | 77 => 147 | n => n, fun n => n⟩
theorem lay0 : Go.Proofs.SlLaysF.n6 Tryz.prog lay0_ren where
  mixed := by kernel_rfl
  f6 := ⟨Tryz.f113.name, by kernel_rfl, Tryz.func113.trans (congrArg some (by kernel_rfl))⟩
  f14 := ⟨Tryz.f122.name, by kernel_rfl, Tryz.func122.trans (congrArg some (by kernel_rfl))⟩
  f15 := Tryz.func123.trans (congrArg some (by kernel_rfl))
  f20 := ⟨Tryz.f129.name, by kernel_rfl, Tryz.func129.trans (congrArg some (by kernel_rfl))⟩
  f21 := ⟨Tryz.f130.name, by kernel_rfl, Tryz.func130.trans (congrArg some (by kernel_rfl))⟩
  f22 := ⟨Tryz.f131.name, by kernel_rfl, Tryz.func131.trans (congrArg some (by kernel_rfl))⟩
  f23 := ⟨Tryz.f132.name, by kernel_rfl, Tryz.func132.trans (congrArg some (by kernel_rfl))⟩
  f24 := ⟨Tryz.f133.name, by kernel_rfl, Tryz.func133.trans (congrArg some (by kernel_rfl))⟩
  f25 := ⟨Tryz.f134.name, by kernel_rfl, Tryz.func134.trans (congrArg some (by kernel_rfl))⟩
  f26 := ⟨Tryz.f135.name, by kernel_rfl, Tryz.func135.trans (congrArg some (by kernel_rfl))⟩
  f27 := ⟨Tryz.f136.name, by kernel_rfl, Tryz.func136.trans (congrArg some (by kernel_rfl))⟩
  f28 := Tryz.func137.trans (congrArg some (by kernel_rfl))
  f29 := Tryz.func138.trans (congrArg some (by kernel_rfl))
  f46 := ⟨Tryz.f143.name, by kernel_rfl, Tryz.func143.trans (congrArg some (by kernel_rfl))⟩
  f47 := Tryz.func144.trans (congrArg some (by kernel_rfl))
  f48 := Tryz.func145.trans (congrArg some (by kernel_rfl))
  f49 := ⟨Tryz.f146.name, by kernel_rfl, Tryz.func146.trans (congrArg some (by kernel_rfl))⟩
  f50 := ⟨Tryz.f147.name, by kernel_rfl, Tryz.func147.trans (congrArg some (by kernel_rfl))⟩
  f57 := ⟨Tryz.f150.name, by kernel_rfl, Tryz.func150.trans (congrArg some (by kernel_rfl))⟩
  t0 := Tryz.underlying0
  a0 := Tryz.isAgg0
  z0 := Tryz.sizeOf0
  v0 := Tryz.zeroValue0
  t3 := Tryz.underlying3
  a3 := Tryz.isAgg3
  z3 := Tryz.sizeOf3
  v3 := Tryz.zeroValue3
  t4 := Tryz.underlying4
  a4 := Tryz.isAgg4
  z4 := Tryz.sizeOf4
  v4 := Tryz.zeroValue4
  t5 := Tryz.underlying5
  a5 := Tryz.isAgg5
  z5 := Tryz.sizeOf5
  v5 := Tryz.zeroValue5
  t9 := Tryz.underlying9
  a9 := Tryz.isAgg9
  z9 := Tryz.sizeOf9
  v9 := Tryz.zeroValue9
  t22 := Tryz.underlying23
  a22 := Tryz.isAgg23
  z22 := Tryz.sizeOf23
  v22 := Tryz.zeroValue23
  a24 := Tryz.isAgg26
  z24 := Tryz.sizeOf26
  t25 := Tryz.underlying88
  a25 := Tryz.isAgg88
  z25 := Tryz.sizeOf88
  v25 := Tryz.zeroValue88
  t39 := Tryz.underlying90
  a39 := Tryz.isAgg90
  z39 := Tryz.sizeOf90
  v39 := Tryz.zeroValue90
  t45 := Tryz.underlying125
  a45 := Tryz.isAgg125
  z45 := Tryz.sizeOf125
  v45 := Tryz.zeroValue125
  t46 := Tryz.underlying126
  a46 := Tryz.isAgg126
  z46 := Tryz.sizeOf126
  v46 := Tryz.zeroValue126
  t50 := Tryz.underlying130
  a50 := Tryz.isAgg130
  z50 := Tryz.sizeOf130
  v50 := Tryz.zeroValue130
  t53 := Tryz.underlying133
  a53 := Tryz.isAgg133
  z53 := Tryz.sizeOf133
  v53 := Tryz.zeroValue133
  t55 := Tryz.underlying89
  a55 := Tryz.isAgg89
  z55 := Tryz.sizeOf89
  v55 := Tryz.zeroValue89
  t66 := Tryz.underlying138
  a66 := Tryz.isAgg138
  z66 := Tryz.sizeOf138
  v66 := Tryz.zeroValue138
  t70 := Tryz.underlying142
  a70 := Tryz.isAgg142
  z70 := Tryz.sizeOf142
  v70 := Tryz.zeroValue142
  t76 := Tryz.underlying146
  a76 := Tryz.isAgg146
  z76 := Tryz.sizeOf146
  v76 := Tryz.zeroValue146
  t77 := Tryz.underlying147
  a77 := Tryz.isAgg147
  z77 := Tryz.sizeOf147
  v77 := Tryz.zeroValue147
theorem m_sort_api_Value_ok (hc : ∀ (x y : List UInt8) (r : Int), m_value_Compare x y = some r → Pure Tryz.prog 114 [(.exact (.string (bs x))), (.exact (.string (bs y)))] (.exact (.int .i64 r))) {w0 : Value} (a0 r : List (List UInt8)) (h : m_sortby m_value_Compare a0 = some r) : Fun Tryz.prog 113 [.exact w0, .exact (.func (.func 114) #[] #[])] [vecT Tryz.prog 23 1 zab w0 a0] (fun a s => a = .tup [] ∧ s = [vecT Tryz.prog 23 1 zab w0 r]) :=
  m_sortby1_ok (e := fun x : List UInt8 => (.string (bs x))) lay0 { lay0 with } (fun _ => rfl) (fun _ => rfl) 114 (fun args w => by exact enters_of Tryz.func114 (by kernel_rfl) rfl args w) 23 hc a0 r h
end Go.Proofs.YtjlbdhicabgliaaGreat
/- The functions compute their models, by program. -/
namespace Go.Proofs.YtjlbdhicabgliaaGreat
open Go.RowKit
attribute [local irreducible] AV.exact AV.top AV.row AV.ptr AV.agg AV.tup AV.eptr AV.fn AV.nilq AV.nilqn opA opB opM opR Quiet Loud Reads wpG awp den Sub SubU Pure Fun vecI vecT boxI CellsAll CellsOf OneC LEs LEss
set_option maxRecDepth 100000

section
variable {P : Program} {ops : Array Oper} {E : Env} {n : Nat} {af : AF} {σ : Items} {K : AF → Items → Prop} {rest : List Oper} {dst : Option Tmp} {ty0 : TypeId} {pos0 : String} {after0 : Array Edge} {ks : List KFr}
abbrev AV.xi (n : Int) : AV := .exact (.int .i64 n)
abbrev AV.xb (b : Bool) : AV := .exact (.bool b)
abbrev AV.xs (s : List UInt8) : AV := .exact (.string (bs s))
abbrev pt (x : AF) (k : Nat) (a : AV) : AF := AF.put x (some k) a
theorem lq {x y : AF} {d : Nat} {av : AV} (h1 : x d = av) (h2 : AF.le x y) : AF.le x (y.put (some d) av) := AF.le_put (AV.le_eq h1) h2
theorem l4 {x y : AF} {d1 d2 d3 d4 : Nat} {a1 a2 a3 a4 : AV} (h1 : x d1 = a1) (h2 : x d2 = a2) (h3 : x d3 = a3) (h4 : x d4 = a4) (h : AF.le x y) : AF.le x ((((y.put (some d4) a4).put (some d3) a3).put (some d2) a2).put (some d1) a1) := lq h1 (lq h2 (lq h3 (lq h4 h)))
theorem gq {m : Mode} {op : Op} (h : opA P ⟨dst, op, ty0, pos0, after0, none⟩ af (fun af' => wpG m P ops K rest af' σ)) (hq : m.q ⟨dst, op, ty0, pos0, after0, none⟩ = true := by rfl) : wpG m P ops K (⟨dst, op, ty0, pos0, after0, none⟩ :: rest) af σ := G_q hq h
theorem lf {a : AV} : AV.le a a := AV.le_refl a
theorem ln : LEs [] [] := LEs.nil
theorem lc {x y : AV} {xs ys : List AV} (h : AV.le x y) (h' : LEs xs ys) : LEs (x :: xs) (y :: ys) := LEs.cons h h'
theorem oi {α : Type} {a b : α} (h : some a = some b) : a = b := Option.some.inj h
theorem lt0 {x : AF} : AF.le x (fun _ => .top) := AF.le_top x
theorem so {af' : AF} (h : AF.le af af') : Sub E n af σ af' σ := Sub.of_le h
theorem s1 {d1 : Nat} {a1 : AV} (h1 : af d1 = a1) : Sub E n af σ (AF.put (fun _ => .top) (some d1) a1) σ := so (lq h1 lt0)
theorem s2 {d1 d2 : Nat} {a1 a2 : AV} (h1 : af d1 = a1) (h2 : af d2 = a2) : Sub E n af σ (AF.put (AF.put (fun _ => .top) (some d2) a2) (some d1) a1) σ := so (lq h1 (lq h2 lt0))
theorem s3 {d1 d2 d3 : Nat} {a1 a2 a3 : AV} (h1 : af d1 = a1) (h2 : af d2 = a2) (h3 : af d3 = a3) : Sub E n af σ (AF.put (AF.put (AF.put (fun _ => .top) (some d3) a3) (some d2) a2) (some d1) a1) σ := so (lq h1 (lq h2 (lq h3 lt0)))
theorem s4 {d1 d2 d3 d4 : Nat} {a1 a2 a3 a4 : AV} (h1 : af d1 = a1) (h2 : af d2 = a2) (h3 : af d3 = a3) (h4 : af d4 = a4) : Sub E n af σ ((((AF.put (fun _ => .top) (some d4) a4).put (some d3) a3).put (some d2) a2).put (some d1) a1) σ := so (l4 h1 h2 h3 h4 lt0)
theorem qm {x : Operand} (av : AV) (h : af.ev x = av) (hk : wpG .free P ops K rest (af.put dst av) σ) : wpG .free P ops K (⟨dst, .move x, ty0, pos0, after0, none⟩ :: rest) af σ := G_q rfl (zam h hk)
theorem qa {x : Operand} (av : AV) (h : af.ev x = av) (hk : wpG .free P ops K rest (af.put dst av) σ) : wpG .free P ops K (⟨dst, .assign x, ty0, pos0, after0, none⟩ :: rest) af σ := G_q rfl (op_assign h hk)
theorem kd {c : Operand} {x y : Code} {p : Prop} [Decidable p] {ρ : Type} {a b : Option ρ} {r : ρ} (hc : af.ev c = .exact (.bool (decide p))) (h : (if p then a else b) = some r) (ht : p → a = some r → awp P E n x (den P E n ks) af σ) (hf : ¬ p → b = some r → awp P E n y (den P E n ks) af σ) : awp P E n (.cond c x y) (den P E n ks) af σ := k_cond_d hc (fun hp => ht hp (ite_t h hp)) (fun hp => hf hp (ite_f h hp))
theorem kb {c : Operand} {x y : Code} {p : Bool} {ρ : Type} {a b : Option ρ} {r : ρ} (hc : af.ev c = .exact (.bool p)) (h : (if p = true then a else b) = some r) (ht : p = true → a = some r → awp P E n x (den P E n ks) af σ) (hf : ¬ p = true → b = some r → awp P E n y (den P E n ks) af σ) : awp P E n (.cond c x y) (den P E n ks) af σ := k_cond_b hc (fun hp => ht hp (ite_t h hp)) (fun hp => hf hp (ite_f h hp))
theorem ke {fn : Func} {post : AV → Items → Prop} (af' : AF) (σ' : Items) {rs : List ResultVar} (hr : fn.results.toList = rs) (h : Sub E n af σ af' σ') (hp : post (resA rs af') σ') : den P E n (kP (EndA fn E n post) :: ks) .ret af σ := kP_any (endN rs hr h hp)
theorem kr {id : Nat} {l : List Oper} {draw : Bool} (h : wpG .free P l.toArray (den P E n ks .normal) l af σ) (hm : P.follows .mixedOrders = true := by exact hmixP) (hB : regB .free l n draw = true := by kernel_rfl) : awp P E n (.region id l.toArray draw) (den P E n ks) af σ := k_reg .free hm hB h
end

set_option maxHeartbeats 4000000
theorem m_ref9_eight_ok (a0 : Int) (r : (List UInt8)) (h : m_ref9_eight a0 = some r) : Pure Tryz.prog 27 [(.exact (.int .i64 a0))] (.exact (.string (bs r))) := by
 unfold m_ref9_eight at h
 refine Pure.ofFun (zar Tryz.func27 rfl Tryz.ntmps27 (by simp) rfl (res1 rfl) fun E hE => k_end (zac (kr (qa (.xs ([] : List UInt8)) rfl (zad (zaa (zac (kr ?_))))))))
 obtain ⟨n1, h⟩ := zah h
 refine G_l rfl (op_make (enc := c_uint8) (zr := (0 : UInt8)) (by kernel_rfl) rfl rfl n1.1 n1.2 len_c_uint8 Tryz.zeroValue5 (fun _ _ => (Fit.ex Fit.nil0)) (fun v2 => qa (.exact v2) rfl (zad (zaa (zbc h (fun (x3_j3 : List UInt8) => (pt AF0 3 (.exact v2))) (fun (x3_j3 : List UInt8) => [vecT Tryz.prog 55 1 c_uint8 v2 x3_j3]) (fun k3 h => ?_) (fun x3_j3 h => ?_))))))
 ·refine zac (kr (qa (.xi 0) rfl (zad (zaa (zaw (k_loop2_0 (m_ref9_eight_L2 a0 k3) (m_ref9_eight_B2 a0 k3) (fun _ _ => rfl) (fun m _ _ => rfl) h (fun (x3_l2 : List UInt8) (x4_l2 : Int) => (pt (pt (pt AF0 0 (.xi a0)) 3 (.exact v2)) 4 (.xi x4_l2))) (fun (x3_l2 : List UInt8) (x4_l2 : Int) => [vecT Tryz.prog 55 1 c_uint8 v2 x3_l2]) ?_ (fun rec2 x3_l2 x4_l2 h => ?_)))))))
  ·exact s3 rfl rfl rfl
  ·unfold m_ref9_eight_B2 at h
   refine zac (zac (kr (qm (.xi x4_l2) rfl (gq (op_lss rfl rfl (zad (zaa (kd (p := x4_l2 < 8) rfl h (fun hc h => ?_) (fun hc h => ?_)))))))))
   ·refine zat (zaa (zac (zaw (kr (qm (.exact v2) rfl (qm (.xi x4_l2) rfl (gq (op_sub rfl rfl rfl (qm (.xi a0) rfl (gq (op_convInt (k := .u64) (by kernel_rfl) rfl rfl (qm (.xi x4_l2) rfl (gq (op_mul rfl rfl rfl (gq (op_convInt (k := .u64) (by kernel_rfl) rfl rfl ?_))))))))))))))))
    obtain ⟨n15, h⟩ := zah h
    refine gq (op_shr rfl rfl n15 rfl (gq (op_convInt (k := .u8) (r := (UInt8.toNat (u8i (Int.fdiv (IntKind.u64.wrap (a0)) (2 ^ min (Int.toNat (IntKind.u64.wrap (i64 (8 * x4_l2)))) IntKind.u64.bits))) : Int)) (by kernel_rfl) rfl (u8i_eq _) ?_)))
    obtain ⟨n16, h⟩ := zah h
    refine G_r rfl (op_index_vec (by kernel_rfl) rfl rfl n16.1 n16.2 (G_l rfl (op_store_vec (i := i64 (7 - x4_l2)) (o := 0) (z := u8i (Int.fdiv (IntKind.u64.wrap (a0)) (2 ^ min (Int.toNat (IntKind.u64.wrap (i64 (8 * x4_l2)))) IntKind.u64.bits))) (c' := [.exact (.int .u8 (UInt8.toNat (u8i (Int.fdiv (IntKind.u64.wrap (a0)) (2 ^ min (Int.toNat (IntKind.u64.wrap (i64 (8 * x4_l2)))) IntKind.u64.bits))) : Int))]) (by kernel_rfl) len_c_uint8 rfl n16.1 n16.2 rfl CellsOf.int (lc lf ln) (OneC.int OneC.nil) (by kernel_rfl) (Nat.le_of_ble_eq_true rfl) rfl (zad (zaz (zaa (kr (qm (.xi x4_l2) rfl (gq (op_add rfl rfl rfl (qa (.xi (i64 (x4_l2 + 1))) rfl (zad (zae ⟨_, _, h, s3 rfl rfl rfl⟩)))))))))))))
   ·refine k_exit (kC_exit (kI_exit (kB_exit (zae ⟨_, h, s1 rfl⟩))))
 ·refine zac (kr (qm (.exact v2) rfl (G_r rfl (op_bytesS_bor rfl (by kernel_rfl) (Bor.vec (List.Mem.head _) len_c_uint8) (qa (.xs x3_j3) rfl (zad (zaa (zax ?_))))))))
  obtain rfl := oi h
  refine ke (pt AF0 2 (.xs x3_j3)) [] rfl (Sub.trans (SubU.to SubU.drop) (s1 rfl)) ⟨rfl, rfl⟩
theorem m_ref9_Int_ok (a0 : Int) (r : (List UInt8)) (h : m_ref9_Int a0 = some r) : Pure Tryz.prog 7 [(.exact (.int .i64 a0))] (.exact (.string (bs r))) := by
 unfold m_ref9_Int at h
 refine Pure.ofFun (zar Tryz.func7 rfl Tryz.ntmps7 (by simp) rfl (res1 rfl) fun E hE => k_end (zac (kr (qa (.xs ([] : List UInt8)) rfl (zad (zaa (zac (k_plan [] [(0, 0), (0, 1), (0, 2), (0, 3), (0, 4), (0, 5)] hmixP (by kernel_rfl) (P_q zaq rfl (op_litT (n := 1) (enc := c_uint8) [1] (CellsAll.cons rfl CellsOf.int CellsAll.nil) rfl (by kernel_rfl) (LEss.cons (lc lf ln) LEss.nil) (P_q zaq rfl (op_bytesS rfl (by kernel_rfl) rfl (P_q zaq rfl (zam (av := .xi a0) rfl ?_))))))))))))))
 obtain ⟨y1, hy1, h⟩ := zag h
 refine P_q zaq rfl (zal (m_ref9_eight_ok _ _ hy1) Tryz.func27 (by kernel_rfl) (lc lf ln) ?_)
 obtain ⟨n2, h⟩ := zah h
 refine P_q zaq rfl (op_addS n2 rfl rfl (P_q zaq rfl (op_assign (av := .xs ([1] ++ y1)) rfl (P_nil (zaa (zax ?_))))))
 obtain rfl := oi h
 refine ke (pt AF0 2 (.xs ([1] ++ y1))) [] rfl (s1 rfl) ⟨rfl, rfl⟩
theorem m_ref9_ascending_ok (self_ref9_walk : (List UInt8) → Int → Bool → Option (Int × (List (List UInt8)) × Int)) (hself_ref9_walk : ∀ (a0 : List UInt8) (a1 : Int) (a2 : Bool) (r : Int × (List (List UInt8)) × Int), self_ref9_walk a0 a1 a2 = some r → Pure Tryz.prog 51 [(.exact (.string (bs a0))), (.exact (.int .i64 a1)), (.exact (.bool a2))] (.tup [.exact (.int .i64 r.1), .row 1 zab r.2.1, .exact (.int .i64 r.2.2)])) (self_ref9_order : (List UInt8) → (List UInt8) → Option Int) (hself_ref9_order : ∀ (a0 : List UInt8) (a1 : List UInt8) (r : Int), self_ref9_order a0 a1 = some r → Pure Tryz.prog 102 [(.exact (.string (bs a0))), (.exact (.string (bs a1)))] (.exact (.int .i64 r))) (a0 : List (List UInt8)) (a1 : Int) (r : Bool) (h : m_ref9_ascending self_ref9_walk self_ref9_order a0 a1 = some r) : Pure Tryz.prog 116 [(.row 1 zab a0), (.exact (.int .i64 a1))] (.exact (.bool r)) := by
 unfold m_ref9_ascending at h
 refine Pure.ofFun (zar Tryz.func116 rfl Tryz.ntmps116 (by simp) rfl (res1 rfl) fun E hE => k_end (zac (kr (qa (.xb false) rfl (zad (zaa (k_join0_0 h (AF0) ([]) (fun k1 h => ?_) (fun  h => ?_))))))))
 ·refine zac (kr (qm (.xi a1) rfl (qa (.xi a1) rfl (zad (zaa (zaw (k_loop1_0 (m_ref9_ascending_L2 self_ref9_order a0 a1 k1) (m_ref9_ascending_B2 self_ref9_order a0 a1 k1) (fun _ => rfl) (fun m _ => rfl) h (fun (x5_l2 : Int) => (pt (pt (pt AF0 0 (.row 1 zab a0)) 1 (.xi a1)) 5 (.xi x5_l2))) (fun (x5_l2 : Int) => []) ?_ (fun rec2 x5_l2 h => ?_))))))))
  ·exact s3 rfl rfl rfl
  ·unfold m_ref9_ascending_B2 at h
   refine zac (zac (kr (qm (.xi x5_l2) rfl (qm (.row 1 zab a0) rfl (gq (zap (by kernel_rfl) rfl (gq (op_lss rfl rfl (zad (zaa (kd (p := x5_l2 < (List.length a0 : Int)) rfl h (fun hc h => ?_) (fun hc h => ?_))))))))))))
   ·refine zat (zaa (zac (zaw (zac (k_plan [] [(0, 0), (0, 1), (0, 2), (0, 3), (0, 4), (0, 5), (0, 6), (0, 7), (0, 8), (0, 9), (0, 10), (0, 11)] hmixP (by kernel_rfl) (P_q zaq rfl (zam (av := .row 1 zab a0) rfl (P_q zaq rfl (zam (av := .xi x5_l2) rfl (P_q zaq rfl (zam (av := .xi a1) rfl (P_q zaq rfl (op_sub rfl rfl rfl ?_)))))))))))))
    obtain ⟨n18, h⟩ := zah h
    refine P_q zaq rfl (zao (by kernel_rfl) rfl rfl n18.1 n18.2 (P_q zaq rfl (zav (a := .xs (gi a0 (i64 (x5_l2 - a1)))) (by kernel_rfl) rfl rfl (P_q zaq rfl (zam (av := .row 1 zab a0) rfl (P_q zaq rfl (zam (av := .xi x5_l2) rfl ?_)))))))
    obtain ⟨n19, h⟩ := zah h
    refine P_q zaq rfl (zao (by kernel_rfl) rfl rfl n19.1 n19.2 (P_q zaq rfl (zav (a := .xs (gi a0 x5_l2)) (by kernel_rfl) rfl rfl ?_)))
    obtain ⟨y20, hy20, h⟩ := zag h
    refine P_q zaq rfl (zal (hself_ref9_order _ _ _ hy20) Tryz.func102 (by kernel_rfl) (lc lf (lc lf ln)) (P_q zaq rfl (op_geq rfl rfl (P_nil (zaa (kd (p := 0 ≤ y20) rfl h (fun hc h => ?_) (fun hc h => ?_)))))))
    ·refine zac (kr (qa (.xb false) rfl (zad (zaa (zax (zbb (zba (zbj (zbb (zbj ?_))))))))))
     obtain rfl := oi h
     refine ke (pt AF0 4 (.xb false)) [] rfl (s1 rfl) ⟨rfl, rfl⟩
    ·refine zat (zaz (zaa (kr (qm (.xi x5_l2) rfl (qm (.xi a1) rfl (gq (op_add rfl rfl rfl (qa (.xi (i64 (x5_l2 + a1))) rfl (zad (zae ⟨_, h, s3 rfl rfl rfl⟩))))))))))
   ·refine k_exit (kC_exit (kI_exit (kB_exit (zae ⟨h, Sub.of_le lt0⟩))))
 ·refine zac (kr (qa (.xb true) rfl (zad (zaa (zax ?_)))))
  obtain rfl := oi h
  refine ke (pt AF0 4 (.xb true)) [] rfl (s1 rfl) ⟨rfl, rfl⟩
theorem m_ref9_number_ok (a0 : List UInt8) (r : Int) (h : m_ref9_number a0 = some r) : Pure Tryz.prog 118 [(.exact (.string (bs a0)))] (.exact (.int .i64 r)) := by
 unfold m_ref9_number at h
 refine Pure.ofFun (zar Tryz.func118 rfl Tryz.ntmps118 (by simp) rfl (res1 rfl) fun E hE => k_end (zac (kr (qa (.xi 0) rfl (zad (zaa (zac (kr (qa (.exact (.int .u64 0)) rfl (zad (zaa (zbc h (fun (x3_j1 : Int) => (pt AF0 3 (.exact (.int .u64 x3_j1)))) (fun (x3_j1 : Int) => []) (fun k1 h => ?_) (fun x3_j1 h => ?_)))))))))))))
 ·refine zac (kr (qa (.xi 0) rfl (zad (zaa (zaw (k_loop2_0 (m_ref9_number_L2 a0 k1) (m_ref9_number_B2 a0 k1) (fun _ _ => rfl) (fun m _ _ => rfl) h (fun (x3_l2 : Int) (x4_l2 : Int) => (pt (pt (pt AF0 0 (.xs a0)) 3 (.exact (.int .u64 x3_l2))) 4 (.xi x4_l2))) (fun (x3_l2 : Int) (x4_l2 : Int) => []) ?_ (fun rec2 x3_l2 x4_l2 h => ?_)))))))
  ·exact s3 rfl rfl rfl
  ·unfold m_ref9_number_B2 at h
   refine zac (zac (kr (qm (.xi x4_l2) rfl (gq (op_lss rfl rfl (zad (zaa (kd (p := x4_l2 < 8) rfl h (fun hc h => ?_) (fun hc h => ?_)))))))))
   ·refine zat (zaa (zac (zaw (kr (qm (.exact (.int .u64 x3_l2)) rfl (gq (op_shl rfl rfl (by decide) rfl (qm (.xs a0) rfl (qm (.xi x4_l2) rfl ?_)))))))))
    obtain ⟨n8, h⟩ := zah h
    refine gq (op_index_str (by kernel_rfl) rfl rfl n8.1 n8.2 (gq (op_convInt (k := .u64) (r := (UInt8.toNat (gi a0 x4_l2) : Int)) (by kernel_rfl) rfl (wrap_u8 rfl _) (gq (op_or rfl rfl rfl (qa (.exact (.int .u64 (bOr .u64 (IntKind.u64.wrap (x3_l2 * 2 ^ min (Int.toNat 8) IntKind.u64.bits)) (UInt8.toNat (gi a0 x4_l2) : Int)))) rfl (zad (zaz (zaa (kr (qm (.xi x4_l2) rfl (gq (op_add rfl rfl rfl (qa (.xi (i64 (x4_l2 + 1))) rfl (zad (zae ⟨_, _, h, s3 rfl rfl rfl⟩))))))))))))))))
   ·refine k_exit (kC_exit (kI_exit (kB_exit (zae ⟨_, h, s1 rfl⟩))))
 ·refine zac (kr (qm (.exact (.int .u64 x3_j1)) rfl (gq (op_convInt (k := .i64) (by kernel_rfl) rfl rfl (qa (.xi (i64 (x3_j1))) rfl (zad (zaa (zax ?_))))))))
  obtain rfl := oi h
  refine ke (pt AF0 2 (.xi (i64 (x3_j1)))) [] rfl (s1 rfl) ⟨rfl, rfl⟩
theorem m_ref9_small_ok (a0 : List UInt8) (a1 : Int) (a2 : Int) (r : Bool) (h : m_ref9_small a0 a1 a2 = some r) : Pure Tryz.prog 117 [(.exact (.string (bs a0))), (.exact (.int .i64 a1)), (.exact (.int .i64 a2))] (.exact (.bool r)) := by
 unfold m_ref9_small at h
 refine Pure.ofFun (zar Tryz.func117 rfl Tryz.ntmps117 (by simp) rfl (res1 rfl) fun E hE => k_end (zac (kr (qa (.xb false) rfl (zad (zaa (zbc h (fun (x6_j1 : Bool) => (pt AF0 6 (.xb x6_j1))) (fun (x6_j1 : Bool) => []) (fun k1 h => ?_) (fun x6_j1 h => ?_))))))))
 ·refine kr (qm (.xs a0) rfl ?_)
  obtain ⟨n7, h⟩ := zah h
  refine gq (op_index_str (by kernel_rfl) rfl rfl n7.1 n7.2 (gq (op_convInt (k := .i64) (r := (UInt8.toNat (gi a0 0) : Int)) (by kernel_rfl) rfl (wrap_u8 rfl _) (gq (op_eql rfl rfl (qm (.xb (decide ((UInt8.toNat (gi a0 0) : Int) = 1))) rfl (G_split (p := (UInt8.toNat (gi a0 0) : Int) = 1) 11 rfl (fun hc => ?_) (fun hc => ?_))))))))
  ·replace h := ite_t h hc
   refine Gy_q rfl rfl rfl (zam (av := .xs a0) rfl ?_)
   obtain ⟨n8, h⟩ := zah h
   refine Gy_q rfl rfl rfl (op_slice_strd (by kernel_rfl) rfl (bnd_some rfl) bnd_none (by decide) n8 (Int.le_refl _) ?_)
   obtain ⟨y9, hy9, h⟩ := zag h
   refine Gy_q rfl rfl rfl (zal (m_ref9_number_ok _ _ hy9) Tryz.func118 (by kernel_rfl) (lc lf ln) (Gy_q rfl rfl rfl (zam (av := .xi a1) rfl (Gy_q rfl rfl rfl (op_geq rfl rfl (gq (zau rfl (av := .xb (decide (a1 ≤ y9))) rfl (qm (.xb (decide (a1 ≤ y9))) rfl (G_split (p := a1 ≤ y9) 18 rfl (fun hc => ?_) (fun hc => ?_))))))))))
   ·replace h := ite_t h hc
    refine Gy_q rfl rfl rfl (zam (av := .xs a0) rfl ?_)
    obtain ⟨n10, h⟩ := zah h
    refine Gy_q rfl rfl rfl (op_slice_strd (by kernel_rfl) rfl (bnd_some rfl) bnd_none (by decide) n10 (Int.le_refl _) ?_)
    obtain ⟨y11, hy11, h⟩ := zag h
    refine Gy_q rfl rfl rfl (zal (m_ref9_number_ok _ _ hy11) Tryz.func118 (by kernel_rfl) (lc lf ln) (Gy_q rfl rfl rfl (zam (av := .xi a2) rfl (Gy_q rfl rfl rfl (op_leq rfl rfl (gq (zau rfl (av := .xb (decide (y11 ≤ a2))) rfl (qa (.xb (decide (y11 ≤ a2))) rfl (zad (zae ⟨_, h, s1 rfl⟩))))))))))
   ·replace h := ite_f h hc
    refine G_n rfl rfl (G_n rfl rfl (G_n rfl rfl (G_n rfl rfl (G_n rfl rfl (gq (zaj rfl (av := .xb false) rfl (qa (.xb false) rfl (zad (zae ⟨_, h, s1 rfl⟩)))))))))
  ·replace h := ite_f h hc
   refine G_n rfl rfl (G_n rfl rfl (G_n rfl rfl (G_n rfl rfl (G_n rfl rfl (gq (zaj rfl (av := .xb false) rfl (qm (.xb false) rfl (G_n rfl rfl (G_n rfl rfl (G_n rfl rfl (G_n rfl rfl (G_n rfl rfl (gq (zaj rfl (av := .xb false) rfl (qa (.xb false) rfl (zad (zae ⟨_, h, s1 rfl⟩)))))))))))))))))
 ·refine zax ?_
  obtain rfl := oi h
  refine ke (pt AF0 6 (.xb x6_j1)) [] rfl (s1 rfl) ⟨rfl, rfl⟩
theorem m_ref9_parted_ok (self_ref9_walk : (List UInt8) → Int → Bool → Option (Int × (List (List UInt8)) × Int)) (hself_ref9_walk : ∀ (a0 : List UInt8) (a1 : Int) (a2 : Bool) (r : Int × (List (List UInt8)) × Int), self_ref9_walk a0 a1 a2 = some r → Pure Tryz.prog 51 [(.exact (.string (bs a0))), (.exact (.int .i64 a1)), (.exact (.bool a2))] (.tup [.exact (.int .i64 r.1), .row 1 zab r.2.1, .exact (.int .i64 r.2.2)])) (self_ref9_order : (List UInt8) → (List UInt8) → Option Int) (hself_ref9_order : ∀ (a0 : List UInt8) (a1 : List UInt8) (r : Int), self_ref9_order a0 a1 = some r → Pure Tryz.prog 102 [(.exact (.string (bs a0))), (.exact (.string (bs a1)))] (.exact (.int .i64 r))) (a0 : Int) (a1 : List (List UInt8)) (r : Bool) (h : m_ref9_parted self_ref9_walk self_ref9_order a0 a1 = some r) : Pure Tryz.prog 93 [(.exact (.int .i64 a0)), (.row 1 zab a1)] (.exact (.bool r)) := by
 unfold m_ref9_parted at h
 refine Pure.ofFun (zar Tryz.func93 rfl Tryz.ntmps93 (by simp) rfl (res1 rfl) fun E hE => k_end (zac (kr (qa (.xb false) rfl (zad (zaa (zac (zac (kr (qm (.xi a0) rfl (zad (zaa (zaw (zac (kr (gq (op_eql rfl rfl (qa (.xb (decide (a0 = 3))) rfl (zad (zaa (kd (p := a0 = 3) rfl h (fun hc h => ?_) (fun hc h => ?_))))))))))))))))))))))
 ·refine zbc h (fun (x4_j1 : Bool) => (pt AF0 4 (.xb x4_j1))) (fun (x4_j1 : Bool) => []) (fun k1 h => ?_) (fun x4_j1 h => ?_)
  ·refine kr (qm (.row 1 zab a1) rfl (gq (zap (by kernel_rfl) rfl (gq (op_geq rfl rfl (qm (.xb (decide (2 ≤ (List.length a1 : Int)))) rfl (G_split (p := 2 ≤ (List.length a1 : Int)) 11 rfl (fun hc => ?_) (fun hc => ?_))))))))
   ·replace h := ite_t h hc
    refine Gy_q rfl rfl rfl (zam (av := .row 1 zab a1) rfl (Gy_q rfl rfl rfl (zap (by kernel_rfl) rfl (Gy_q rfl rfl rfl (op_leq rfl rfl (gq (zau rfl (av := .xb (decide ((List.length a1 : Int) ≤ 8))) rfl (qa (.xb (decide ((List.length a1 : Int) ≤ 8))) rfl (zad (zae ⟨_, h, s1 rfl⟩))))))))))
   ·replace h := ite_f h hc
    refine G_n rfl rfl (G_n rfl rfl (G_n rfl rfl (gq (zaj rfl (av := .xb false) rfl (qa (.xb false) rfl (zad (zae ⟨_, h, s1 rfl⟩)))))))
  ·refine zax (zbb (zba ?_))
   obtain rfl := oi h
   refine ke (pt AF0 4 (.xb x4_j1)) [] rfl (s1 rfl) ⟨rfl, rfl⟩
 ·refine zac (kr (gq (op_eql rfl rfl (qa (.xb (decide (a0 = 5))) rfl (zad (zaa (kd (p := a0 = 5) rfl h (fun hc h => ?_) (fun hc h => ?_))))))))
  ·refine zac (kr (qm (.row 1 zab a1) rfl ?_))
   obtain ⟨y2, hy2, h⟩ := zag h
   refine gq (zal (m_ref9_ascending_ok self_ref9_walk hself_ref9_walk self_ref9_order hself_ref9_order _ _ _ hy2) Tryz.func116 (by kernel_rfl) (lc lf (lc lf ln)) (qa (.xb y2) rfl (zad (zaa (zax (zbb (zba ?_)))))))
   obtain rfl := oi h
   refine ke (pt AF0 4 (.xb y2)) [] rfl (s1 rfl) ⟨rfl, rfl⟩
  ·refine zac (kr (gq (op_eql rfl rfl (qa (.xb (decide (a0 = 6))) rfl (zad (zaa (kd (p := a0 = 6) rfl h (fun hc h => ?_) (fun hc h => ?_))))))))
   ·refine zbc h (fun (x4_j3 : Bool) => (pt AF0 4 (.xb x4_j3))) (fun (x4_j3 : Bool) => []) (fun k3 h => ?_) (fun x4_j3 h => ?_)
    ·refine kr (qm (.row 1 zab a1) rfl (gq (zap (by kernel_rfl) rfl (gq (op_rem rfl rfl (by decide) rfl (gq (op_eql rfl rfl (qm (.xb (decide ((Int.tmod (List.length a1 : Int) 2) = 0))) rfl (G_split (p := (Int.tmod (List.length a1 : Int) 2) = 0) 26 rfl (fun hc => ?_) (fun hc => ?_))))))))))
     ·replace h := ite_t h hc
      refine Gy_q rfl rfl rfl (zam (av := .row 1 zab a1) rfl ?_)
      obtain ⟨y5, hy5, h⟩ := zag h
      refine Gy_q rfl rfl rfl (zal (m_ref9_ascending_ok self_ref9_walk hself_ref9_walk self_ref9_order hself_ref9_order _ _ _ hy5) Tryz.func116 (by kernel_rfl) (lc lf (lc lf ln)) (gq (zau rfl (av := .xb y5) rfl (qa (.xb y5) rfl (zad (zae ⟨_, h, s1 rfl⟩))))))
     ·replace h := ite_f h hc
      refine G_n rfl rfl (G_n rfl rfl (gq (zaj rfl (av := .xb false) rfl (qa (.xb false) rfl (zad (zae ⟨_, h, s1 rfl⟩))))))
    ·refine zax (zbb (zba ?_))
     obtain rfl := oi h
     refine ke (pt AF0 4 (.xb x4_j3)) [] rfl (s1 rfl) ⟨rfl, rfl⟩
   ·refine zac (kr (gq (op_eql rfl rfl (qa (.xb (decide (a0 = 7))) rfl (zad (zaa (kd (p := a0 = 7) rfl h (fun hc h => ?_) (fun hc h => ?_))))))))
    ·refine zbc h (fun (x4_j6 : Bool) => (pt AF0 4 (.xb x4_j6))) (fun (x4_j6 : Bool) => []) (fun k6 h => ?_) (fun x4_j6 h => ?_)
     ·refine kr (qm (.row 1 zab a1) rfl (gq (zap (by kernel_rfl) rfl (gq (op_geq rfl rfl (qm (.xb (decide (1 ≤ (List.length a1 : Int)))) rfl (G_split (p := 1 ≤ (List.length a1 : Int)) 35 rfl (fun hc => ?_) (fun hc => ?_))))))))
      ·replace h := ite_t h hc
       refine Gy_q rfl rfl rfl (zam (av := .row 1 zab a1) rfl (Gy_q rfl rfl rfl (zap (by kernel_rfl) rfl (Gy_q rfl rfl rfl (op_leq rfl rfl (gq (zau rfl (av := .xb (decide ((List.length a1 : Int) ≤ 9))) rfl (qm (.xb (decide ((List.length a1 : Int) ≤ 9))) rfl (G_split (p := (List.length a1 : Int) ≤ 9) 40 rfl (fun hc => ?_) (fun hc => ?_))))))))))
       ·replace h := ite_t h hc
        refine Gy_q rfl rfl rfl (zam (av := .row 1 zab a1) rfl ?_)
        obtain ⟨n9, h⟩ := zah h
        refine Gy_q rfl rfl rfl (zao (by kernel_rfl) rfl rfl n9.1 n9.2 (Gy_q rfl rfl rfl (zav (a := .xs (gi a1 0)) (by kernel_rfl) rfl rfl ?_)))
        obtain ⟨n10, h⟩ := zah h
        refine Gy_q rfl rfl rfl (op_index_str (by kernel_rfl) rfl rfl n10.1 n10.2 (Gy_q rfl rfl rfl (op_convInt (k := .i64) (r := (UInt8.toNat (gi (gi a1 0) 0) : Int)) (by kernel_rfl) rfl (wrap_u8 rfl _) (Gy_q rfl rfl rfl (op_eql rfl rfl (gq (zau rfl (av := .xb (decide ((UInt8.toNat (gi (gi a1 0) 0) : Int) = 10))) rfl (qa (.xb (decide ((UInt8.toNat (gi (gi a1 0) 0) : Int) = 10))) rfl (zad (zae ⟨_, h, s1 rfl⟩))))))))))
       ·replace h := ite_f h hc
        refine G_n rfl rfl (G_n rfl rfl (G_n rfl rfl (G_n rfl rfl (G_n rfl rfl (G_n rfl rfl (gq (zaj rfl (av := .xb false) rfl (qa (.xb false) rfl (zad (zae ⟨_, h, s1 rfl⟩))))))))))
      ·replace h := ite_f h hc
       refine G_n rfl rfl (G_n rfl rfl (G_n rfl rfl (gq (zaj rfl (av := .xb false) rfl (qm (.xb false) rfl (G_n rfl rfl (G_n rfl rfl (G_n rfl rfl (G_n rfl rfl (G_n rfl rfl (G_n rfl rfl (gq (zaj rfl (av := .xb false) rfl (qa (.xb false) rfl (zad (zae ⟨_, h, s1 rfl⟩))))))))))))))))
     ·refine zax (zbb (zba ?_))
      obtain rfl := oi h
      refine ke (pt AF0 4 (.xb x4_j6)) [] rfl (s1 rfl) ⟨rfl, rfl⟩
    ·refine zac (kr (gq (op_eql rfl rfl (qa (.xb (decide (a0 = 8))) rfl (zad (zaa (kd (p := a0 = 8) rfl h (fun hc h => ?_) (fun hc h => ?_))))))))
     ·refine zbc h (fun (x4_j11 : Bool) => (pt AF0 4 (.xb x4_j11))) (fun (x4_j11 : Bool) => []) (fun k11 h => ?_) (fun x4_j11 h => ?_)
      ·refine kr (qm (.row 1 zab a1) rfl (gq (zap (by kernel_rfl) rfl (gq (op_geq rfl rfl (qm (.xb (decide (1 ≤ (List.length a1 : Int)))) rfl (G_split (p := 1 ≤ (List.length a1 : Int)) 53 rfl (fun hc => ?_) (fun hc => ?_))))))))
       ·replace h := ite_t h hc
        refine Gy_q rfl rfl rfl (zam (av := .row 1 zab a1) rfl (Gy_q rfl rfl rfl (zap (by kernel_rfl) rfl (Gy_q rfl rfl rfl (op_leq rfl rfl (gq (zau rfl (av := .xb (decide ((List.length a1 : Int) ≤ 33))) rfl (qm (.xb (decide ((List.length a1 : Int) ≤ 33))) rfl (G_split (p := (List.length a1 : Int) ≤ 33) 58 rfl (fun hc => ?_) (fun hc => ?_))))))))))
        ·replace h := ite_t h hc
         refine Gy_q rfl rfl rfl (zam (av := .row 1 zab a1) rfl ?_)
         obtain ⟨n14, h⟩ := zah h
         refine Gy_q rfl rfl rfl (zao (by kernel_rfl) rfl rfl n14.1 n14.2 (Gy_q rfl rfl rfl (zav (a := .xs (gi a1 0)) (by kernel_rfl) rfl rfl ?_)))
         obtain ⟨y15, hy15, h⟩ := zag h
         refine Gy_q rfl rfl rfl (zal (m_ref9_small_ok _ _ _ _ hy15) Tryz.func117 (by kernel_rfl) (lc lf (lc lf (lc lf ln))) (gq (zau rfl (av := .xb y15) rfl (qa (.xb y15) rfl (zad (zae ⟨_, h, s1 rfl⟩))))))
        ·replace h := ite_f h hc
         refine G_n rfl rfl (G_n rfl rfl (G_n rfl rfl (G_n rfl rfl (gq (zaj rfl (av := .xb false) rfl (qa (.xb false) rfl (zad (zae ⟨_, h, s1 rfl⟩))))))))
       ·replace h := ite_f h hc
        refine G_n rfl rfl (G_n rfl rfl (G_n rfl rfl (gq (zaj rfl (av := .xb false) rfl (qm (.xb false) rfl (G_n rfl rfl (G_n rfl rfl (G_n rfl rfl (G_n rfl rfl (gq (zaj rfl (av := .xb false) rfl (qa (.xb false) rfl (zad (zae ⟨_, h, s1 rfl⟩))))))))))))))
      ·refine zax (zbb (zba ?_))
       obtain rfl := oi h
       refine ke (pt AF0 4 (.xb x4_j11)) [] rfl (s1 rfl) ⟨rfl, rfl⟩
     ·refine zac (kr (gq (op_eql rfl rfl (qa (.xb (decide (a0 = 9))) rfl (zad (zaa (kd (p := a0 = 9) rfl h (fun hc h => ?_) (fun hc h => ?_))))))))
      ·refine zbc h (fun (x4_j16 : Bool) => (pt AF0 4 (.xb x4_j16))) (fun (x4_j16 : Bool) => []) (fun k16 h => ?_) (fun x4_j16 h => ?_)
       ·refine kr (qm (.row 1 zab a1) rfl (gq (zap (by kernel_rfl) rfl (gq (op_geq rfl rfl (qm (.xb (decide (1 ≤ (List.length a1 : Int)))) rfl (G_split (p := 1 ≤ (List.length a1 : Int)) 69 rfl (fun hc => ?_) (fun hc => ?_))))))))
        ·replace h := ite_t h hc
         refine Gy_q rfl rfl rfl (zam (av := .row 1 zab a1) rfl ?_)
         obtain ⟨n19, h⟩ := zah h
         refine Gy_q rfl rfl rfl (zao (by kernel_rfl) rfl rfl n19.1 n19.2 (Gy_q rfl rfl rfl (zav (a := .xs (gi a1 0)) (by kernel_rfl) rfl rfl ?_)))
         obtain ⟨y20, hy20, h⟩ := zag h
         refine Gy_q rfl rfl rfl (zal (m_ref9_small_ok _ _ _ _ hy20) Tryz.func117 (by kernel_rfl) (lc lf (lc lf (lc lf ln))) (gq (zau rfl (av := .xb y20) rfl (qa (.xb y20) rfl (zad (zae ⟨_, h, s1 rfl⟩))))))
        ·replace h := ite_f h hc
         refine G_n rfl rfl (G_n rfl rfl (G_n rfl rfl (G_n rfl rfl (gq (zaj rfl (av := .xb false) rfl (qa (.xb false) rfl (zad (zae ⟨_, h, s1 rfl⟩))))))))
       ·refine zax (zbb (zba ?_))
        obtain rfl := oi h
        refine ke (pt AF0 4 (.xb x4_j16)) [] rfl (s1 rfl) ⟨rfl, rfl⟩
      ·refine zat (zaz (zaa (zac (kr (qa (.xb true) rfl (zad (zaa (zax ?_))))))))
       obtain rfl := oi h
       refine ke (pt AF0 4 (.xb true)) [] rfl (s1 rfl) ⟨rfl, rfl⟩
theorem m_ref9_walk_F_ok (self_ref9_walk : (List UInt8) → Int → Bool → Option (Int × (List (List UInt8)) × Int)) (hself_ref9_walk : ∀ (a0 : List UInt8) (a1 : Int) (a2 : Bool) (r : Int × (List (List UInt8)) × Int), self_ref9_walk a0 a1 a2 = some r → Pure Tryz.prog 51 [(.exact (.string (bs a0))), (.exact (.int .i64 a1)), (.exact (.bool a2))] (.tup [.exact (.int .i64 r.1), .row 1 zab r.2.1, .exact (.int .i64 r.2.2)])) (self_ref9_order : (List UInt8) → (List UInt8) → Option Int) (hself_ref9_order : ∀ (a0 : List UInt8) (a1 : List UInt8) (r : Int), self_ref9_order a0 a1 = some r → Pure Tryz.prog 102 [(.exact (.string (bs a0))), (.exact (.string (bs a1)))] (.exact (.int .i64 r))) (a0 : List UInt8) (a1 : Int) (a2 : Bool) (r : Int × (List (List UInt8)) × Int) (h : m_ref9_walk_F self_ref9_walk self_ref9_order a0 a1 a2 = some r) : Pure Tryz.prog 51 [(.exact (.string (bs a0))), (.exact (.int .i64 a1)), (.exact (.bool a2))] (.tup [.exact (.int .i64 r.1), .row 1 zab r.2.1, .exact (.int .i64 r.2.2)]) := by
 unfold m_ref9_walk_F at h
 refine Pure.ofFun (zar Tryz.func51 rfl Tryz.ntmps51 (by simp) rfl (res3 rfl) fun E hE => k_end (zac (kr (qa (.xi 0) rfl (qa (.exact (.slice none 0 0)) rfl (qa (.xi 0) rfl (zad (zaa (zac (zbc h (fun (x24_j3 : Bool) => (pt (pt (pt (pt AF0 0 (.xs a0)) 1 (.xi a1)) 2 (.xb a2)) 24 (.xb x24_j3))) (fun (x24_j3 : Bool) => []) (fun k3 h => ?_) (fun x24_j3 h => ?_)))))))))))
 ·refine kr (qm (.xs a0) rfl (gq (op_lenS (by kernel_rfl) rfl (gq (op_lss rfl rfl (qm (.xb (decide ((List.length a0 : Int) < 2))) rfl (G_split (p := (List.length a0 : Int) < 2) 21 rfl (fun hc => ?_) (fun hc => ?_))))))))
  ·replace h := ite_t h hc
   refine G_n rfl rfl (G_n rfl rfl (gq (zau rfl (av := .xb true) rfl (zad (zae ⟨_, h, s4 rfl rfl rfl rfl⟩)))))
  ·replace h := ite_f h hc
   refine Gy_q rfl rfl rfl (zam (av := .xi a1) rfl (Gy_q rfl rfl rfl (op_eql rfl rfl (gq (zaj rfl (av := .xb (decide (a1 = 0))) rfl (zad (zae ⟨_, h, s4 rfl rfl rfl rfl⟩)))))))
 ·refine kb (p := x24_j3) rfl h (fun hc h => ?_) (fun hc h => ?_)
  ·refine zac (kr (qa (.xi 0) rfl (qa (.exact (.slice none 0 0)) rfl (qa (.xi 0) rfl (zad (zaa (zax (zba ?_))))))))
   obtain rfl := oi h
   refine ke (pt (pt (pt AF0 6 (.xi 0)) 7 (.row 1 zab [])) 8 (.xi 0)) [] rfl (so (lq rfl (AF.le_put (row_nil (by decide)) (lq rfl lt0)))) ⟨rfl, rfl⟩
  ·refine zat (zaa (zac (zac (kr (qm (.xs a0) rfl ?_)))))
   obtain ⟨n8, h⟩ := zah h
   refine gq (op_index_str (by kernel_rfl) rfl rfl n8.1 n8.2 (gq (op_convInt (k := .i64) (r := (UInt8.toNat (gi a0 0) : Int)) (by kernel_rfl) rfl (wrap_u8 rfl _) (qa (.xi (UInt8.toNat (gi a0 0) : Int)) rfl (zad (zaa (zaw (zac (kr (qm (.xi (UInt8.toNat (gi a0 0) : Int)) rfl (gq (op_eql rfl rfl (qa (.xb (decide ((UInt8.toNat (gi a0 0) : Int) = 1))) rfl (zad (zaa (kd (p := (UInt8.toNat (gi a0 0) : Int) = 1) rfl h (fun hc h => ?_) (fun hc h => ?_)))))))))))))))))
   ·refine zac (zac (kr (qm (.xs a0) rfl (gq (op_lenS (by kernel_rfl) rfl (gq (op_lss rfl rfl (zad (zaa (kd (p := (List.length a0 : Int) < 9) rfl h (fun hc h => ?_) (fun hc h => ?_)))))))))))
    ·refine zac (kr (qa (.xi 0) rfl (qa (.exact (.slice none 0 0)) rfl (qa (.xi 0) rfl (zad (zaa (zax (zba (zbb (zba ?_))))))))))
     obtain rfl := oi h
     refine ke (pt (pt (pt AF0 6 (.xi 0)) 7 (.row 1 zab [])) 8 (.xi 0)) [] rfl (so (lq rfl (AF.le_put (row_nil (by decide)) (lq rfl lt0)))) ⟨rfl, rfl⟩
    ·refine zat (zaa (zac (kr (qa (.xi 9) rfl (qa (.exact (.slice none 0 0)) rfl (qa (.xi 1) rfl (zad (zaa (zax (zbb (zba ?_)))))))))))
     obtain rfl := oi h
     refine ke (pt (pt (pt AF0 6 (.xi 9)) 7 (.row 1 zab [])) 8 (.xi 1)) [] rfl (so (lq rfl (AF.le_put (row_nil (by decide)) (lq rfl lt0)))) ⟨rfl, rfl⟩
   ·refine zac (kr (qm (.xi (UInt8.toNat (gi a0 0) : Int)) rfl (gq (op_eql rfl rfl (qa (.xb (decide ((UInt8.toNat (gi a0 0) : Int) = 2))) rfl (zad (zaa (kd (p := (UInt8.toNat (gi a0 0) : Int) = 2) rfl h (fun hc h => ?_) (fun hc h => ?_)))))))))
    ·refine zac (zac (kr (qm (.xs a0) rfl ?_)))
     obtain ⟨n9, h⟩ := zah h
     refine gq (op_index_str (by kernel_rfl) rfl rfl n9.1 n9.2 (gq (op_gtrU (a := (gi a0 1)) (b := 1) rfl rfl (zad (zaa (kd (p := 1 < (gi a0 1)) rfl h (fun hc h => ?_) (fun hc h => ?_)))))))
     ·refine zac (kr (qa (.xi 0) rfl (qa (.exact (.slice none 0 0)) rfl (qa (.xi 0) rfl (zad (zaa (zax (zba (zbb (zba ?_))))))))))
      obtain rfl := oi h
      refine ke (pt (pt (pt AF0 6 (.xi 0)) 7 (.row 1 zab [])) 8 (.xi 0)) [] rfl (so (lq rfl (AF.le_put (row_nil (by decide)) (lq rfl lt0)))) ⟨rfl, rfl⟩
     ·refine zat (zaa (zac (kr (qa (.xi 2) rfl (qa (.exact (.slice none 0 0)) rfl (qa (.xi 1) rfl (zad (zaa (zax (zbb (zba ?_)))))))))))
      obtain rfl := oi h
      refine ke (pt (pt (pt AF0 6 (.xi 2)) 7 (.row 1 zab [])) 8 (.xi 1)) [] rfl (so (lq rfl (AF.le_put (row_nil (by decide)) (lq rfl lt0)))) ⟨rfl, rfl⟩
    ·refine zbc h (fun (x40_j10 : Bool) => (pt (pt (pt (pt (pt AF0 0 (.xs a0)) 1 (.xi a1)) 2 (.xb a2)) 9 (.xi (UInt8.toNat (gi a0 0) : Int))) 40 (.xb x40_j10))) (fun (x40_j10 : Bool) => []) (fun k10 h => ?_) (fun x40_j10 h => ?_)
     ·refine kr (qm (.xs a0) rfl (gq (op_lenS (by kernel_rfl) rfl (gq (op_lss rfl rfl (qm (.xb (decide ((List.length a0 : Int) < 3))) rfl (G_split (p := (List.length a0 : Int) < 3) 44 rfl (fun hc => ?_) (fun hc => ?_))))))))
      ·replace h := ite_t h hc
       refine G_n rfl rfl (G_n rfl rfl (gq (zau rfl (av := .xb true) rfl (qm (.xb true) rfl (G_n rfl rfl (G_n rfl rfl (gq (zau rfl (av := .xb true) rfl (qa (.xb true) rfl (zad (zae ⟨_, h, so (l4 rfl rfl rfl rfl (lq rfl lt0))⟩)))))))))))
      ·replace h := ite_f h hc
       refine Gy_q rfl rfl rfl (zam (av := .xi (UInt8.toNat (gi a0 0) : Int)) rfl (Gy_q rfl rfl rfl (op_lss rfl rfl (gq (zaj rfl (av := .xb (decide ((UInt8.toNat (gi a0 0) : Int) < 3))) rfl (qm (.xb (decide ((UInt8.toNat (gi a0 0) : Int) < 3))) rfl (G_split (p := (UInt8.toNat (gi a0 0) : Int) < 3) 48 rfl (fun hc => ?_) (fun hc => ?_))))))))
       ·replace h := ite_t h hc
        refine G_n rfl rfl (G_n rfl rfl (gq (zau rfl (av := .xb true) rfl (qa (.xb true) rfl (zad (zae ⟨_, h, so (l4 rfl rfl rfl rfl (lq rfl lt0))⟩))))))
       ·replace h := ite_f h hc
        refine Gy_q rfl rfl rfl (zam (av := .xi (UInt8.toNat (gi a0 0) : Int)) rfl (Gy_q rfl rfl rfl (op_gtr rfl rfl (gq (zaj rfl (av := .xb (decide (10 < (UInt8.toNat (gi a0 0) : Int)))) rfl (qa (.xb (decide (10 < (UInt8.toNat (gi a0 0) : Int)))) rfl (zad (zae ⟨_, h, so (l4 rfl rfl rfl rfl (lq rfl lt0))⟩))))))))
     ·refine kb (p := x40_j10) rfl h (fun hc h => ?_) (fun hc h => ?_)
      ·refine zac (kr (qa (.xi 0) rfl (qa (.exact (.slice none 0 0)) rfl (qa (.xi 0) rfl (zad (zaa (zax (zbb (zba ?_)))))))))
       obtain rfl := oi h
       refine ke (pt (pt (pt AF0 6 (.xi 0)) 7 (.row 1 zab [])) 8 (.xi 0)) [] rfl (so (lq rfl (AF.le_put (row_nil (by decide)) (lq rfl lt0)))) ⟨rfl, rfl⟩
      ·refine zac (kr (qm (.xi (UInt8.toNat (gi a0 0) : Int)) rfl (gq (op_eql rfl rfl (qa (.xb (decide ((UInt8.toNat (gi a0 0) : Int) = 10))) rfl (zad (zaa (kd (p := (UInt8.toNat (gi a0 0) : Int) = 10) rfl h (fun hc h => ?_) (fun hc h => ?_)))))))))
       ·refine zac (kr (qa (.xi 3) rfl (qa (.exact (.slice none 0 0)) rfl (qa (.xi 1) rfl (zad (zaa (zax (zbb (zba ?_)))))))))
        obtain rfl := oi h
        refine ke (pt (pt (pt AF0 6 (.xi 3)) 7 (.row 1 zab [])) 8 (.xi 1)) [] rfl (so (lq rfl (AF.le_put (row_nil (by decide)) (lq rfl lt0)))) ⟨rfl, rfl⟩
       ·refine zat (zaz (zaa (zac (k_plan [] [(0, 0), (0, 1), (0, 2), (0, 3), (0, 4), (0, 5), (0, 6), (0, 7), (0, 8)] hmixP (by kernel_rfl) (P_q zaq rfl (zam (av := .xs a0) rfl ?_))))))
        obtain ⟨n11, h⟩ := zah h
        refine P_q zaq rfl (op_index_str (by kernel_rfl) rfl rfl n11.1 n11.2 (P_q zaq rfl (op_convInt (k := .i64) (r := (UInt8.toNat (gi a0 1) : Int)) (by kernel_rfl) rfl (wrap_u8 rfl _) (P_q zaq rfl (op_shl rfl rfl (by decide) rfl (P_q zaq rfl (zam (av := .xs a0) rfl ?_)))))))
        obtain ⟨n12, h⟩ := zah h
        refine P_q zaq rfl (op_index_str (by kernel_rfl) rfl rfl n12.1 n12.2 (P_q zaq rfl (op_convInt (k := .i64) (r := (UInt8.toNat (gi a0 2) : Int)) (by kernel_rfl) rfl (wrap_u8 rfl _) (P_q zaq rfl (op_or rfl rfl rfl (P_q zaq rfl (op_assign (av := .xi (bOr .i64 (i64 ((UInt8.toNat (gi a0 1) : Int) * 2 ^ min (Int.toNat 8) IntKind.i64.bits)) (UInt8.toNat (gi a0 2) : Int))) rfl (P_nil (zaa (zac (kr (qa (.xi 3) rfl (qa (.xi 0) rfl (zad (zaa (zac (kr (qa (.exact (.slice none 0 0)) rfl (zad (zaa (k_join3_1 h (fun (x11_j13 : Int) (x12_j13 : Int) (x13_j13 : List (List UInt8)) (v13_j13 : Value) => (pt (pt (pt (pt (pt AF0 0 (.xs a0)) 2 (.xb a2)) 11 (.xi x11_j13)) 12 (.xi x12_j13)) 13 (.exact v13_j13))) (fun (x11_j13 : Int) (x12_j13 : Int) (x13_j13 : List (List UInt8)) (v13_j13 : Value) => [vecT Tryz.prog 23 1 zab v13_j13 x13_j13]) (fun k13 h => ?_) (fun x11_j13 x12_j13 x13_j13 v13_j13 h => ?_))))))))))))))))))))))
        ·refine zac (kr (qa (.xi 0) rfl (zad (zaa (zaw (k_loop4_1 (m_ref9_walk_L2 self_ref9_walk a0 a1 a2 k13) (m_ref9_walk_B2 self_ref9_walk a0 a1 a2 k13) (fun _ _ _ _ => rfl) (fun m _ _ _ _ => rfl) h (fun (x11_l2 : Int) (x12_l2 : Int) (x13_l2 : List (List UInt8)) (x14_l2 : Int) (v13_l2 : Value) => (pt (pt (pt (pt (pt (pt (pt (pt AF0 0 (.xs a0)) 1 (.xi a1)) 2 (.xb a2)) 10 (.xi (bOr .i64 (i64 ((UInt8.toNat (gi a0 1) : Int) * 2 ^ min (Int.toNat 8) IntKind.i64.bits)) (UInt8.toNat (gi a0 2) : Int)))) 11 (.xi x11_l2)) 12 (.xi x12_l2)) 13 (.exact v13_l2)) 14 (.xi x14_l2))) (fun (x11_l2 : Int) (x12_l2 : Int) (x13_l2 : List (List UInt8)) (x14_l2 : Int) (v13_l2 : Value) => [vecT Tryz.prog 23 1 zab v13_l2 x13_l2]) (.slice none 0 0) ?_ (fun rec2 x11_l2 x12_l2 x13_l2 x14_l2 v13_l2 h => ?_)))))))
         ·refine Sub.trans (SubU.to (SubU.nilT (P := Tryz.prog) (t := 23) (n := 1) (enc := zab))) (so (l4 rfl rfl rfl rfl (l4 rfl rfl rfl rfl lt0)))
         ·unfold m_ref9_walk_B2 at h
          refine zac (zac (kr (qm (.xi x14_l2) rfl (qm (.xi (bOr .i64 (i64 ((UInt8.toNat (gi a0 1) : Int) * 2 ^ min (Int.toNat 8) IntKind.i64.bits)) (UInt8.toNat (gi a0 2) : Int))) rfl (gq (op_lss rfl rfl (zad (zaa (kd (p := x14_l2 < (bOr .i64 (i64 ((UInt8.toNat (gi a0 1) : Int) * 2 ^ min (Int.toNat 8) IntKind.i64.bits)) (UInt8.toNat (gi a0 2) : Int))) rfl h (fun hc h => ?_) (fun hc h => ?_))))))))))
          ·refine zat (zaa (zac (zaw (zac (kr (qm (.xs a0) rfl (qm (.xi x11_l2) rfl ?_)))))))
           obtain ⟨n40, h⟩ := zah h
           refine gq (op_slice_strd (by kernel_rfl) rfl (bnd_some rfl) bnd_none n40.1 n40.2 (Int.le_refl _) (qm (.xi a1) rfl (gq (op_sub rfl rfl rfl (qm (.xb a2) rfl ?_)))))
           obtain ⟨y41, hy41, h⟩ := zag h
           refine gq (zal (hself_ref9_walk _ _ _ _ hy41) Tryz.func51 (by kernel_rfl) (lc lf (lc lf (lc lf ln))) (qm (.tup [.xi y41.1, .row 1 zab y41.2.1, .xi y41.2.2]) rfl (gq (zas (av := .xi y41.1) rfl rfl (gq (zas (av := .row 1 zab y41.2.1) rfl rfl (gq (zas (av := .xi y41.2.2) rfl rfl (qa (.xi y41.1) rfl (qa (.row 1 zab y41.2.1) rfl (qa (.xi y41.2.2) rfl (zad (zaa (zac (zac (kr (qm (.xi y41.1) rfl (gq (op_eql rfl rfl ?_)))))))))))))))))))
           refine zad (zaa (kd (p := y41.1 = 0) rfl h (fun hc h => ?_) (fun hc h => ?_)))
           ·refine zac (kr (qa (.xi 0) rfl (qa (.exact (.slice none 0 0)) rfl (qa (.xi 0) rfl (zad (zaa (zax (zba (zbb (zba (zbj (zbb (zbj ?_)))))))))))))
            obtain rfl := oi h
            refine ke (pt (pt (pt AF0 6 (.xi 0)) 7 (.row 1 zab [])) 8 (.xi 0)) [] rfl (Sub.trans (SubU.to SubU.drop) (so (lq rfl (AF.le_put (row_nil (by decide)) (lq rfl lt0))))) ⟨rfl, rfl⟩
           ·refine zat (zaa (zac (kr (qm (.exact v13_l2) rfl (qm (.xs a0) rfl (qm (.xi x11_l2) rfl (qm (.xi x11_l2) rfl (qm (.xi y41.1) rfl (gq (op_add rfl rfl rfl ?_))))))))))
            obtain ⟨n42, h⟩ := zah h
            refine gq (op_slice_str (by kernel_rfl) rfl (bnd_some rfl) (bnd_some rfl) n42.1 n42.2.1 n42.2.2 (gq (op_litT (n := 1) (enc := zab) [List.take (Int.toNat (i64 (x11_l2 + y41.1)) - Int.toNat x11_l2) (List.drop (Int.toNat x11_l2) a0)] (CellsAll.cons rfl CellsOf.str CellsAll.nil) rfl (by kernel_rfl) (LEss.cons (lc lf ln) LEss.nil) ?_)))
            obtain ⟨n43, h⟩ := zah h
            refine G_l rfl (op_appT (by kernel_rfl) rfl rfl zbe n43 (fun v44 => qa (.exact v44) rfl (zad (zaa (zac (kr (qm (.xi x11_l2) rfl (qm (.xi y41.1) rfl (gq (op_add rfl rfl rfl (qa (.xi (i64 (x11_l2 + y41.1))) rfl (zad (zaa (kr (qm (.xi x12_l2) rfl (qm (.xi y41.2.2) rfl (gq (op_max rfl rfl ?_))))))))))))))))))
            refine qa (.xi (max x12_l2 y41.2.2)) rfl (zad (zaz (zaa (kr (qm (.xi x14_l2) rfl (gq (op_add rfl rfl rfl (qa (.xi (i64 (x14_l2 + 1))) rfl (zad (zae ⟨_, _, _, _, v44, h, so (l4 rfl rfl rfl rfl (l4 rfl rfl rfl rfl lt0))⟩))))))))))
          ·refine k_exit (kC_exit (kI_exit (kB_exit (zae ⟨_, _, _, v13_l2, h, so (l4 rfl rfl rfl rfl (lq rfl lt0))⟩))))
        ·refine zac (k_join2_0 h (fun (x13_j51 : List (List UInt8)) (x104_j51 : Bool) => (pt (pt (pt (pt AF0 11 (.xi x11_j13)) 12 (.xi x12_j13)) 13 (.row 1 zab x13_j51)) 104 (.xb x104_j51))) (fun (x13_j51 : List (List UInt8)) (x104_j51 : Bool) => []) (fun k51 h => ?_) (fun x13_j51 x104_j51 h => ?_))
         ·refine kr (qm (.xb a2) rfl (qm (.xb a2) rfl (G_splitB (c := a2) 97 rfl (fun hc => ?_) (fun hc => ?_))))
          ·replace h := ite_t h hc
           refine Gy_q rfl rfl rfl (zam (av := .xs a0) rfl ?_)
           obtain ⟨n54, h⟩ := zah h
           refine Gy_q rfl rfl rfl (op_index_str (by kernel_rfl) rfl rfl n54.1 n54.2 (Gy_q rfl rfl rfl (op_convInt (k := .i64) (r := (UInt8.toNat (gi a0 0) : Int)) (by kernel_rfl) rfl (wrap_u8 rfl _) (Gy_q rfl rfl rfl (zam (av := .exact v13_j13) rfl (G_sub rfl (SubU.freezeT2 (s1 := 13) (s2 := 101) rfl rfl zay) ?_))))))
           obtain ⟨y55, hy55, h⟩ := zag h
           refine Gy_q rfl rfl rfl (zal (m_ref9_parted_ok self_ref9_walk hself_ref9_walk self_ref9_order hself_ref9_order _ _ _ hy55) Tryz.func93 (by kernel_rfl) (lc lf (lc lf ln)) (Gy_q rfl rfl rfl (op_not rfl (gq (zau rfl (av := .xb (!y55)) rfl (zad (zae ⟨_, _, h, s4 rfl rfl rfl rfl⟩)))))))
          ·replace h := ite_f h hc
           refine G_n rfl rfl (G_n rfl rfl (G_n rfl rfl (G_n rfl rfl (G_n rfl rfl (G_n rfl rfl (gq (zaj rfl (av := .xb false) rfl (zad (zae ⟨_, _, h, ?_⟩)))))))))
           refine Sub.trans (SubU.to (SubU.freezeT (s := 13) rfl zay)) (s4 rfl rfl rfl rfl)
         ·refine kb (p := x104_j51) rfl h (fun hc h => ?_) (fun hc h => ?_)
          ·refine zac (kr (qa (.xi 0) rfl (qa (.exact (.slice none 0 0)) rfl (qa (.xi 0) rfl (zad (zaa (zax (zba ?_))))))))
           obtain rfl := oi h
           refine ke (pt (pt (pt AF0 6 (.xi 0)) 7 (.row 1 zab [])) 8 (.xi 0)) [] rfl (so (lq rfl (AF.le_put (row_nil (by decide)) (lq rfl lt0)))) ⟨rfl, rfl⟩
          ·refine zat (zaa (zac (kr (qm (.xi x11_j13) rfl (qm (.row 1 zab x13_j51) rfl (qm (.xi x12_j13) rfl (gq (op_add rfl rfl rfl (qa (.xi x11_j13) rfl (qa (.row 1 zab x13_j51) rfl (qa (.xi (i64 (x12_j13 + 1))) rfl (zad (zaa (zax ?_))))))))))))))
           obtain rfl := oi h
           refine ke (pt (pt (pt AF0 6 (.xi x11_j13)) 7 (.row 1 zab x13_j51)) 8 (.xi (i64 (x12_j13 + 1)))) [] rfl (s3 rfl rfl rfl) ⟨rfl, rfl⟩
theorem m_ref9_sign_ok (a0 : Bool) (a1 : Bool) (r : Int) (h : m_ref9_sign a0 a1 = some r) : Pure Tryz.prog 103 [(.exact (.bool a0)), (.exact (.bool a1))] (.exact (.int .i64 r)) := by
 unfold m_ref9_sign at h
 refine Pure.ofFun (zar Tryz.func103 rfl Tryz.ntmps103 (by simp) rfl (res1 rfl) fun E hE => k_end (zac (kr (qa (.xi 0) rfl (zad (zaa (zac (zaw (zac (kr (qm (.xb a0) rfl (qa (.xb a0) rfl (zad (zaa (kb (p := a0) rfl h (fun hc h => ?_) (fun hc h => ?_))))))))))))))))
 ·refine zac (kr (qa (.xi (-1)) rfl (zad (zaa (zax (zbb (zba ?_)))))))
  obtain rfl := oi h
  refine ke (pt AF0 4 (.xi (-1))) [] rfl (s1 rfl) ⟨rfl, rfl⟩
 ·refine zac (kr (qm (.xb a1) rfl (qa (.xb a1) rfl (zad (zaa (kb (p := a1) rfl h (fun hc h => ?_) (fun hc h => ?_)))))))
  ·refine zac (kr (qa (.xi 1) rfl (zad (zaa (zax (zbb (zba ?_)))))))
   obtain rfl := oi h
   refine ke (pt AF0 4 (.xi 1)) [] rfl (s1 rfl) ⟨rfl, rfl⟩
  ·refine zat (zaz (zaa (zac (kr (qa (.xi 0) rfl (zad (zaa (zax ?_))))))))
   obtain rfl := oi h
   refine ke (pt AF0 4 (.xi 0)) [] rfl (s1 rfl) ⟨rfl, rfl⟩
theorem m_ref9_order_F_ok (self_ref9_walk : (List UInt8) → Int → Bool → Option (Int × (List (List UInt8)) × Int)) (hself_ref9_walk : ∀ (a0 : List UInt8) (a1 : Int) (a2 : Bool) (r : Int × (List (List UInt8)) × Int), self_ref9_walk a0 a1 a2 = some r → Pure Tryz.prog 51 [(.exact (.string (bs a0))), (.exact (.int .i64 a1)), (.exact (.bool a2))] (.tup [.exact (.int .i64 r.1), .row 1 zab r.2.1, .exact (.int .i64 r.2.2)])) (self_ref9_order : (List UInt8) → (List UInt8) → Option Int) (hself_ref9_order : ∀ (a0 : List UInt8) (a1 : List UInt8) (r : Int), self_ref9_order a0 a1 = some r → Pure Tryz.prog 102 [(.exact (.string (bs a0))), (.exact (.string (bs a1)))] (.exact (.int .i64 r))) (a0 : List UInt8) (a1 : List UInt8) (r : Int) (h : m_ref9_order_F self_ref9_walk self_ref9_order a0 a1 = some r) : Pure Tryz.prog 102 [(.exact (.string (bs a0))), (.exact (.string (bs a1)))] (.exact (.int .i64 r)) := by
 unfold m_ref9_order_F at h
 refine Pure.ofFun (zar Tryz.func102 rfl Tryz.ntmps102 (by simp) rfl (res1 rfl) fun E hE => k_end (zac (kr (qa (.xi 0) rfl (zad (zaa (zac (zaw (zac (kr (qm (.xs a0) rfl (qm (.xs a1) rfl (gq (op_eqlS rfl rfl (qa (.xb (decide (a0 = a1))) rfl (zad (zaa (kd (p := a0 = a1) rfl h (fun hc h => ?_) (fun hc h => ?_)))))))))))))))))))
 ·refine zac (kr (qa (.xi 0) rfl (zad (zaa (zax (zbb (zba ?_)))))))
  obtain rfl := oi h
  refine ke (pt AF0 4 (.xi 0)) [] rfl (s1 rfl) ⟨rfl, rfl⟩
 ·refine zac (k_plan [] [(0, 0), (0, 1), (0, 2), (0, 3), (0, 4), (0, 5)] hmixP (by kernel_rfl) (P_q zaq rfl (zam (av := .xs a0) rfl ?_)))
  obtain ⟨n19, h⟩ := zah h
  refine P_q zaq rfl (op_index_str (by kernel_rfl) rfl rfl n19.1 n19.2 (P_q zaq rfl (zam (av := .xs a1) rfl ?_)))
  obtain ⟨n20, h⟩ := zah h
  refine P_q zaq rfl (op_index_str (by kernel_rfl) rfl rfl n20.1 n20.2 (P_q zaq rfl (op_neqU (a := (gi a0 0)) (b := (gi a1 0)) rfl rfl (P_q zaq rfl (op_assign (av := .xb (decide (¬ (gi a0 0) = (gi a1 0)))) rfl (P_nil (zaa (kd (p := ¬ (gi a0 0) = (gi a1 0)) rfl h (fun hc h => ?_) (fun hc h => ?_)))))))))
  ·refine zac (k_plan [] [(0, 0), (0, 1), (0, 2), (0, 3), (0, 4), (0, 5), (0, 6)] hmixP (by kernel_rfl) (P_q zaq rfl (zam (av := .xs a0) rfl ?_)))
   obtain ⟨n21, h⟩ := zah h
   refine P_q zaq rfl (op_index_str (by kernel_rfl) rfl rfl n21.1 n21.2 (P_q zaq rfl (zam (av := .xs a1) rfl ?_)))
   obtain ⟨n22, h⟩ := zah h
   refine P_q zaq rfl (op_index_str (by kernel_rfl) rfl rfl n22.1 n22.2 (P_q zaq rfl (op_lssU (a := (gi a0 0)) (b := (gi a1 0)) rfl rfl ?_)))
   obtain ⟨y23, hy23, h⟩ := zag h
   refine P_q zaq rfl (zal (m_ref9_sign_ok _ _ _ hy23) Tryz.func103 (by kernel_rfl) (lc lf (lc lf ln)) (P_q zaq rfl (op_assign (av := .xi y23) rfl (P_nil (zaa (zax (zbb (zba ?_))))))))
   obtain rfl := oi h
   refine ke (pt AF0 4 (.xi y23)) [] rfl (s1 rfl) ⟨rfl, rfl⟩
  ·refine zac (kr (qm (.xs a0) rfl ?_))
   obtain ⟨n24, h⟩ := zah h
   refine gq (op_index_str (by kernel_rfl) rfl rfl n24.1 n24.2 (gq (op_convInt (k := .i64) (r := (UInt8.toNat (gi a0 0) : Int)) (by kernel_rfl) rfl (wrap_u8 rfl _) (gq (op_eql rfl rfl (qa (.xb (decide ((UInt8.toNat (gi a0 0) : Int) = 1))) rfl (zad (zaa (kd (p := (UInt8.toNat (gi a0 0) : Int) = 1) rfl h (fun hc h => ?_) (fun hc h => ?_))))))))))
   ·refine zac (k_plan [] [(0, 0), (0, 1), (0, 2), (0, 3), (0, 4), (0, 5), (0, 6), (0, 7)] hmixP (by kernel_rfl) (P_q zaq rfl (zam (av := .xs a0) rfl ?_)))
    obtain ⟨n25, h⟩ := zah h
    refine P_q zaq rfl (op_slice_strd (by kernel_rfl) rfl (bnd_some rfl) bnd_none (by decide) n25 (Int.le_refl _) ?_)
    obtain ⟨y26, hy26, h⟩ := zag h
    refine P_q zaq rfl (zal (m_ref9_number_ok _ _ hy26) Tryz.func118 (by kernel_rfl) (lc lf ln) (P_q zaq rfl (zam (av := .xs a1) rfl ?_)))
    obtain ⟨n27, h⟩ := zah h
    refine P_q zaq rfl (op_slice_strd (by kernel_rfl) rfl (bnd_some rfl) bnd_none (by decide) n27 (Int.le_refl _) ?_)
    obtain ⟨y28, hy28, h⟩ := zag h
    refine P_q zaq rfl (zal (m_ref9_number_ok _ _ hy28) Tryz.func118 (by kernel_rfl) (lc lf ln) (P_q zaq rfl (op_assign (av := .xi y26) rfl (P_q zaq rfl (op_assign (av := .xi y28) rfl (P_nil (zaa (zac (kr (qm (.xi y26) rfl (qm (.xi y28) rfl (gq (op_lss rfl rfl (qm (.xi y26) rfl (qm (.xi y28) rfl (gq (op_gtr rfl rfl ?_)))))))))))))))))
    obtain ⟨y29, hy29, h⟩ := zag h
    refine gq (zal (m_ref9_sign_ok _ _ _ hy29) Tryz.func103 (by kernel_rfl) (lc lf (lc lf ln)) (qa (.xi y29) rfl (zad (zaa (zax (zbb (zba ?_)))))))
    obtain rfl := oi h
    refine ke (pt AF0 4 (.xi y29)) [] rfl (s1 rfl) ⟨rfl, rfl⟩
   ·refine zbc h (fun (x49_j30 : Bool) => (pt (pt (pt AF0 0 (.xs a0)) 1 (.xs a1)) 49 (.xb x49_j30))) (fun (x49_j30 : Bool) => []) (fun k30 h => ?_) (fun x49_j30 h => ?_)
    ·refine kr (qm (.xs a0) rfl ?_)
     obtain ⟨n33, h⟩ := zah h
     refine gq (op_index_str (by kernel_rfl) rfl rfl n33.1 n33.2 (gq (op_convInt (k := .i64) (r := (UInt8.toNat (gi a0 0) : Int)) (by kernel_rfl) rfl (wrap_u8 rfl _) (gq (op_eql rfl rfl (qm (.xb (decide ((UInt8.toNat (gi a0 0) : Int) = 2))) rfl (G_split (p := (UInt8.toNat (gi a0 0) : Int) = 2) 54 rfl (fun hc => ?_) (fun hc => ?_))))))))
     ·replace h := ite_t h hc
      refine G_n rfl rfl (G_n rfl rfl (G_n rfl rfl (G_n rfl rfl (gq (zau rfl (av := .xb true) rfl (qa (.xb true) rfl (zad (zae ⟨_, h, s3 rfl rfl rfl⟩))))))))
     ·replace h := ite_f h hc
      refine Gy_q rfl rfl rfl (zam (av := .xs a0) rfl ?_)
      obtain ⟨n34, h⟩ := zah h
      refine Gy_q rfl rfl rfl (op_index_str (by kernel_rfl) rfl rfl n34.1 n34.2 (Gy_q rfl rfl rfl (op_convInt (k := .i64) (r := (UInt8.toNat (gi a0 0) : Int)) (by kernel_rfl) rfl (wrap_u8 rfl _) (Gy_q rfl rfl rfl (op_eql rfl rfl (gq (zaj rfl (av := .xb (decide ((UInt8.toNat (gi a0 0) : Int) = 10))) rfl (qa (.xb (decide ((UInt8.toNat (gi a0 0) : Int) = 10))) rfl (zad (zae ⟨_, h, s3 rfl rfl rfl⟩))))))))))
    ·refine kb (p := x49_j30) rfl h (fun hc h => ?_) (fun hc h => ?_)
     ·refine zac (kr (qm (.xs a0) rfl (qm (.xs a1) rfl (gq (op_lssS rfl rfl (qm (.xs a0) rfl (qm (.xs a1) rfl (gq (op_gtrS rfl rfl ?_)))))))))
      obtain ⟨y35, hy35, h⟩ := zag h
      refine gq (zal (m_ref9_sign_ok _ _ _ hy35) Tryz.func103 (by kernel_rfl) (lc lf (lc lf ln)) (qa (.xi y35) rfl (zad (zaa (zax (zbb (zba ?_)))))))
      obtain rfl := oi h
      refine ke (pt AF0 4 (.xi y35)) [] rfl (s1 rfl) ⟨rfl, rfl⟩
     ·refine zat (zaz (zaa (zac (kr (qm (.xs a0) rfl ?_)))))
      obtain ⟨y36, hy36, h⟩ := zag h
      refine gq (zal (hself_ref9_walk _ _ _ _ hy36) Tryz.func51 (by kernel_rfl) (lc lf (lc lf (lc lf ln))) (qm (.tup [.xi y36.1, .row 1 zab y36.2.1, .xi y36.2.2]) rfl (gq (zas (av := .xi y36.1) rfl rfl (gq (zas (av := .row 1 zab y36.2.1) rfl rfl (gq (zas (av := .xi y36.2.2) rfl rfl (qa (.xi y36.1) rfl (qa (.row 1 zab y36.2.1) rfl (qa (.xi y36.2.2) rfl (zad (zaa (zac (kr (qm (.xs a1) rfl ?_))))))))))))))))
      obtain ⟨y37, hy37, h⟩ := zag h
      refine gq (zal (hself_ref9_walk _ _ _ _ hy37) Tryz.func51 (by kernel_rfl) (lc lf (lc lf (lc lf ln))) (qm (.tup [.xi y37.1, .row 1 zab y37.2.1, .xi y37.2.2]) rfl (gq (zas (av := .xi y37.1) rfl rfl (gq (zas (av := .row 1 zab y37.2.1) rfl rfl (gq (zas (av := .xi y37.2.2) rfl rfl (qa (.xi y37.1) rfl (qa (.row 1 zab y37.2.1) rfl (qa (.xi y37.2.2) rfl (zad (zaa (k_join0_0 h ((pt (pt AF0 8 (.row 1 zab y36.2.1)) 11 (.row 1 zab y37.2.1))) ([]) (fun k38 h => ?_) (fun  h => ?_)))))))))))))))
      ·refine zac (kr (qa (.xi 0) rfl (zad (zaa (zaw (k_loop1_0 (m_ref9_order_L2 self_ref9_order y36 y37 k38) (m_ref9_order_B2 self_ref9_order y36 y37 k38) (fun _ => rfl) (fun m _ => rfl) h (fun (x13_l2 : Int) => (pt (pt (pt AF0 8 (.row 1 zab y36.2.1)) 11 (.row 1 zab y37.2.1)) 13 (.xi x13_l2))) (fun (x13_l2 : Int) => []) ?_ (fun rec2 x13_l2 h => ?_)))))))
       ·exact s3 rfl rfl rfl
       ·unfold m_ref9_order_B2 at h
        refine zac (zbc h (fun (x88_j72 : Bool) => (pt (pt (pt (pt AF0 8 (.row 1 zab y36.2.1)) 11 (.row 1 zab y37.2.1)) 13 (.xi x13_l2)) 88 (.xb x88_j72))) (fun (x88_j72 : Bool) => []) (fun k72 h => ?_) (fun x88_j72 h => ?_))
        ·refine kr (qm (.xi x13_l2) rfl (qm (.row 1 zab y36.2.1) rfl (gq (zap (by kernel_rfl) rfl (gq (op_lss rfl rfl (qm (.xb (decide (x13_l2 < (List.length y36.2.1 : Int)))) rfl (G_split (p := x13_l2 < (List.length y36.2.1 : Int)) 83 rfl (fun hc => ?_) (fun hc => ?_)))))))))
         ·replace h := ite_t h hc
          refine Gy_q rfl rfl rfl (zam (av := .xi x13_l2) rfl (Gy_q rfl rfl rfl (zam (av := .row 1 zab y37.2.1) rfl (Gy_q rfl rfl rfl (zap (by kernel_rfl) rfl (Gy_q rfl rfl rfl (op_lss rfl rfl (gq (zau rfl (av := .xb (decide (x13_l2 < (List.length y37.2.1 : Int)))) rfl (zad (zae ⟨_, h, s4 rfl rfl rfl rfl⟩)))))))))))
         ·replace h := ite_f h hc
          refine G_n rfl rfl (G_n rfl rfl (G_n rfl rfl (G_n rfl rfl (gq (zaj rfl (av := .xb false) rfl (zad (zae ⟨_, h, s4 rfl rfl rfl rfl⟩)))))))
        ·refine kb (p := x88_j72) rfl h (fun hc h => ?_) (fun hc h => ?_)
         ·refine zat (zaa (zac (zaw (zac (k_plan [] [(0, 0), (0, 1), (0, 2), (0, 3), (0, 4), (0, 5), (0, 6), (0, 7), (0, 8), (0, 9)] hmixP (by kernel_rfl) (P_q zaq rfl (zam (av := .row 1 zab y36.2.1) rfl (P_q zaq rfl (zam (av := .xi x13_l2) rfl ?_)))))))))
          obtain ⟨n73, h⟩ := zah h
          refine P_q zaq rfl (zao (by kernel_rfl) rfl rfl n73.1 n73.2 (P_q zaq rfl (zav (a := .xs (gi y36.2.1 x13_l2)) (by kernel_rfl) rfl rfl (P_q zaq rfl (zam (av := .row 1 zab y37.2.1) rfl (P_q zaq rfl (zam (av := .xi x13_l2) rfl ?_)))))))
          obtain ⟨n74, h⟩ := zah h
          refine P_q zaq rfl (zao (by kernel_rfl) rfl rfl n74.1 n74.2 (P_q zaq rfl (zav (a := .xs (gi y37.2.1 x13_l2)) (by kernel_rfl) rfl rfl ?_)))
          obtain ⟨y75, hy75, h⟩ := zag h
          refine P_q zaq rfl (zal (hself_ref9_order _ _ _ hy75) Tryz.func102 (by kernel_rfl) (lc lf (lc lf ln)) (P_q zaq rfl (op_assign (av := .xi y75) rfl (P_nil (zaa (zac (kr (qm (.xi y75) rfl (gq (op_neq rfl rfl (zad (zaa (kd (p := ¬ y75 = 0) rfl h (fun hc h => ?_) (fun hc h => ?_))))))))))))))
          ·refine zac (kr (qm (.xi y75) rfl (qa (.xi y75) rfl (zad (zaa (zax (zbb (zba (zbj (zbb (zbj ?_)))))))))))
           obtain rfl := oi h
           refine ke (pt AF0 4 (.xi y75)) [] rfl (s1 rfl) ⟨rfl, rfl⟩
          ·refine zat (zaz (zaa (kr (qm (.xi x13_l2) rfl (gq (op_add rfl rfl rfl (qa (.xi (i64 (x13_l2 + 1))) rfl (zad (zae ⟨_, h, s3 rfl rfl rfl⟩)))))))))
         ·refine k_exit (kC_exit (kI_exit (kB_exit (zae ⟨h, s2 rfl rfl⟩))))
      ·refine zac (kr (qm (.row 1 zab y36.2.1) rfl (gq (zap (by kernel_rfl) rfl (qm (.row 1 zab y37.2.1) rfl (gq (zap (by kernel_rfl) rfl (gq (op_lss rfl rfl (qm (.row 1 zab y36.2.1) rfl (gq (zap (by kernel_rfl) rfl (qm (.row 1 zab y37.2.1) rfl (gq (zap (by kernel_rfl) rfl (gq (op_gtr rfl rfl ?_)))))))))))))))))
       obtain ⟨y76, hy76, h⟩ := zag h
       refine gq (zal (m_ref9_sign_ok _ _ _ hy76) Tryz.func103 (by kernel_rfl) (lc lf (lc lf ln)) (qa (.xi y76) rfl (zad (zaa (zax ?_)))))
       obtain rfl := oi h
       refine ke (pt AF0 4 (.xi y76)) [] rfl (s1 rfl) ⟨rfl, rfl⟩
theorem m_ref9_walk_S_ok : ∀ n : Nat, (∀ (a0 : List UInt8) (a1 : Int) (a2 : Bool) (r : Int × (List (List UInt8)) × Int), (m_ref9_walk_S n).1 a0 a1 a2 = some r → Pure Tryz.prog 51 [(.exact (.string (bs a0))), (.exact (.int .i64 a1)), (.exact (.bool a2))] (.tup [.exact (.int .i64 r.1), .row 1 zab r.2.1, .exact (.int .i64 r.2.2)])) ∧ (∀ (a0 : List UInt8) (a1 : List UInt8) (r : Int), (m_ref9_walk_S n).2 a0 a1 = some r → Pure Tryz.prog 102 [(.exact (.string (bs a0))), (.exact (.string (bs a1)))] (.exact (.int .i64 r)))
  | 0 => ⟨(fun _ _ _ _ h => by have h' : (none : Option _) = some _ := h; cases h'), (fun _ _ _ h => by have h' : (none : Option _) = some _ := h; cases h')⟩
  | n + 1 => by
    have ih := m_ref9_walk_S_ok n
    exact ⟨fun a0 a1 a2 r h => m_ref9_walk_F_ok (m_ref9_walk_S n).1 ih.1 (m_ref9_walk_S n).2 ih.2 a0 a1 a2 r h, fun a0 a1 r h => m_ref9_order_F_ok (m_ref9_walk_S n).1 ih.1 (m_ref9_walk_S n).2 ih.2 a0 a1 r h⟩
theorem m_ref9_walk_ok (a0 : List UInt8) (a1 : Int) (a2 : Bool) (r : Int × (List (List UInt8)) × Int) (h : m_ref9_walk a0 a1 a2 = some r) : Pure Tryz.prog 51 [(.exact (.string (bs a0))), (.exact (.int .i64 a1)), (.exact (.bool a2))] (.tup [.exact (.int .i64 r.1), .row 1 zab r.2.1, .exact (.int .i64 r.2.2)]) := (m_ref9_walk_S_ok FU).1 a0 a1 a2 r h
theorem m_ref9_order_ok (a0 : List UInt8) (a1 : List UInt8) (r : Int) (h : m_ref9_order a0 a1 = some r) : Pure Tryz.prog 102 [(.exact (.string (bs a0))), (.exact (.string (bs a1)))] (.exact (.int .i64 r)) := (m_ref9_walk_S_ok FU).2 a0 a1 r h
theorem m_ref9_read_ok (a0 : List UInt8) (a1 : Int) (r : Int × (List (List UInt8)) × Int) (h : m_ref9_read a0 a1 = some r) : Pure Tryz.prog 72 [(.exact (.string (bs a0))), (.exact (.int .i64 a1))] (.tup [.exact (.int .i64 r.1), .row 1 zab r.2.1, .exact (.int .i64 r.2.2)]) := by
 unfold m_ref9_read at h
 refine Pure.ofFun (zar Tryz.func72 rfl Tryz.ntmps72 (by simp) rfl (res3 rfl) fun E hE => k_end (zac (kr (qa (.xi 0) rfl (qa (.exact (.slice none 0 0)) rfl (qa (.xi 0) rfl (zad (zaa (zac (kr (qm (.xs a0) rfl (qm (.xi a1) rfl ?_))))))))))))
 obtain ⟨y1, hy1, h⟩ := zag h
 refine gq (zal (m_ref9_walk_ok _ _ _ _ hy1) Tryz.func51 (by kernel_rfl) (lc lf (lc lf (lc lf ln))) (gq (zas (av := .xi y1.1) rfl rfl (gq (zas (av := .row 1 zab y1.2.1) rfl rfl (gq (zas (av := .xi y1.2.2) rfl rfl (qa (.xi y1.1) rfl (qa (.row 1 zab y1.2.1) rfl (qa (.xi y1.2.2) rfl (zad (zaa (zax ?_)))))))))))))
 obtain rfl := oi h
 refine ke (pt (pt (pt AF0 4 (.xi y1.1)) 5 (.row 1 zab y1.2.1)) 6 (.xi y1.2.2)) [] rfl (s3 rfl rfl rfl) ⟨rfl, rfl⟩
theorem m_ref9_Valid_ok (a0 : List UInt8) (r : Bool) (h : m_ref9_Valid a0 = some r) : Pure Tryz.prog 50 [(.exact (.string (bs a0)))] (.exact (.bool r)) := by
 unfold m_ref9_Valid at h
 refine Pure.ofFun (zar Tryz.func50 rfl Tryz.ntmps50 (by simp) rfl (res1 rfl) fun E hE => k_end (zac (kr (qa (.xb false) rfl (zad (zaa (zac (zac (kr (qm (.xs a0) rfl (gq (op_lenS (by kernel_rfl) rfl (gq (op_gtr rfl rfl (zad (zaa (kd (p := 131072 < (List.length a0 : Int)) rfl h (fun hc h => ?_) (fun hc h => ?_))))))))))))))))))
 ·refine zac (kr (qa (.xb false) rfl (zad (zaa (zax (zba ?_))))))
  obtain rfl := oi h
  refine ke (pt AF0 2 (.xb false)) [] rfl (s1 rfl) ⟨rfl, rfl⟩
 ·refine zat (zaa (zac (kr (qm (.xs a0) rfl ?_))))
  obtain ⟨y1, hy1, h⟩ := zag h
  refine gq (zal (m_ref9_read_ok _ _ _ hy1) Tryz.func72 (by kernel_rfl) (lc lf (lc lf ln)) (qm (.tup [.xi y1.1, .row 1 zab y1.2.1, .xi y1.2.2]) rfl (gq (zas (av := .xi y1.1) rfl rfl (gq (zas (av := .row 1 zab y1.2.1) rfl rfl (gq (zas (av := .xi y1.2.2) rfl rfl (qa (.xi y1.1) rfl (qa (.row 1 zab y1.2.1) rfl (qa (.xi y1.2.2) rfl (zad (zaa (zbc h (fun (x2_j2 : Bool) => (pt AF0 2 (.xb x2_j2))) (fun (x2_j2 : Bool) => []) (fun k2 h => ?_) (fun x2_j2 h => ?_)))))))))))))))
  ·refine kr (qm (.xi y1.1) rfl (gq (op_gtr rfl rfl (qm (.xb (decide (0 < y1.1))) rfl (G_split (p := 0 < y1.1) 17 rfl (fun hc => ?_) (fun hc => ?_))))))
   ·replace h := ite_t h hc
    refine Gy_q rfl rfl rfl (zam (av := .xi y1.1) rfl (Gy_q rfl rfl rfl (zam (av := .xs a0) rfl (Gy_q rfl rfl rfl (op_lenS (by kernel_rfl) rfl (Gy_q rfl rfl rfl (op_eql rfl rfl (gq (zau rfl (av := .xb (decide (y1.1 = (List.length a0 : Int)))) rfl (qa (.xb (decide (y1.1 = (List.length a0 : Int)))) rfl (zad (zae ⟨_, h, s1 rfl⟩))))))))))))
   ·replace h := ite_f h hc
    refine G_n rfl rfl (G_n rfl rfl (G_n rfl rfl (G_n rfl rfl (gq (zaj rfl (av := .xb false) rfl (qa (.xb false) rfl (zad (zae ⟨_, h, s1 rfl⟩))))))))
  ·refine zax ?_
   obtain rfl := oi h
   refine ke (pt AF0 2 (.xb x2_j2)) [] rfl (s1 rfl) ⟨rfl, rfl⟩
end Go.Proofs.YtjlbdhicabgliaaGreat
/- The functions compute their models, by program. -/
namespace Go.Proofs.YtjlbdhicabgliaaGreat
open Go.RowKit
attribute [local irreducible] AV.exact AV.top AV.row AV.ptr AV.agg AV.tup AV.eptr AV.fn AV.nilq AV.nilqn opA opB opM opR Quiet Loud Reads wpG awp den Sub SubU Pure Fun vecI vecT boxI CellsAll CellsOf OneC LEs LEss
set_option maxRecDepth 100000

set_option maxHeartbeats 4000000
theorem m_ref9_all_ok (a0 : List (List UInt8)) (r : Bool) (h : m_ref9_all a0 = some r) : Pure Tryz.prog 24 [(.row 1 zab a0)] (.exact (.bool r)) := by
 unfold m_ref9_all at h
 refine Pure.ofFun (zar Tryz.func24 rfl Tryz.ntmps24 (by simp) rfl (res1 rfl) fun E hE => k_end (zac (kr (qa (.xb false) rfl (zad (zaa (k_join0_0 h (AF0) ([]) (fun k1 h => ?_) (fun  h => ?_))))))))
 ·refine zac (kr (qa (.xi 0) rfl (zad (zaa (zaw (k_loop1_0 (m_ref9_all_L2 a0 k1) (m_ref9_all_B2 a0 k1) (fun _ => rfl) (fun m _ => rfl) h (fun (x3_l2 : Int) => (pt (pt AF0 0 (.row 1 zab a0)) 3 (.xi x3_l2))) (fun (x3_l2 : Int) => []) ?_ (fun rec2 x3_l2 h => ?_)))))))
  ·exact s2 rfl rfl
  ·unfold m_ref9_all_B2 at h
   refine zac (zac (kr (qm (.xi x3_l2) rfl (qm (.row 1 zab a0) rfl (gq (zap (by kernel_rfl) rfl (gq (op_lss rfl rfl (zad (zaa (kd (p := x3_l2 < (List.length a0 : Int)) rfl h (fun hc h => ?_) (fun hc h => ?_))))))))))))
   ·refine zat (zaa (zac (zaw (zac (kr (qm (.row 1 zab a0) rfl (qm (.xi x3_l2) rfl ?_)))))))
    obtain ⟨n13, h⟩ := zah h
    refine gq (zao (by kernel_rfl) rfl rfl n13.1 n13.2 (gq (zav (a := .xs (gi a0 x3_l2)) (by kernel_rfl) rfl rfl ?_)))
    obtain ⟨y14, hy14, h⟩ := zag h
    refine gq (zal (m_ref9_Valid_ok _ _ hy14) Tryz.func50 (by kernel_rfl) (lc lf ln) (gq (op_not rfl (zad (zaa (kb (p := !y14) rfl h (fun hc h => ?_) (fun hc h => ?_)))))))
    ·refine zac (kr (qa (.xb false) rfl (zad (zaa (zax (zbb (zba (zbj (zbb (zbj ?_))))))))))
     obtain rfl := oi h
     refine ke (pt AF0 2 (.xb false)) [] rfl (s1 rfl) ⟨rfl, rfl⟩
    ·refine zat (zaz (zaa (kr (qm (.xi x3_l2) rfl (gq (op_add rfl rfl rfl (qa (.xi (i64 (x3_l2 + 1))) rfl (zad (zae ⟨_, h, s2 rfl rfl⟩)))))))))
   ·refine k_exit (kC_exit (kI_exit (kB_exit (zae ⟨h, Sub.of_le lt0⟩))))
 ·refine zac (kr (qa (.xb true) rfl (zad (zaa (zax ?_)))))
  obtain rfl := oi h
  refine ke (pt AF0 2 (.xb true)) [] rfl (s1 rfl) ⟨rfl, rfl⟩
theorem m_ref9_Compare_ok (a0 : List UInt8) (a1 : List UInt8) (r : Int) (h : m_ref9_Compare a0 a1 = some r) : Pure Tryz.prog 74 [(.exact (.string (bs a0))), (.exact (.string (bs a1)))] (.exact (.int .i64 r)) := by
 unfold m_ref9_Compare at h
 refine Pure.ofFun (zar Tryz.func74 rfl Tryz.ntmps74 (by simp) rfl (res1 rfl) fun E hE => k_end (zac (kr (qa (.xi 0) rfl (zad (zaa (zac (kr (qm (.xs a0) rfl ?_)))))))))
 obtain ⟨y1, hy1, h⟩ := zag h
 refine gq (zal (m_ref9_Valid_ok _ _ hy1) Tryz.func50 (by kernel_rfl) (lc lf ln) (qm (.xs a1) rfl ?_))
 obtain ⟨y2, hy2, h⟩ := zag h
 refine gq (zal (m_ref9_Valid_ok _ _ hy2) Tryz.func50 (by kernel_rfl) (lc lf ln) (qa (.xb y1) rfl (qa (.xb y2) rfl (zad (zaa (zac (zaw (zbc h (fun (x11_j7 : Bool) => (pt (pt (pt (pt (pt AF0 0 (.xs a0)) 1 (.xs a1)) 5 (.xb y1)) 6 (.xb y2)) 11 (.xb x11_j7))) (fun (x11_j7 : Bool) => []) (fun k7 h => ?_) (fun x11_j7 h => ?_)))))))))
 ·refine kr (qm (.xb y1) rfl (qm (.xb y1) rfl (G_splitB (c := y1) 13 rfl (fun hc => ?_) (fun hc => ?_))))
  ·replace h := ite_t h hc
   refine Gy_q rfl rfl rfl (zam (av := .xb y2) rfl (gq (zau rfl (av := .xb y2) rfl (qa (.xb y2) rfl (zad (zae ⟨_, h, so (l4 rfl rfl rfl rfl (lq rfl lt0))⟩))))))
  ·replace h := ite_f h hc
   refine G_n rfl rfl (gq (zaj rfl (av := .xb false) rfl (qa (.xb false) rfl (zad (zae ⟨_, h, so (l4 rfl rfl rfl rfl (lq rfl lt0))⟩)))))
 ·refine kb (p := x11_j7) rfl h (fun hc h => ?_) (fun hc h => ?_)
  ·refine zac (kr (qm (.xs a0) rfl (qm (.xs a1) rfl ?_)))
   obtain ⟨y8, hy8, h⟩ := zag h
   refine gq (zal (m_ref9_order_ok _ _ _ hy8) Tryz.func102 (by kernel_rfl) (lc lf (lc lf ln)) (qa (.xi y8) rfl (zad (zaa (zax (zbb (zba ?_)))))))
   obtain rfl := oi h
   refine ke (pt AF0 4 (.xi y8)) [] rfl (s1 rfl) ⟨rfl, rfl⟩
  ·refine zac (kr (qm (.xb y1) rfl (qm (.xb y2) rfl (gq (op_neqB (a := y1) (b := y2) (by kernel_rfl) rfl rfl (qa (.xb (decide (¬ y1 = y2))) rfl (zad (zaa (kd (p := ¬ y1 = y2) rfl h (fun hc h => ?_) (fun hc h => ?_))))))))))
   ·refine zac (kr (qm (.xb y2) rfl (qm (.xb y1) rfl ?_)))
    obtain ⟨y9, hy9, h⟩ := zag h
    refine gq (zal (m_ref9_sign_ok _ _ _ hy9) Tryz.func103 (by kernel_rfl) (lc lf (lc lf ln)) (qa (.xi y9) rfl (zad (zaa (zax (zbb (zba ?_)))))))
    obtain rfl := oi h
    refine ke (pt AF0 4 (.xi y9)) [] rfl (s1 rfl) ⟨rfl, rfl⟩
   ·refine zat (zaz (zaa (zac (kr (qm (.xs a0) rfl (qm (.xs a1) rfl (gq (op_lssS rfl rfl (qm (.xs a0) rfl (qm (.xs a1) rfl (gq (op_gtrS rfl rfl ?_))))))))))))
    obtain ⟨y10, hy10, h⟩ := zag h
    refine gq (zal (m_ref9_sign_ok _ _ _ hy10) Tryz.func103 (by kernel_rfl) (lc lf (lc lf ln)) (qa (.xi y10) rfl (zad (zaa (zax ?_)))))
    obtain rfl := oi h
    refine ke (pt AF0 4 (.xi y10)) [] rfl (s1 rfl) ⟨rfl, rfl⟩
theorem m_ref9_Sort_ok (a0 : List (List UInt8)) (r : (List (List UInt8))) (h : m_ref9_Sort a0 = some r) : Pure Tryz.prog 26 [(.row 1 zab a0)] (.row 1 zab r) := by
 unfold m_ref9_Sort at h
 refine Pure.ofFun (zar Tryz.func26 rfl Tryz.ntmps26 (by simp) rfl (res1 rfl) fun E hE => k_end (zac (kr (qa (.exact (.slice none 0 0)) rfl (zad (zaa (zac (kr (qa (.exact (.slice none 0 0)) rfl (zad (zaa (k_join1_1 h (fun (x3_j1 : List (List UInt8)) (v3_j1 : Value) => (pt AF0 3 (.exact v3_j1))) (fun (x3_j1 : List (List UInt8)) (v3_j1 : Value) => [vecT Tryz.prog 23 1 zab v3_j1 x3_j1]) (fun k1 h => ?_) (fun x3_j1 v3_j1 h => ?_)))))))))))))
 ·refine zac (kr (qa (.xi 0) rfl (zad (zaa (zaw (k_loop2_1 (m_ref9_Sort_L14 a0 k1) (m_ref9_Sort_B14 a0 k1) (fun _ _ => rfl) (fun m _ _ => rfl) h (fun (x3_l14 : List (List UInt8)) (x4_l14 : Int) (v3_l14 : Value) => (pt (pt (pt AF0 0 (.row 1 zab a0)) 3 (.exact v3_l14)) 4 (.xi x4_l14))) (fun (x3_l14 : List (List UInt8)) (x4_l14 : Int) (v3_l14 : Value) => [vecT Tryz.prog 23 1 zab v3_l14 x3_l14]) (.slice none 0 0) ?_ (fun rec14 x3_l14 x4_l14 v3_l14 h => ?_)))))))
  ·refine Sub.trans (SubU.to (SubU.nilT (P := Tryz.prog) (t := 23) (n := 1) (enc := zab))) (s3 rfl rfl rfl)
  ·unfold m_ref9_Sort_B14 at h
   refine zac (zac (kr (qm (.xi x4_l14) rfl (qm (.row 1 zab a0) rfl (gq (zap (by kernel_rfl) rfl (gq (op_lss rfl rfl (zad (zaa (kd (p := x4_l14 < (List.length a0 : Int)) rfl h (fun hc h => ?_) (fun hc h => ?_))))))))))))
   ·refine zat (zaa (k_join1_1 h (fun (x3_j844 : List (List UInt8)) (v3_j844 : Value) => (pt (pt (pt AF0 0 (.row 1 zab a0)) 3 (.exact v3_j844)) 4 (.xi x4_l14))) (fun (x3_j844 : List (List UInt8)) (v3_j844 : Value) => [vecT Tryz.prog 23 1 zab v3_j844 x3_j844]) (fun k844 h => ?_) (fun x3_j844 v3_j844 h => ?_)))
    ·refine zaw (zac (kr (qm (.exact v3_l14) rfl (G_r rfl (op_len_vec (by kernel_rfl) rfl (qa (.xi (List.length x3_l14 : Int)) rfl (zad (zaa (zbc h (fun (x5_j955 : Int) => (pt (pt (pt (pt AF0 0 (.row 1 zab a0)) 3 (.exact v3_l14)) 4 (.xi x4_l14)) 5 (.xi x5_j955))) (fun (x5_j955 : Int) => [vecT Tryz.prog 23 1 zab v3_l14 x3_l14]) (fun k955 h => ?_) (fun x5_j955 h => ?_))))))))))
     ·refine zaw (k_loop1_0 (m_ref9_Sort_L26 a0 x3_l14 x4_l14 k955) (m_ref9_Sort_B26 a0 x3_l14 x4_l14 k955) (fun _ => rfl) (fun m _ => rfl) h (fun (x5_l26 : Int) => (pt (pt (pt (pt AF0 0 (.row 1 zab a0)) 3 (.exact v3_l14)) 4 (.xi x4_l14)) 5 (.xi x5_l26))) (fun (x5_l26 : Int) => [vecT Tryz.prog 23 1 zab v3_l14 x3_l14]) ?_ (fun rec26 x5_l26 h => ?_))
      ·exact s4 rfl rfl rfl rfl
      ·unfold m_ref9_Sort_B26 at h
       refine zac (zbc h (fun (x28_j1040 : Bool) => (pt (pt (pt (pt (pt AF0 0 (.row 1 zab a0)) 3 (.exact v3_l14)) 4 (.xi x4_l14)) 5 (.xi x5_l26)) 28 (.xb x28_j1040))) (fun (x28_j1040 : Bool) => [vecT Tryz.prog 23 1 zab v3_l14 x3_l14]) (fun k1040 h => ?_) (fun x28_j1040 h => ?_))
       ·refine k_plan [] [(0, 0), (0, 1), (0, 2), (0, 3), (0, 4), (0, 5), (0, 8), (0, 9), (0, 10), (0, 11), (1, 6), (1, 7), (0, 12), (0, 13), (0, 14)] hmixP (by kernel_rfl) (P_q zaq rfl (zam (av := .xi x5_l26) rfl (P_q zaq rfl (op_gtr rfl rfl (P_q zaq rfl (zam (av := .xb (decide (0 < x5_l26))) rfl (P_split (p := 0 < x5_l26) 16 rfl (fun hc => ?_) (fun hc => ?_))))))))
        ·replace h := ite_t h hc
         refine Py_q zaq rfl rfl rfl (zam (av := .exact v3_l14) rfl (Py_q zaq rfl rfl rfl (zam (av := .xi x5_l26) rfl (Py_q zaq rfl rfl rfl (op_sub rfl rfl rfl (Py_q zaq rfl rfl rfl (zam (av := .row 1 zab a0) rfl (Py_q zaq rfl rfl rfl (zam (av := .xi x4_l14) rfl ?_)))))))))
         obtain ⟨n1044, h⟩ := zah h
         refine Py_q zaq rfl rfl rfl (zao (by kernel_rfl) rfl rfl n1044.1 n1044.2 (Py_q zaq rfl rfl rfl (zav (a := .xs (gi a0 x4_l14)) (by kernel_rfl) rfl rfl ?_)))
         obtain ⟨n1045, h⟩ := zah h
         refine Py_r rfl rfl rfl (op_index_vec (by kernel_rfl) rfl rfl n1045.1 n1045.2 (Py_r rfl rfl rfl (op_load_vec1 (i := i64 (x5_l26 - 1)) (o := 0) (a := .xs (gi x3_l14 (i64 (x5_l26 - 1)))) (by kernel_rfl) zay rfl n1045.1 n1045.2 rfl ?_)))
         obtain ⟨y1046, hy1046, h⟩ := zag h
         refine Py_q zaq rfl rfl rfl (zal (m_ref9_Compare_ok _ _ _ hy1046) Tryz.func74 (by kernel_rfl) (lc lf (lc lf ln)) (Py_q zaq rfl rfl rfl (op_gtr rfl rfl (P_q zaq rfl (zau rfl (av := .xb (decide (0 < y1046))) rfl (P_nil (zae ⟨_, h, so (l4 rfl rfl rfl rfl (lq rfl lt0))⟩)))))))
        ·replace h := ite_f h hc
         refine P_n zaq rfl rfl rfl (P_n zaq rfl rfl rfl (P_n zaq rfl rfl rfl (P_n zaq rfl rfl rfl (P_n zaq rfl rfl rfl (P_n zaq rfl rfl rfl (P_n zaq rfl rfl rfl (P_n no34_1 rfl rfl rfl (P_n no34_1 rfl rfl rfl (P_n zaq rfl rfl rfl (P_n zaq rfl rfl rfl ?_))))))))))
         refine P_q zaq rfl (zaj rfl (av := .xb false) rfl (P_nil (zae ⟨_, h, so (l4 rfl rfl rfl rfl (lq rfl lt0))⟩)))
       ·refine kb (p := x28_j1040) rfl h (fun hc h => ?_) (fun hc h => ?_)
        ·refine zat (zaa (zaw (kr (qm (.xi x5_l26) rfl (gq (op_sub rfl rfl rfl (qa (.xi (i64 (x5_l26 - 1))) rfl (zad (zaz (zae ⟨_, h, s4 rfl rfl rfl rfl⟩))))))))))
        ·refine k_exit (kC_exit (kI_exit (kB_exit (zae ⟨_, h, s4 rfl rfl rfl rfl⟩))))
     ·refine zac (zbc h (fun (x44_j1053 : Bool) => (pt (pt (pt (pt (pt AF0 0 (.row 1 zab a0)) 3 (.exact v3_l14)) 4 (.xi x4_l14)) 5 (.xi x5_j955)) 44 (.xb x44_j1053))) (fun (x44_j1053 : Bool) => [vecT Tryz.prog 23 1 zab v3_l14 x3_l14]) (fun k1053 h => ?_) (fun x44_j1053 h => ?_))
      ·refine k_plan [] [(0, 0), (0, 1), (0, 2), (0, 3), (0, 4), (0, 5), (0, 8), (0, 9), (0, 10), (0, 11), (1, 6), (1, 7), (0, 12), (0, 13)] hmixP (by kernel_rfl) (P_q zaq rfl (zam (av := .xi x5_j955) rfl (P_q zaq rfl (op_gtr rfl rfl (P_q zaq rfl (zam (av := .xb (decide (0 < x5_j955))) rfl (P_split (p := 0 < x5_j955) 33 rfl (fun hc => ?_) (fun hc => ?_))))))))
       ·replace h := ite_t h hc
        refine Py_q zaq rfl rfl rfl (zam (av := .exact v3_l14) rfl (Py_q zaq rfl rfl rfl (zam (av := .xi x5_j955) rfl (Py_q zaq rfl rfl rfl (op_sub rfl rfl rfl (Py_q zaq rfl rfl rfl (zam (av := .row 1 zab a0) rfl (Py_q zaq rfl rfl rfl (zam (av := .xi x4_l14) rfl ?_)))))))))
        obtain ⟨n1056, h⟩ := zah h
        refine Py_q zaq rfl rfl rfl (zao (by kernel_rfl) rfl rfl n1056.1 n1056.2 (Py_q zaq rfl rfl rfl (zav (a := .xs (gi a0 x4_l14)) (by kernel_rfl) rfl rfl ?_)))
        obtain ⟨n1057, h⟩ := zah h
        refine Py_r rfl rfl rfl (op_index_vec (by kernel_rfl) rfl rfl n1057.1 n1057.2 (Py_r rfl rfl rfl (op_load_vec1 (i := i64 (x5_j955 - 1)) (o := 0) (a := .xs (gi x3_l14 (i64 (x5_j955 - 1)))) (by kernel_rfl) zay rfl n1057.1 n1057.2 rfl (Py_q zaq rfl rfl rfl (op_eqlS rfl rfl (P_q zaq rfl (zau rfl (av := .xb (decide ((gi x3_l14 (i64 (x5_j955 - 1))) = (gi a0 x4_l14)))) rfl (P_nil (zae ⟨_, h, so (l4 rfl rfl rfl rfl (lq rfl lt0))⟩)))))))))
       ·replace h := ite_f h hc
        refine P_n zaq rfl rfl rfl (P_n zaq rfl rfl rfl (P_n zaq rfl rfl rfl (P_n zaq rfl rfl rfl (P_n zaq rfl rfl rfl (P_n zaq rfl rfl rfl (P_n zaq rfl rfl rfl (P_n no34_1 rfl rfl rfl (P_n no34_1 rfl rfl rfl (P_n zaq rfl rfl rfl (P_q zaq rfl (zaj rfl (av := .xb false) rfl ?_)))))))))))
        refine P_nil (zae ⟨_, h, so (l4 rfl rfl rfl rfl (lq rfl lt0))⟩)
      ·refine kb (p := x44_j1053) rfl h (fun hc h => ?_) (fun hc h => ?_)
       ·refine k_exit (kC_exit (kB_exit (zae ⟨_, v3_l14, h, s3 rfl rfl rfl⟩)))
       ·refine zat (zaa (zac (kr (qm (.exact v3_l14) rfl (gq (op_litT (n := 1) (enc := zab) [([] : List UInt8)] (CellsAll.cons rfl CellsOf.str CellsAll.nil) rfl (by kernel_rfl) (LEss.cons (lc lf ln) LEss.nil) ?_))))))
        obtain ⟨n1058, h⟩ := zah h
        refine G_l rfl (op_appT (by kernel_rfl) rfl rfl zbe n1058 (fun v1059 => qa (.exact v1059) rfl (zad (zaa (zac (k_plan [] [(0, 0), (0, 1), (0, 2), (0, 4), (0, 5), (1, 3), (1, 6), (2, 7)] hmixP (by kernel_rfl) (P_q zaq rfl (zam (av := .exact v1059) rfl (P_q zaq rfl (zam (av := .xi x5_j955) rfl (P_q zaq rfl (op_add rfl rfl rfl (P_q zaq rfl (zam (av := .exact v1059) rfl (P_q zaq rfl (zam (av := .xi x5_j955) rfl ?_))))))))))))))))
        obtain ⟨n1060, h⟩ := zah h
        refine P_r rfl (op_slice_vec (by kernel_rfl) rfl (bnd_some rfl) bnd_none n1060.1 n1060.2.1 n1060.2.2 ?_)
        obtain ⟨n1061, h⟩ := zah h
        refine P_r rfl (op_slice_vec (by kernel_rfl) rfl (bnd_some rfl) bnd_none n1061.1 n1061.2.1 n1061.2.2 (P_l rfl (op_copy (q := (Nat.min (Int.toNat (List.length (x3_l14 ++ ([([] : List UInt8)])) : Int) - Int.toNat x5_j955) (Int.toNat (List.length (x3_l14 ++ ([([] : List UInt8)])) : Int) - Int.toNat (i64 (x5_j955 + 1))))) (by kernel_rfl) (by kernel_rfl) zay zbe rfl rfl (by have hh := n1060; first | omega | (simp only [i64] at hh; omega) | (simp only [i64] at hh ⊢; omega)) (by have hh := n1061; first | omega | (simp only [i64] at hh; omega) | (simp only [i64] at hh ⊢; omega)) rfl (P_nil (zaa (kr (qm (.exact v1059) rfl (qm (.xi x5_j955) rfl (qm (.row 1 zab a0) rfl (qm (.xi x4_l14) rfl ?_))))))))))
        obtain ⟨n1062, h⟩ := zah h
        refine gq (zao (by kernel_rfl) rfl rfl n1062.1 n1062.2 (gq (zav (a := .xs (gi a0 x4_l14)) (by kernel_rfl) rfl rfl ?_)))
        obtain ⟨n1063, h⟩ := zah h
        refine G_r rfl (op_index_vec (by kernel_rfl) rfl rfl n1063.1 n1063.2 (G_l rfl (op_store_vec (i := x5_j955) (o := 0) (z := gi a0 x4_l14) (c' := [.xs (gi a0 x4_l14)]) (by kernel_rfl) zay rfl n1063.1 n1063.2 rfl CellsOf.str (lc lf ln) (OneC.str OneC.nil) (by kernel_rfl) (Nat.le_of_ble_eq_true rfl) rfl (zad (zaz (zae ⟨_, v1059, h, s3 rfl rfl rfl⟩))))))
    ·refine kr (qm (.xi x4_l14) rfl (gq (op_add rfl rfl rfl (qa (.xi (i64 (x4_l14 + 1))) rfl (zad (zae ⟨_, _, v3_j844, h, s3 rfl rfl rfl⟩))))))
   ·refine k_exit (kC_exit (kI_exit (kB_exit (zae ⟨_, v3_l14, h, s1 rfl⟩))))
 ·refine zac (kr (qm (.exact v3_j1) rfl (qa (.exact v3_j1) rfl (zad (zaa (zax ?_))))))
  obtain rfl := oi h
  refine ke (pt AF0 2 (.row 1 zab x3_j1)) [] rfl (Sub.trans (SubU.to (SubU.freezeT (s := 2) rfl zay)) (s1 rfl)) ⟨rfl, rfl⟩
theorem m_ref9_two_ok (a0 : Int) (r : (List UInt8)) (h : m_ref9_two a0 = some r) : Pure Tryz.prog 71 [(.exact (.int .i64 a0))] (.exact (.string (bs r))) := by
 unfold m_ref9_two at h
 refine Pure.ofFun (zar Tryz.func71 rfl Tryz.ntmps71 (by simp) rfl (res1 rfl) fun E hE => k_end (zac (kr (qa (.xs ([] : List UInt8)) rfl (zad (zaa (zac (kr (qm (.xi a0) rfl (gq (op_shr rfl rfl (by decide) rfl (gq (op_convInt (k := .u8) (r := (UInt8.toNat (u8i (Int.fdiv a0 (2 ^ min (Int.toNat 8) IntKind.i64.bits))) : Int)) (by kernel_rfl) rfl (u8i_eq _) (qm (.xi a0) rfl (gq (op_convInt (k := .u8) (r := (UInt8.toNat (u8i a0) : Int)) (by kernel_rfl) rfl (u8i_eq _) (gq (op_litT (n := 1) (enc := c_uint8) [u8i (Int.fdiv a0 (2 ^ min (Int.toNat 8) IntKind.i64.bits)), u8i a0] (CellsAll.cons rfl CellsOf.int (CellsAll.cons rfl CellsOf.int CellsAll.nil)) rfl (by kernel_rfl) (LEss.cons (lc lf ln) (LEss.cons (lc lf ln) LEss.nil)) (gq (op_bytesS rfl (by kernel_rfl) rfl ?_))))))))))))))))))))
 refine qa (.exact (.string (bs [u8i (Int.fdiv a0 (2 ^ min (Int.toNat 8) IntKind.i64.bits)), u8i a0]))) rfl (zad (zaa (zax ?_)))
 obtain rfl := oi h
 refine ke (pt AF0 2 (.exact (.string (bs [u8i (Int.fdiv a0 (2 ^ min (Int.toNat 8) IntKind.i64.bits)), u8i a0])))) [] rfl (s1 rfl) ⟨rfl, rfl⟩
theorem m_ref9_checked_ok (a0 : List UInt8) (r : (List UInt8)) (h : m_ref9_checked a0 = some r) : Pure Tryz.prog 73 [(.exact (.string (bs a0)))] (.exact (.string (bs r))) := by
 unfold m_ref9_checked at h
 refine Pure.ofFun (zar Tryz.func73 rfl Tryz.ntmps73 (by simp) rfl (res1 rfl) fun E hE => k_end (zac (kr (qa (.xs ([] : List UInt8)) rfl (zad (zaa (zac (zac (kr (qm (.xs a0) rfl ?_))))))))))
 obtain ⟨y1, hy1, h⟩ := zag h
 refine gq (zal (m_ref9_Valid_ok _ _ hy1) Tryz.func50 (by kernel_rfl) (lc lf ln) (zad (zaa (kb (p := y1) rfl h (fun hc h => ?_) (fun hc h => ?_)))))
 ·refine zac (kr (qm (.xs a0) rfl (qa (.xs a0) rfl (zad (zaa (zax (zba ?_)))))))
  obtain rfl := oi h
  refine ke (pt AF0 2 (.xs a0)) [] rfl (s1 rfl) ⟨rfl, rfl⟩
 ·refine zat (zaa (zac (kr (qa (.xs ([] : List UInt8)) rfl (zad (zaa (zax ?_)))))))
  obtain rfl := oi h
  refine ke (pt AF0 2 (.xs ([] : List UInt8))) [] rfl (s1 rfl) ⟨rfl, rfl⟩
theorem m_ref9_compound_ok (a0 : Int) (a1 : List (List UInt8)) (r : (List UInt8)) (h : m_ref9_compound a0 a1 = some r) : Pure Tryz.prog 25 [(.exact (.int .i64 a0)), (.row 1 zab a1)] (.exact (.string (bs r))) := by
 unfold m_ref9_compound at h
 refine Pure.ofFun (zar Tryz.func25 rfl Tryz.ntmps25 (by simp) rfl (res1 rfl) fun E hE => k_end (zac (kr (qa (.xs ([] : List UInt8)) rfl (zad (zaa (zac (zac (kr (qm (.row 1 zab a1) rfl (gq (zap (by kernel_rfl) rfl (gq (op_gtr rfl rfl (zad (zaa (kd (p := 65535 < (List.length a1 : Int)) rfl h (fun hc h => ?_) (fun hc h => ?_))))))))))))))))))
 ·refine zac (kr (qa (.xs ([] : List UInt8)) rfl (zad (zaa (zax (zba ?_))))))
  obtain rfl := oi h
  refine ke (pt AF0 4 (.xs ([] : List UInt8))) [] rfl (s1 rfl) ⟨rfl, rfl⟩
 ·refine zat (zaa (zac (k_plan [] [(0, 0), (0, 1), (0, 2), (0, 3), (0, 4), (0, 5), (0, 6), (0, 7), (0, 8)] hmixP (by kernel_rfl) (P_q zaq rfl (zam (av := .xi a0) rfl (P_q zaq rfl (op_convInt (k := .u8) (r := (UInt8.toNat (u8i a0) : Int)) (by kernel_rfl) rfl (u8i_eq _) (P_q zaq rfl (op_litT (n := 1) (enc := c_uint8) [u8i a0] (CellsAll.cons rfl CellsOf.int CellsAll.nil) rfl (by kernel_rfl) (LEss.cons (lc lf ln) LEss.nil) (P_q zaq rfl (op_bytesS rfl (by kernel_rfl) rfl (P_q zaq rfl (zam (av := .row 1 zab a1) rfl (P_q zaq rfl (zap (by kernel_rfl) rfl ?_)))))))))))))))
  obtain ⟨y1, hy1, h⟩ := zag h
  refine P_q zaq rfl (zal (m_ref9_two_ok _ _ hy1) Tryz.func71 (by kernel_rfl) (lc lf ln) ?_)
  obtain ⟨n2, h⟩ := zah h
  refine P_q zaq rfl (op_addS n2 rfl rfl (P_q zaq rfl (op_assign (av := .xs ([u8i a0] ++ y1)) rfl (P_nil (zaa (zbc h (fun (x5_j3 : List UInt8) => (pt (pt AF0 1 (.row 1 zab a1)) 5 (.xs x5_j3))) (fun (x5_j3 : List UInt8) => []) (fun k3 h => ?_) (fun x5_j3 h => ?_)))))))
  ·refine zac (kr (qa (.xi 0) rfl (zad (zaa (zaw (k_loop2_0 (m_ref9_compound_L2 a1 k3) (m_ref9_compound_B2 a1 k3) (fun _ _ => rfl) (fun m _ _ => rfl) h (fun (x5_l2 : List UInt8) (x6_l2 : Int) => (pt (pt (pt AF0 1 (.row 1 zab a1)) 5 (.xs x5_l2)) 6 (.xi x6_l2))) (fun (x5_l2 : List UInt8) (x6_l2 : Int) => []) ?_ (fun rec2 x5_l2 x6_l2 h => ?_)))))))
   ·exact s3 rfl rfl rfl
   ·unfold m_ref9_compound_B2 at h
    refine zac (zac (kr (qm (.xi x6_l2) rfl (qm (.row 1 zab a1) rfl (gq (zap (by kernel_rfl) rfl (gq (op_lss rfl rfl (zad (zaa (kd (p := x6_l2 < (List.length a1 : Int)) rfl h (fun hc h => ?_) (fun hc h => ?_))))))))))))
    ·refine zat (zaa (zac (zaw (zac (zbc h (fun (x36_j114 : Bool) => (pt (pt (pt (pt AF0 1 (.row 1 zab a1)) 5 (.xs x5_l2)) 6 (.xi x6_l2)) 36 (.xb x36_j114))) (fun (x36_j114 : Bool) => []) (fun k114 h => ?_) (fun x36_j114 h => ?_))))))
     ·refine kr (qm (.row 1 zab a1) rfl (qm (.xi x6_l2) rfl ?_))
      obtain ⟨n116, h⟩ := zah h
      refine gq (zao (by kernel_rfl) rfl rfl n116.1 n116.2 (gq (zav (a := .xs (gi a1 x6_l2)) (by kernel_rfl) rfl rfl (gq (op_eqlS rfl rfl (qm (.xb (decide ((gi a1 x6_l2) = ([] : List UInt8)))) rfl (G_split (p := (gi a1 x6_l2) = ([] : List UInt8)) 32 rfl (fun hc => ?_) (fun hc => ?_))))))))
      ·replace h := ite_t h hc
       refine G_n rfl rfl (G_n rfl rfl (G_n rfl rfl (gq (zau rfl (av := .xb true) rfl (zad (zae ⟨_, h, s4 rfl rfl rfl rfl⟩))))))
      ·replace h := ite_f h hc
       refine Gy_q rfl rfl rfl (zam (av := .xs x5_l2) rfl (Gy_q rfl rfl rfl (op_lenS (by kernel_rfl) rfl (Gy_q rfl rfl rfl (op_gtr rfl rfl (gq (zaj rfl (av := .xb (decide (131072 < (List.length x5_l2 : Int)))) rfl (zad (zae ⟨_, h, s4 rfl rfl rfl rfl⟩)))))))))
     ·refine kb (p := x36_j114) rfl h (fun hc h => ?_) (fun hc h => ?_)
      ·refine zac (kr (qa (.xs ([] : List UInt8)) rfl (zad (zaa (zax (zba (zbb (zba (zbj (zbb (zbj ?_)))))))))))
       obtain rfl := oi h
       refine ke (pt AF0 4 (.xs ([] : List UInt8))) [] rfl (s1 rfl) ⟨rfl, rfl⟩
      ·refine zat (zaa (kr (qm (.xs x5_l2) rfl (qm (.row 1 zab a1) rfl (qm (.xi x6_l2) rfl ?_)))))
       obtain ⟨n117, h⟩ := zah h
       refine gq (zao (by kernel_rfl) rfl rfl n117.1 n117.2 (gq (zav (a := .xs (gi a1 x6_l2)) (by kernel_rfl) rfl rfl ?_)))
       obtain ⟨n118, h⟩ := zah h
       refine gq (op_addS n118 rfl rfl (qa (.xs (x5_l2 ++ (gi a1 x6_l2))) rfl (zad (zaz (zaa (kr (qm (.xi x6_l2) rfl (gq (op_add rfl rfl rfl (qa (.xi (i64 (x6_l2 + 1))) rfl (zad (zae ⟨_, _, h, s3 rfl rfl rfl⟩))))))))))))
    ·refine k_exit (kC_exit (kI_exit (kB_exit (zae ⟨_, h, s2 rfl rfl⟩))))
  ·refine zac (zac (kr (qm (.xs x5_j3) rfl ?_)))
   obtain ⟨y122, hy122, h⟩ := zag h
   refine gq (zal (m_ref9_read_ok _ _ _ hy122) Tryz.func72 (by kernel_rfl) (lc lf (lc lf ln)) (qm (.tup [.xi y122.1, .row 1 zab y122.2.1, .xi y122.2.2]) rfl (gq (zas (av := .xi y122.1) rfl rfl (gq (zas (av := .row 1 zab y122.2.1) rfl rfl (gq (zas (av := .xi y122.2.2) rfl rfl (qa (.xi y122.1) rfl (qa (.row 1 zab y122.2.1) rfl (qa (.xi y122.2.2) rfl (zad (zaa (zbc h (fun (x59_j123 : Bool) => (pt (pt AF0 5 (.xs x5_j3)) 59 (.xb x59_j123))) (fun (x59_j123 : Bool) => []) (fun k123 h => ?_) (fun x59_j123 h => ?_)))))))))))))))
   ·refine kr (qm (.xi y122.1) rfl (qm (.xs x5_j3) rfl (gq (op_lenS (by kernel_rfl) rfl (gq (op_neq rfl rfl (qm (.xb (decide (¬ y122.1 = (List.length x5_j3 : Int)))) rfl (G_split (p := ¬ y122.1 = (List.length x5_j3 : Int)) 53 rfl (fun hc => ?_) (fun hc => ?_)))))))))
    ·replace h := ite_t h hc
     refine G_n rfl rfl (G_n rfl rfl (G_n rfl rfl (G_n rfl rfl (G_n rfl rfl (gq (zau rfl (av := .xb true) rfl (zad (zae ⟨_, h, s2 rfl rfl⟩))))))))
    ·replace h := ite_f h hc
     refine Gy_q rfl rfl rfl (zam (av := .row 1 zab y122.2.1) rfl (Gy_q rfl rfl rfl (zap (by kernel_rfl) rfl (Gy_q rfl rfl rfl (zam (av := .row 1 zab a1) rfl (Gy_q rfl rfl rfl (zap (by kernel_rfl) rfl (Gy_q rfl rfl rfl (op_neq rfl rfl (gq (zaj rfl (av := .xb (decide (¬ (List.length y122.2.1 : Int) = (List.length a1 : Int)))) rfl (zad (zae ⟨_, h, s2 rfl rfl⟩)))))))))))))
   ·refine kb (p := x59_j123) rfl h (fun hc h => ?_) (fun hc h => ?_)
    ·refine zac (kr (qa (.xs ([] : List UInt8)) rfl (zad (zaa (zax (zba ?_))))))
     obtain rfl := oi h
     refine ke (pt AF0 4 (.xs ([] : List UInt8))) [] rfl (s1 rfl) ⟨rfl, rfl⟩
    ·refine zat (zaa (zac (kr (qm (.xs x5_j3) rfl ?_))))
     obtain ⟨y124, hy124, h⟩ := zag h
     refine gq (zal (m_ref9_checked_ok _ _ hy124) Tryz.func73 (by kernel_rfl) (lc lf ln) (qa (.xs y124) rfl (zad (zaa (zax ?_)))))
     obtain rfl := oi h
     refine ke (pt AF0 4 (.xs y124)) [] rfl (s1 rfl) ⟨rfl, rfl⟩
theorem m_ref9_Set_ok (a0 : List (List UInt8)) (r : (List UInt8)) (h : m_ref9_Set a0 = some r) : Pure Tryz.prog 6 [(.row 1 zab a0)] (.exact (.string (bs r))) := by
 unfold m_ref9_Set at h
 refine Pure.ofFun (zar Tryz.func6 rfl Tryz.ntmps6 (by simp) rfl (res1 rfl) fun E hE => k_end (zac (kr (qa (.xs ([] : List UInt8)) rfl (zad (zaa (zac (zac (kr (qm (.row 1 zab a0) rfl ?_))))))))))
 obtain ⟨y1, hy1, h⟩ := zag h
 refine gq (zal (m_ref9_all_ok _ _ hy1) Tryz.func24 (by kernel_rfl) (lc lf ln) (gq (op_not rfl (zad (zaa (kb (p := !y1) rfl h (fun hc h => ?_) (fun hc h => ?_)))))))
 ·refine zac (kr (qa (.xs ([] : List UInt8)) rfl (zad (zaa (zax (zba ?_))))))
  obtain rfl := oi h
  refine ke (pt AF0 2 (.xs ([] : List UInt8))) [] rfl (s1 rfl) ⟨rfl, rfl⟩
 ·refine zat (zaa (zac (kr (qm (.row 1 zab a0) rfl ?_))))
  obtain ⟨y2, hy2, h⟩ := zag h
  refine gq (zal (m_ref9_Sort_ok _ _ hy2) Tryz.func26 (by kernel_rfl) (lc lf ln) ?_)
  obtain ⟨y3, hy3, h⟩ := zag h
  refine gq (zal (m_ref9_compound_ok _ _ _ hy3) Tryz.func25 (by kernel_rfl) (lc lf (lc lf ln)) (qa (.xs y3) rfl (zad (zaa (zax ?_)))))
  obtain rfl := oi h
  refine ke (pt AF0 2 (.xs y3)) [] rfl (s1 rfl) ⟨rfl, rfl⟩
theorem m_ref9_Name_ok (a0 : Int) (r : (List UInt8)) (h : m_ref9_Name a0 = some r) : Pure Tryz.prog 29 [(.exact (.int .i64 a0))] (.exact (.string (bs r))) := by
 unfold m_ref9_Name at h
 refine Pure.ofFun (zar Tryz.func29 rfl Tryz.ntmps29 (by simp) rfl (res1 rfl) fun E hE => k_end (zac (kr (qa (.xs ([] : List UInt8)) rfl (zad (zaa (zac (zbc h (fun (x8_j3 : Bool) => (pt (pt AF0 0 (.xi a0)) 8 (.xb x8_j3))) (fun (x8_j3 : Bool) => []) (fun k3 h => ?_) (fun x8_j3 h => ?_)))))))))
 ·refine kr (qm (.xi a0) rfl (gq (op_lss rfl rfl (qm (.xb (decide (a0 < 0))) rfl (G_split (p := a0 < 0) 5 rfl (fun hc => ?_) (fun hc => ?_))))))
  ·replace h := ite_t h hc
   refine G_n rfl rfl (G_n rfl rfl (gq (zau rfl (av := .xb true) rfl (zad (zae ⟨_, h, s2 rfl rfl⟩)))))
  ·replace h := ite_f h hc
   refine Gy_q rfl rfl rfl (zam (av := .xi a0) rfl (Gy_q rfl rfl rfl (op_gtr rfl rfl (gq (zaj rfl (av := .xb (decide (65535 < a0))) rfl (zad (zae ⟨_, h, s2 rfl rfl⟩)))))))
 ·refine kb (p := x8_j3) rfl h (fun hc h => ?_) (fun hc h => ?_)
  ·refine zac (kr (qa (.xs ([] : List UInt8)) rfl (zad (zaa (zax (zba ?_))))))
   obtain rfl := oi h
   refine ke (pt AF0 2 (.xs ([] : List UInt8))) [] rfl (s1 rfl) ⟨rfl, rfl⟩
  ·refine zat (zaa (zac (k_plan [] [(0, 0), (0, 1), (0, 2), (0, 3), (0, 4), (0, 5)] hmixP (by kernel_rfl) (P_q zaq rfl (op_litT (n := 1) (enc := c_uint8) [10] (CellsAll.cons rfl CellsOf.int CellsAll.nil) rfl (by kernel_rfl) (LEss.cons (lc lf ln) LEss.nil) (P_q zaq rfl (op_bytesS rfl (by kernel_rfl) rfl (P_q zaq rfl (zam (av := .xi a0) rfl ?_)))))))))
   obtain ⟨y4, hy4, h⟩ := zag h
   refine P_q zaq rfl (zal (m_ref9_two_ok _ _ hy4) Tryz.func71 (by kernel_rfl) (lc lf ln) ?_)
   obtain ⟨n5, h⟩ := zah h
   refine P_q zaq rfl (op_addS n5 rfl rfl (P_q zaq rfl (op_assign (av := .xs ([10] ++ y4)) rfl (P_nil (zaa (zax ?_))))))
   obtain rfl := oi h
   refine ke (pt AF0 2 (.xs ([10] ++ y4))) [] rfl (s1 rfl) ⟨rfl, rfl⟩
theorem m_ref9_Make_ok (a0 : Int) (a1 : List (List UInt8)) (r : (List UInt8)) (h : m_ref9_Make a0 a1 = some r) : Pure Tryz.prog 28 [(.exact (.int .i64 a0)), (.row 1 zab a1)] (.exact (.string (bs r))) := by
 unfold m_ref9_Make at h
 refine Pure.ofFun (zar Tryz.func28 rfl Tryz.ntmps28 (by simp) rfl (res1 rfl) fun E hE => k_end (zac (kr (qa (.xs ([] : List UInt8)) rfl (zad (zaa (zac (zac (kr (qm (.row 1 zab a1) rfl ?_))))))))))
 obtain ⟨y1, hy1, h⟩ := zag h
 refine gq (zal (m_ref9_all_ok _ _ hy1) Tryz.func24 (by kernel_rfl) (lc lf ln) (gq (op_not rfl (zad (zaa (kb (p := !y1) rfl h (fun hc h => ?_) (fun hc h => ?_)))))))
 ·refine zac (kr (qa (.xs ([] : List UInt8)) rfl (zad (zaa (zax (zba ?_))))))
  obtain rfl := oi h
  refine ke (pt AF0 4 (.xs ([] : List UInt8))) [] rfl (s1 rfl) ⟨rfl, rfl⟩
 ·refine zat (zaa (zac (kr (qm (.xi a0) rfl (qm (.row 1 zab a1) rfl ?_)))))
  obtain ⟨y2, hy2, h⟩ := zag h
  refine gq (zal (m_ref9_compound_ok _ _ _ hy2) Tryz.func25 (by kernel_rfl) (lc lf (lc lf ln)) (qa (.xs y2) rfl (zad (zaa (zax ?_)))))
  obtain rfl := oi h
  refine ke (pt AF0 4 (.xs y2)) [] rfl (s1 rfl) ⟨rfl, rfl⟩
theorem m_ref9_Dot_ok (a0 : Int) (a1 : List (List UInt8)) (r : (List UInt8)) (h : m_ref9_Dot a0 a1 = some r) : Pure Tryz.prog 8 [(.exact (.int .i64 a0)), (.row 1 zab a1)] (.exact (.string (bs r))) := by
 unfold m_ref9_Dot at h
 refine Pure.ofFun (zar Tryz.func8 rfl Tryz.ntmps8 (by simp) rfl (res1 rfl) fun E hE => k_end (zac (kr (qa (.xs ([] : List UInt8)) rfl (zad (zaa (zac (kr (qm (.xi a0) rfl ?_)))))))))
 obtain ⟨y1, hy1, h⟩ := zag h
 refine gq (zal (m_ref9_Name_ok _ _ hy1) Tryz.func29 (by kernel_rfl) (lc lf ln) (G_l rfl (op_litI (n := 1) (enc := zab) [y1] (by kernel_rfl) (CellsAll.cons rfl CellsOf.str CellsAll.nil) rfl (by kernel_rfl) (LEss.cons (lc lf ln) LEss.nil) (fun v2 => qm (.row 1 zab a1) rfl ?_))))
 obtain ⟨n3, h⟩ := zah h
 refine G_l rfl (op_appT (by kernel_rfl) rfl rfl zbe n3 (fun v4 => G_sub rfl (SubU.freezeT (s := 9) rfl zay) ?_))
 obtain ⟨y5, hy5, h⟩ := zag h
 refine gq (zal (m_ref9_Make_ok _ _ _ hy5) Tryz.func28 (by kernel_rfl) (lc lf (lc lf ln)) (qa (.xs y5) rfl (zad (zaa (zax ?_)))))
 obtain rfl := oi h
 refine ke (pt AF0 4 (.xs y5)) [] rfl (s1 rfl) ⟨rfl, rfl⟩
theorem m_cmp_isNaN_byte_ok (a0 : UInt8) (r : Bool) (h : m_cmp_isNaN_byte a0 = some r) : Pure Tryz.prog 148 [(.exact (.int .u8 (UInt8.toNat a0 : Int)))] (.exact (.bool r)) := by
 unfold m_cmp_isNaN_byte at h
 refine Pure.ofFun (zar Tryz.func148 rfl Tryz.ntmps148 (by simp) rfl (res1 rfl) fun E hE => k_end (zac (kr (qa (.xb false) rfl (zad (zaa (zac (kr (qm (.exact (.int .u8 (UInt8.toNat a0 : Int))) rfl (qm (.exact (.int .u8 (UInt8.toNat a0 : Int))) rfl (gq (op_neqU (a := a0) (b := a0) rfl rfl (qa (.xb (decide (¬ a0 = a0))) rfl (zad (zaa (zax ?_))))))))))))))))
 obtain rfl := oi h
 refine ke (pt AF0 2 (.xb (decide (¬ a0 = a0)))) [] rfl (s1 rfl) ⟨rfl, rfl⟩
theorem m_cmp_Compare_byte_ok (a0 : UInt8) (a1 : UInt8) (r : Int) (h : m_cmp_Compare_byte a0 a1 = some r) : Pure Tryz.prog 139 [(.exact (.int .u8 (UInt8.toNat a0 : Int))), (.exact (.int .u8 (UInt8.toNat a1 : Int)))] (.exact (.int .i64 r)) := by
 unfold m_cmp_Compare_byte at h
 refine Pure.ofFun (zar Tryz.func139 rfl Tryz.ntmps139 (by simp) rfl (res1 rfl) fun E hE => k_end (zac (kr (qa (.xi 0) rfl (zad (zaa (zac (kr (qm (.exact (.int .u8 (UInt8.toNat a0 : Int))) rfl ?_)))))))))
 obtain ⟨y1, hy1, h⟩ := zag h
 refine gq (zal (m_cmp_isNaN_byte_ok _ _ hy1) Tryz.func148 (by kernel_rfl) (lc lf ln) (qa (.xb y1) rfl (zad (zaa (zac (kr (qm (.exact (.int .u8 (UInt8.toNat a1 : Int))) rfl ?_)))))))
 obtain ⟨y2, hy2, h⟩ := zag h
 refine gq (zal (m_cmp_isNaN_byte_ok _ _ hy2) Tryz.func148 (by kernel_rfl) (lc lf ln) (qa (.xb y2) rfl (zad (zaa (zac (zac (kr (qm (.xb y1) rfl (zad (zaa (kb (p := y1) rfl h (fun hc h => ?_) (fun hc h => ?_))))))))))))
 ·refine zac (zac (kr (qm (.xb y2) rfl (zad (zaa (kb (p := y2) rfl h (fun hc h => ?_) (fun hc h => ?_)))))))
  ·refine zac (kr (qa (.xi 0) rfl (zad (zaa (zax (zba (zba ?_)))))))
   obtain rfl := oi h
   refine ke (pt AF0 4 (.xi 0)) [] rfl (s1 rfl) ⟨rfl, rfl⟩
  ·refine zat (zaa (zac (kr (qa (.xi (-1)) rfl (zad (zaa (zax (zba ?_))))))))
   obtain rfl := oi h
   refine ke (pt AF0 4 (.xi (-1))) [] rfl (s1 rfl) ⟨rfl, rfl⟩
 ·refine zat (zaa (zac (zac (kr (qm (.xb y2) rfl (zad (zaa (kb (p := y2) rfl h (fun hc h => ?_) (fun hc h => ?_)))))))))
  ·refine zac (kr (qa (.xi 1) rfl (zad (zaa (zax (zba ?_))))))
   obtain rfl := oi h
   refine ke (pt AF0 4 (.xi 1)) [] rfl (s1 rfl) ⟨rfl, rfl⟩
  ·refine zat (zaa (zac (zac (kr (qm (.exact (.int .u8 (UInt8.toNat a0 : Int))) rfl (qm (.exact (.int .u8 (UInt8.toNat a1 : Int))) rfl (gq (op_lssU (a := a0) (b := a1) rfl rfl (zad (zaa (kd (p := a0 < a1) rfl h (fun hc h => ?_) (fun hc h => ?_))))))))))))
   ·refine zac (kr (qa (.xi (-1)) rfl (zad (zaa (zax (zba ?_))))))
    obtain rfl := oi h
    refine ke (pt AF0 4 (.xi (-1))) [] rfl (s1 rfl) ⟨rfl, rfl⟩
   ·refine zat (zaa (zac (zac (kr (qm (.exact (.int .u8 (UInt8.toNat a0 : Int))) rfl (qm (.exact (.int .u8 (UInt8.toNat a1 : Int))) rfl (gq (op_gtrU (a := a0) (b := a1) rfl rfl (zad (zaa (kd (p := a1 < a0) rfl h (fun hc h => ?_) (fun hc h => ?_))))))))))))
    ·refine zac (kr (qa (.xi 1) rfl (zad (zaa (zax (zba ?_))))))
     obtain rfl := oi h
     refine ke (pt AF0 4 (.xi 1)) [] rfl (s1 rfl) ⟨rfl, rfl⟩
    ·refine zat (zaa (zac (kr (qa (.xi 0) rfl (zad (zaa (zax ?_)))))))
     obtain rfl := oi h
     refine ke (pt AF0 4 (.xi 0)) [] rfl (s1 rfl) ⟨rfl, rfl⟩
end Go.Proofs.YtjlbdhicabgliaaGreat
/- The functions compute their models, by program. -/
namespace Go.Proofs.YtjlbdhicabgliaaGreat
open Go.RowKit
attribute [local irreducible] AV.exact AV.top AV.row AV.ptr AV.agg AV.tup AV.eptr AV.fn AV.nilq AV.nilqn opA opB opM opR Quiet Loud Reads wpG awp den Sub SubU Pure Fun vecI vecT boxI CellsAll CellsOf OneC LEs LEss
set_option maxRecDepth 100000

set_option maxHeartbeats 4000000
theorem m_value_integer_ok (a0 : List UInt8) (r : Int) (h : m_value_integer a0 = some r) : Pure Tryz.prog 106 [(.exact (.string (bs a0)))] (.exact (.int .i64 r)) := by
 unfold m_value_integer at h
 refine Pure.ofFun (zar Tryz.func106 rfl Tryz.ntmps106 (by simp) rfl (res1 rfl) fun E hE => k_end (zac (kr (qa (.xi 0) rfl (zad (zaa (zac (kr (qa (.exact (.int .u64 0)) rfl (zad (zaa (zbc h (fun (x3_j1 : Int) => (pt AF0 3 (.exact (.int .u64 x3_j1)))) (fun (x3_j1 : Int) => []) (fun k1 h => ?_) (fun x3_j1 h => ?_)))))))))))))
 ·refine zac (kr (qa (.xi 1) rfl (zad (zaa (zaw (k_loop2_0 (m_value_integer_L2 a0 k1) (m_value_integer_B2 a0 k1) (fun _ _ => rfl) (fun m _ _ => rfl) h (fun (x3_l2 : Int) (x4_l2 : Int) => (pt (pt (pt AF0 0 (.xs a0)) 3 (.exact (.int .u64 x3_l2))) 4 (.xi x4_l2))) (fun (x3_l2 : Int) (x4_l2 : Int) => []) ?_ (fun rec2 x3_l2 x4_l2 h => ?_)))))))
  ·exact s3 rfl rfl rfl
  ·unfold m_value_integer_B2 at h
   refine zac (zac (kr (qm (.xi x4_l2) rfl (gq (op_lss rfl rfl (zad (zaa (kd (p := x4_l2 < 9) rfl h (fun hc h => ?_) (fun hc h => ?_)))))))))
   ·refine zat (zaa (zac (zaw (kr (qm (.exact (.int .u64 x3_l2)) rfl (gq (op_shl rfl rfl (by decide) rfl (qm (.xs a0) rfl (qm (.xi x4_l2) rfl ?_)))))))))
    obtain ⟨n8, h⟩ := zah h
    refine gq (op_index_str (by kernel_rfl) rfl rfl n8.1 n8.2 (gq (op_convInt (k := .u64) (r := (UInt8.toNat (gi a0 x4_l2) : Int)) (by kernel_rfl) rfl (wrap_u8 rfl _) (gq (op_or rfl rfl rfl (qa (.exact (.int .u64 (bOr .u64 (IntKind.u64.wrap (x3_l2 * 2 ^ min (Int.toNat 8) IntKind.u64.bits)) (UInt8.toNat (gi a0 x4_l2) : Int)))) rfl (zad (zaz (zaa (kr (qm (.xi x4_l2) rfl (gq (op_add rfl rfl rfl (qa (.xi (i64 (x4_l2 + 1))) rfl (zad (zae ⟨_, _, h, s3 rfl rfl rfl⟩))))))))))))))))
   ·refine k_exit (kC_exit (kI_exit (kB_exit (zae ⟨_, h, s1 rfl⟩))))
 ·refine zac (kr (qm (.exact (.int .u64 x3_j1)) rfl (gq (op_convInt (k := .i64) (by kernel_rfl) rfl rfl (qa (.xi (i64 (x3_j1))) rfl (zad (zaa (zax ?_))))))))
  obtain rfl := oi h
  refine ke (pt AF0 2 (.xi (i64 (x3_j1)))) [] rfl (s1 rfl) ⟨rfl, rfl⟩
theorem m_cmp_isNaN_int64_ok (a0 : Int) (r : Bool) (h : m_cmp_isNaN_int64 a0 = some r) : Pure Tryz.prog 149 [(.exact (.int .i64 a0))] (.exact (.bool r)) := by
 unfold m_cmp_isNaN_int64 at h
 refine Pure.ofFun (zar Tryz.func149 rfl Tryz.ntmps149 (by simp) rfl (res1 rfl) fun E hE => k_end (zac (kr (qa (.xb false) rfl (zad (zaa (zac (kr (qm (.xi a0) rfl (qm (.xi a0) rfl (gq (op_neq rfl rfl (qa (.xb (decide (¬ a0 = a0))) rfl (zad (zaa (zax ?_))))))))))))))))
 obtain rfl := oi h
 refine ke (pt AF0 2 (.xb (decide (¬ a0 = a0)))) [] rfl (s1 rfl) ⟨rfl, rfl⟩
theorem m_cmp_Compare_int64_ok (a0 : Int) (a1 : Int) (r : Int) (h : m_cmp_Compare_int64 a0 a1 = some r) : Pure Tryz.prog 140 [(.exact (.int .i64 a0)), (.exact (.int .i64 a1))] (.exact (.int .i64 r)) := by
 unfold m_cmp_Compare_int64 at h
 refine Pure.ofFun (zar Tryz.func140 rfl Tryz.ntmps140 (by simp) rfl (res1 rfl) fun E hE => k_end (zac (kr (qa (.xi 0) rfl (zad (zaa (zac (kr (qm (.xi a0) rfl ?_)))))))))
 obtain ⟨y1, hy1, h⟩ := zag h
 refine gq (zal (m_cmp_isNaN_int64_ok _ _ hy1) Tryz.func149 (by kernel_rfl) (lc lf ln) (qa (.xb y1) rfl (zad (zaa (zac (kr (qm (.xi a1) rfl ?_)))))))
 obtain ⟨y2, hy2, h⟩ := zag h
 refine gq (zal (m_cmp_isNaN_int64_ok _ _ hy2) Tryz.func149 (by kernel_rfl) (lc lf ln) (qa (.xb y2) rfl (zad (zaa (zac (zac (kr (qm (.xb y1) rfl (zad (zaa (kb (p := y1) rfl h (fun hc h => ?_) (fun hc h => ?_))))))))))))
 ·refine zac (zac (kr (qm (.xb y2) rfl (zad (zaa (kb (p := y2) rfl h (fun hc h => ?_) (fun hc h => ?_)))))))
  ·refine zac (kr (qa (.xi 0) rfl (zad (zaa (zax (zba (zba ?_)))))))
   obtain rfl := oi h
   refine ke (pt AF0 4 (.xi 0)) [] rfl (s1 rfl) ⟨rfl, rfl⟩
  ·refine zat (zaa (zac (kr (qa (.xi (-1)) rfl (zad (zaa (zax (zba ?_))))))))
   obtain rfl := oi h
   refine ke (pt AF0 4 (.xi (-1))) [] rfl (s1 rfl) ⟨rfl, rfl⟩
 ·refine zat (zaa (zac (zac (kr (qm (.xb y2) rfl (zad (zaa (kb (p := y2) rfl h (fun hc h => ?_) (fun hc h => ?_)))))))))
  ·refine zac (kr (qa (.xi 1) rfl (zad (zaa (zax (zba ?_))))))
   obtain rfl := oi h
   refine ke (pt AF0 4 (.xi 1)) [] rfl (s1 rfl) ⟨rfl, rfl⟩
  ·refine zat (zaa (zac (zac (kr (qm (.xi a0) rfl (qm (.xi a1) rfl (gq (op_lss rfl rfl (zad (zaa (kd (p := a0 < a1) rfl h (fun hc h => ?_) (fun hc h => ?_))))))))))))
   ·refine zac (kr (qa (.xi (-1)) rfl (zad (zaa (zax (zba ?_))))))
    obtain rfl := oi h
    refine ke (pt AF0 4 (.xi (-1))) [] rfl (s1 rfl) ⟨rfl, rfl⟩
   ·refine zat (zaa (zac (zac (kr (qm (.xi a0) rfl (qm (.xi a1) rfl (gq (op_gtr rfl rfl (zad (zaa (kd (p := a1 < a0) rfl h (fun hc h => ?_) (fun hc h => ?_))))))))))))
    ·refine zac (kr (qa (.xi 1) rfl (zad (zaa (zax (zba ?_))))))
     obtain rfl := oi h
     refine ke (pt AF0 4 (.xi 1)) [] rfl (s1 rfl) ⟨rfl, rfl⟩
    ·refine zat (zaa (zac (kr (qa (.xi 0) rfl (zad (zaa (zax ?_)))))))
     obtain rfl := oi h
     refine ke (pt AF0 4 (.xi 0)) [] rfl (s1 rfl) ⟨rfl, rfl⟩
theorem m_value_simple_ok (a0 : Int) (r : Bool) (h : m_value_simple a0 = some r) : Pure Tryz.prog 82 [(.exact (.int .i64 a0))] (.exact (.bool r)) := by
 unfold m_value_simple at h
 refine Pure.ofFun (zar Tryz.func82 rfl Tryz.ntmps82 (by simp) rfl (res1 rfl) fun E hE => k_end (zac (kr (qa (.xb false) rfl (zad (zaa (zbc h (fun (x2_j1 : Bool) => (pt AF0 2 (.xb x2_j1))) (fun (x2_j1 : Bool) => []) (fun k1 h => ?_) (fun x2_j1 h => ?_))))))))
 ·refine kr (qm (.xi a0) rfl (gq (op_eql rfl rfl (qm (.xb (decide (a0 = 0))) rfl (G_split (p := a0 = 0) 5 rfl (fun hc => ?_) (fun hc => ?_))))))
  ·replace h := ite_t h hc
   refine G_n rfl rfl (G_n rfl rfl (gq (zau rfl (av := .xb true) rfl (qm (.xb true) rfl (G_n rfl rfl (G_n rfl rfl (gq (zau rfl (av := .xb true) rfl (qm (.xb true) rfl (G_n rfl rfl (G_n rfl rfl (gq (zau rfl (av := .xb true) rfl (qa (.xb true) rfl (zad (zae ⟨_, h, s1 rfl⟩))))))))))))))))
  ·replace h := ite_f h hc
   refine Gy_q rfl rfl rfl (zam (av := .xi a0) rfl (Gy_q rfl rfl rfl (op_eql rfl rfl (gq (zaj rfl (av := .xb (decide (a0 = 1))) rfl (qm (.xb (decide (a0 = 1))) rfl (G_split (p := a0 = 1) 9 rfl (fun hc => ?_) (fun hc => ?_))))))))
   ·replace h := ite_t h hc
    refine G_n rfl rfl (G_n rfl rfl (gq (zau rfl (av := .xb true) rfl (qm (.xb true) rfl (G_n rfl rfl (G_n rfl rfl (gq (zau rfl (av := .xb true) rfl (qa (.xb true) rfl (zad (zae ⟨_, h, s1 rfl⟩)))))))))))
   ·replace h := ite_f h hc
    refine Gy_q rfl rfl rfl (zam (av := .xi a0) rfl (Gy_q rfl rfl rfl (op_eql rfl rfl (gq (zaj rfl (av := .xb (decide (a0 = 2))) rfl (qm (.xb (decide (a0 = 2))) rfl (G_split (p := a0 = 2) 13 rfl (fun hc => ?_) (fun hc => ?_))))))))
    ·replace h := ite_t h hc
     refine G_n rfl rfl (G_n rfl rfl (gq (zau rfl (av := .xb true) rfl (qa (.xb true) rfl (zad (zae ⟨_, h, s1 rfl⟩))))))
    ·replace h := ite_f h hc
     refine Gy_q rfl rfl rfl (zam (av := .xi a0) rfl (Gy_q rfl rfl rfl (op_eql rfl rfl (gq (zaj rfl (av := .xb (decide (a0 = 10))) rfl (qa (.xb (decide (a0 = 10))) rfl (zad (zae ⟨_, h, s1 rfl⟩))))))))
 ·refine zax ?_
  obtain rfl := oi h
  refine ke (pt AF0 2 (.xb x2_j1)) [] rfl (s1 rfl) ⟨rfl, rfl⟩
theorem m_cmp_isNaN_api_Value_ok (a0 : List UInt8) (r : Bool) (h : m_cmp_isNaN_api_Value a0 = some r) : Pure Tryz.prog 142 [(.exact (.string (bs a0)))] (.exact (.bool r)) := by
 unfold m_cmp_isNaN_api_Value at h
 refine Pure.ofFun (zar Tryz.func142 rfl Tryz.ntmps142 (by simp) rfl (res1 rfl) fun E hE => k_end (zac (kr (qa (.xb false) rfl (zad (zaa (zac (kr (qm (.xs a0) rfl (qm (.xs a0) rfl (gq (op_neqS rfl rfl (qa (.xb (decide (¬ a0 = a0))) rfl (zad (zaa (zax ?_))))))))))))))))
 obtain rfl := oi h
 refine ke (pt AF0 2 (.xb (decide (¬ a0 = a0)))) [] rfl (s1 rfl) ⟨rfl, rfl⟩
theorem m_cmp_Compare_api_Value_ok (a0 : List UInt8) (a1 : List UInt8) (r : Int) (h : m_cmp_Compare_api_Value a0 a1 = some r) : Pure Tryz.prog 125 [(.exact (.string (bs a0))), (.exact (.string (bs a1)))] (.exact (.int .i64 r)) := by
 unfold m_cmp_Compare_api_Value at h
 refine Pure.ofFun (zar Tryz.func125 rfl Tryz.ntmps125 (by simp) rfl (res1 rfl) fun E hE => k_end (zac (kr (qa (.xi 0) rfl (zad (zaa (zac (kr (qm (.xs a0) rfl ?_)))))))))
 obtain ⟨y1, hy1, h⟩ := zag h
 refine gq (zal (m_cmp_isNaN_api_Value_ok _ _ hy1) Tryz.func142 (by kernel_rfl) (lc lf ln) (qa (.xb y1) rfl (zad (zaa (zac (kr (qm (.xs a1) rfl ?_)))))))
 obtain ⟨y2, hy2, h⟩ := zag h
 refine gq (zal (m_cmp_isNaN_api_Value_ok _ _ hy2) Tryz.func142 (by kernel_rfl) (lc lf ln) (qa (.xb y2) rfl (zad (zaa (zac (zac (kr (qm (.xb y1) rfl (zad (zaa (kb (p := y1) rfl h (fun hc h => ?_) (fun hc h => ?_))))))))))))
 ·refine zac (zac (kr (qm (.xb y2) rfl (zad (zaa (kb (p := y2) rfl h (fun hc h => ?_) (fun hc h => ?_)))))))
  ·refine zac (kr (qa (.xi 0) rfl (zad (zaa (zax (zba (zba ?_)))))))
   obtain rfl := oi h
   refine ke (pt AF0 4 (.xi 0)) [] rfl (s1 rfl) ⟨rfl, rfl⟩
  ·refine zat (zaa (zac (kr (qa (.xi (-1)) rfl (zad (zaa (zax (zba ?_))))))))
   obtain rfl := oi h
   refine ke (pt AF0 4 (.xi (-1))) [] rfl (s1 rfl) ⟨rfl, rfl⟩
 ·refine zat (zaa (zac (zac (kr (qm (.xb y2) rfl (zad (zaa (kb (p := y2) rfl h (fun hc h => ?_) (fun hc h => ?_)))))))))
  ·refine zac (kr (qa (.xi 1) rfl (zad (zaa (zax (zba ?_))))))
   obtain rfl := oi h
   refine ke (pt AF0 4 (.xi 1)) [] rfl (s1 rfl) ⟨rfl, rfl⟩
  ·refine zat (zaa (zac (zac (kr (qm (.xs a0) rfl (qm (.xs a1) rfl (gq (op_lssS rfl rfl (zad (zaa (kd (p := ltS a0 a1) rfl h (fun hc h => ?_) (fun hc h => ?_))))))))))))
   ·refine zac (kr (qa (.xi (-1)) rfl (zad (zaa (zax (zba ?_))))))
    obtain rfl := oi h
    refine ke (pt AF0 4 (.xi (-1))) [] rfl (s1 rfl) ⟨rfl, rfl⟩
   ·refine zat (zaa (zac (zac (kr (qm (.xs a0) rfl (qm (.xs a1) rfl (gq (op_gtrS rfl rfl (zad (zaa (kd (p := ltS a1 a0) rfl h (fun hc h => ?_) (fun hc h => ?_))))))))))))
    ·refine zac (kr (qa (.xi 1) rfl (zad (zaa (zax (zba ?_))))))
     obtain rfl := oi h
     refine ke (pt AF0 4 (.xi 1)) [] rfl (s1 rfl) ⟨rfl, rfl⟩
    ·refine zat (zaa (zac (kr (qa (.xi 0) rfl (zad (zaa (zax ?_)))))))
     obtain rfl := oi h
     refine ke (pt AF0 4 (.xi 0)) [] rfl (s1 rfl) ⟨rfl, rfl⟩
theorem m_value_span_F_ok (self_value_span : (List UInt8) → Option Int) (hself_value_span : ∀ (a0 : List UInt8) (r : Int), self_value_span a0 = some r → Pure Tryz.prog 108 [(.exact (.string (bs a0)))] (.exact (.int .i64 r))) (a0 : List UInt8) (r : Int) (h : m_value_span_F self_value_span a0 = some r) : Pure Tryz.prog 108 [(.exact (.string (bs a0)))] (.exact (.int .i64 r)) := by
 unfold m_value_span_F at h
 refine Pure.ofFun (zar Tryz.func108 rfl Tryz.ntmps108 (by simp) rfl (res1 rfl) fun E hE => k_end (zac (kr (qa (.xi 0) rfl (zad (zaa (zac (zac (kr (qm (.xs a0) rfl ?_))))))))))
 obtain ⟨n1, h⟩ := zah h
 refine gq (op_index_str (by kernel_rfl) rfl rfl n1.1 n1.2 (zad (zaa (zaw (zac (kr (gq (op_eqlU (a := (gi a0 0)) (b := 1) rfl rfl (qa (.xb (decide ((gi a0 0) = 1))) rfl (zad (zaa (kd (p := (gi a0 0) = 1) rfl h (fun hc h => ?_) (fun hc h => ?_)))))))))))))
 ·refine zac (kr (qa (.xi 9) rfl (zad (zaa (zax (zbb (zba ?_)))))))
  obtain rfl := oi h
  refine ke (pt AF0 2 (.xi 9)) [] rfl (s1 rfl) ⟨rfl, rfl⟩
 ·refine zac (kr (gq (op_eqlU (a := (gi a0 0)) (b := 2) rfl rfl (qa (.xb (decide ((gi a0 0) = 2))) rfl (zad (zaa (kd (p := (gi a0 0) = 2) rfl h (fun hc h => ?_) (fun hc h => ?_))))))))
  ·refine zac (kr (qa (.xi 2) rfl (zad (zaa (zax (zbb (zba ?_)))))))
   obtain rfl := oi h
   refine ke (pt AF0 2 (.xi 2)) [] rfl (s1 rfl) ⟨rfl, rfl⟩
  ·refine zac (kr (gq (op_eqlU (a := (gi a0 0)) (b := 10) rfl rfl (qa (.xb (decide ((gi a0 0) = 10))) rfl (zad (zaa (kd (p := (gi a0 0) = 10) rfl h (fun hc h => ?_) (fun hc h => ?_))))))))
   ·refine zac (kr (qa (.xi 3) rfl (zad (zaa (zax (zbb (zba ?_)))))))
    obtain rfl := oi h
    refine ke (pt AF0 2 (.xi 3)) [] rfl (s1 rfl) ⟨rfl, rfl⟩
   ·refine zat (zaz (zaa (zac (kr (qa (.xi 3) rfl (zad (zaa (zbc h (fun (x3_j2 : Int) => (pt AF0 3 (.xi x3_j2))) (fun (x3_j2 : Int) => []) (fun k2 h => ?_) (fun x3_j2 h => ?_)))))))))
    ·refine zac (k_plan [] [(0, 0), (0, 1), (0, 2), (0, 3), (0, 4), (0, 5), (0, 6), (0, 7), (0, 8)] hmixP (by kernel_rfl) (P_q zaq rfl (zam (av := .xs a0) rfl ?_)))
     obtain ⟨n12, h⟩ := zah h
     refine P_q zaq rfl (op_index_str (by kernel_rfl) rfl rfl n12.1 n12.2 (P_q zaq rfl (op_convInt (k := .i64) (r := (UInt8.toNat (gi a0 1) : Int)) (by kernel_rfl) rfl (wrap_u8 rfl _) (P_q zaq rfl (op_shl rfl rfl (by decide) rfl (P_q zaq rfl (zam (av := .xs a0) rfl ?_)))))))
     obtain ⟨n13, h⟩ := zah h
     refine P_q zaq rfl (op_index_str (by kernel_rfl) rfl rfl n13.1 n13.2 (P_q zaq rfl (op_convInt (k := .i64) (r := (UInt8.toNat (gi a0 2) : Int)) (by kernel_rfl) rfl (wrap_u8 rfl _) (P_q zaq rfl (op_or rfl rfl rfl (P_q zaq rfl (zam (av := .xi 0) rfl (P_nil (zaa (zaw (k_loop2_0 (m_value_span_L2 self_value_span a0 k2) (m_value_span_B2 self_value_span a0 k2) (fun _ _ => rfl) (fun m _ _ => rfl) h (fun (x3_l2 : Int) (x20_l2 : Int) => (pt (pt (pt (pt AF0 0 (.xs a0)) 3 (.xi x3_l2)) 19 (.xi (bOr .i64 (i64 ((UInt8.toNat (gi a0 1) : Int) * 2 ^ min (Int.toNat 8) IntKind.i64.bits)) (UInt8.toNat (gi a0 2) : Int)))) 20 (.xi x20_l2))) (fun (x3_l2 : Int) (x20_l2 : Int) => []) ?_ (fun rec2 x3_l2 x20_l2 h => ?_))))))))))))
     ·exact s4 rfl rfl rfl rfl
     ·unfold m_value_span_B2 at h
      refine zac (kr (gq (op_lss rfl rfl (zad (zaa (zac (kd (p := x20_l2 < (bOr .i64 (i64 ((UInt8.toNat (gi a0 1) : Int) * 2 ^ min (Int.toNat 8) IntKind.i64.bits)) (UInt8.toNat (gi a0 2) : Int))) rfl h (fun hc h => ?_) (fun hc h => ?_))))))))
      ·refine zat (zaa (zac (zaw (kr (qm (.xi x3_l2) rfl (qm (.xs a0) rfl (qm (.xi x3_l2) rfl ?_)))))))
       obtain ⟨n18, h⟩ := zah h
       refine gq (op_slice_strd (by kernel_rfl) rfl (bnd_some rfl) bnd_none n18.1 n18.2 (Int.le_refl _) ?_)
       obtain ⟨y19, hy19, h⟩ := zag h
       refine gq (zal (hself_value_span _ _ hy19) Tryz.func108 (by kernel_rfl) (lc lf ln) (gq (op_add rfl rfl rfl (qa (.xi (i64 (x3_l2 + y19))) rfl (zad (zaz (zaa (kr (gq (op_add rfl rfl rfl (qm (.xi (i64 (x20_l2 + 1))) rfl (zad (zae ⟨_, _, h, s4 rfl rfl rfl rfl⟩)))))))))))))
      ·refine k_exit (kC_exit (kI_exit (kB_exit (zae ⟨_, h, s1 rfl⟩))))
    ·refine zac (kr (qm (.xi x3_j2) rfl (qa (.xi x3_j2) rfl (zad (zaa (zax ?_))))))
     obtain rfl := oi h
     refine ke (pt AF0 2 (.xi x3_j2)) [] rfl (s1 rfl) ⟨rfl, rfl⟩
theorem m_value_span_S_ok : ∀ n : Nat, (∀ (a0 : List UInt8) (r : Int), m_value_span_S n a0 = some r → Pure Tryz.prog 108 [(.exact (.string (bs a0)))] (.exact (.int .i64 r)))
  | 0 => (fun _ _ h => by have h' : (none : Option _) = some _ := h; cases h')
  | n + 1 => by
    have ih := m_value_span_S_ok n
    exact fun a0 r h => m_value_span_F_ok (m_value_span_S n) ih a0 r h
theorem m_value_span_ok (a0 : List UInt8) (r : Int) (h : m_value_span a0 = some r) : Pure Tryz.prog 108 [(.exact (.string (bs a0)))] (.exact (.int .i64 r)) := (m_value_span_S_ok FU) a0 r h
theorem m_slices_Clip_L_api_Value_api_Value_ok {w0 : Value} (a0 : List (List UInt8)) (r : (List (List UInt8))) (h : m_slices_Clip_L_api_Value_api_Value a0 = some r) : Fun Tryz.prog 43 [(.exact w0)] [vecT Tryz.prog 23 1 zab w0 a0] (fun a s => ∃ z0, a = .exact z0 ∧ s = [vecO Tryz.prog 23 1 zab z0 r]) := by
 unfold m_slices_Clip_L_api_Value_api_Value at h
 refine zar Tryz.func43 rfl Tryz.ntmps43 (by simp) rfl (res1 rfl) fun E hE => k_end (zac (kr (qa (.exact (.slice none 0 0)) rfl (zad (zaa (zac (kr (qm (.exact w0) rfl (qm (.exact w0) rfl (G_r rfl (op_len_vec (by kernel_rfl) rfl (qm (.exact w0) rfl (G_r rfl (op_len_vec (by kernel_rfl) rfl (G_l rfl (op_clipO (by kernel_rfl) rfl rfl rfl rfl (fun v1 => qa (.exact v1) rfl ?_)))))))))))))))))
 refine zad (zaa (zax ?_))
 obtain rfl := oi h
 refine ke (pt AF0 2 (.exact v1)) [vecO Tryz.prog 23 1 zab v1 a0] rfl (s1 rfl) ⟨v1, rfl, rfl⟩
theorem m_value_parts_ok (a0 : List UInt8) (r : (List (List UInt8))) (h : m_value_parts a0 = some r) : Pure Tryz.prog 83 [(.exact (.string (bs a0)))] (.row 1 zab r) := by
 unfold m_value_parts at h
 refine Pure.ofFun (zar Tryz.func83 rfl Tryz.ntmps83 (by simp) rfl (res1 rfl) fun E hE => k_end (zac (kr (qa (.exact (.slice none 0 0)) rfl (zad (zaa (zac (kr (qa (.exact (.slice none 0 0)) rfl (zad (zaa (k_join1_1 h (fun (x3_j1 : List (List UInt8)) (v3_j1 : Value) => (pt AF0 3 (.exact v3_j1))) (fun (x3_j1 : List (List UInt8)) (v3_j1 : Value) => [vecT Tryz.prog 23 1 zab v3_j1 x3_j1]) (fun k1 h => ?_) (fun x3_j1 v3_j1 h => ?_)))))))))))))
 ·refine zac (kr (qa (.xi 3) rfl (zad (zaa (zaw (k_loop2_1 (m_value_parts_L2 a0 k1) (m_value_parts_B2 a0 k1) (fun _ _ => rfl) (fun m _ _ => rfl) h (fun (x3_l2 : List (List UInt8)) (x4_l2 : Int) (v3_l2 : Value) => (pt (pt (pt AF0 0 (.xs a0)) 3 (.exact v3_l2)) 4 (.xi x4_l2))) (fun (x3_l2 : List (List UInt8)) (x4_l2 : Int) (v3_l2 : Value) => [vecT Tryz.prog 23 1 zab v3_l2 x3_l2]) (.slice none 0 0) ?_ (fun rec2 x3_l2 x4_l2 v3_l2 h => ?_)))))))
  ·refine Sub.trans (SubU.to (SubU.nilT (P := Tryz.prog) (t := 23) (n := 1) (enc := zab))) (s3 rfl rfl rfl)
  ·unfold m_value_parts_B2 at h
   refine zac (zac (kr (qm (.xi x4_l2) rfl (qm (.xs a0) rfl (gq (op_lenS (by kernel_rfl) rfl (gq (op_lss rfl rfl (zad (zaa (kd (p := x4_l2 < (List.length a0 : Int)) rfl h (fun hc h => ?_) (fun hc h => ?_))))))))))))
   ·refine zat (zaa (zaw (zac (kr (qm (.xs a0) rfl (qm (.xi x4_l2) rfl ?_))))))
    obtain ⟨n28, h⟩ := zah h
    refine gq (op_slice_strd (by kernel_rfl) rfl (bnd_some rfl) bnd_none n28.1 n28.2 (Int.le_refl _) ?_)
    obtain ⟨y29, hy29, h⟩ := zag h
    refine gq (zal (m_value_span_ok _ _ hy29) Tryz.func108 (by kernel_rfl) (lc lf ln) (qa (.xi y29) rfl (zad (zaa (zac (kr (qm (.exact v3_l2) rfl (qm (.xs a0) rfl (qm (.xi x4_l2) rfl (qm (.xi x4_l2) rfl (qm (.xi y29) rfl (gq (op_add rfl rfl rfl ?_)))))))))))))
    obtain ⟨n30, h⟩ := zah h
    refine gq (op_slice_str (by kernel_rfl) rfl (bnd_some rfl) (bnd_some rfl) n30.1 n30.2.1 n30.2.2 (gq (op_litT (n := 1) (enc := zab) [List.take (Int.toNat (i64 (x4_l2 + y29)) - Int.toNat x4_l2) (List.drop (Int.toNat x4_l2) a0)] (CellsAll.cons rfl CellsOf.str CellsAll.nil) rfl (by kernel_rfl) (LEss.cons (lc lf ln) LEss.nil) ?_)))
    obtain ⟨n31, h⟩ := zah h
    refine G_l rfl (op_appT (by kernel_rfl) rfl rfl zbe n31 (fun v32 => qa (.exact v32) rfl (zad (zaa (kr (qm (.xi x4_l2) rfl (qm (.xi y29) rfl (gq (op_add rfl rfl rfl (qa (.xi (i64 (x4_l2 + y29))) rfl (zad (zaz (zae ⟨_, _, v32, h, s3 rfl rfl rfl⟩)))))))))))))
   ·refine k_exit (kC_exit (kI_exit (kB_exit (zae ⟨_, v3_l2, h, s1 rfl⟩))))
 ·refine zac (kr (qm (.exact v3_j1) rfl ?_))
  obtain ⟨y33, hy33, h⟩ := zag h
  refine G_l rfl (op_fun_1_1_1 (m_slices_Clip_L_api_Value_api_Value_ok _ _ hy33) Tryz.func43 (by kernel_rfl) (lc lf ln) (fun v34 => qa (.exact v34) rfl (zad (zaa (zax ?_)))))
  obtain rfl := oi h
  refine ke (pt AF0 2 (.row 1 zab y33)) [] rfl (Sub.trans (SubU.to (SubU.freezeO (s := 2) rfl zay)) (s1 rfl)) ⟨rfl, rfl⟩
theorem m_slices_CompareFunc_L_api_Value_L_api_Value_api_Value_api_Value_ok (a0 : List (List UInt8)) (a1 : List (List UInt8)) (a2 : (List UInt8) → (List UInt8) → Option Int) (r : Int) (h : m_slices_CompareFunc_L_api_Value_L_api_Value_api_Value_api_Value a0 a1 a2 = some r) : Pure Tryz.prog 141 [(.row 1 zab a0), (.row 1 zab a1), (.fn Tryz.prog (fun (i : (List UInt8) × (List UInt8)) => [.exact (.string (bs i.1)), .exact (.string (bs i.2))]) (fun (i : (List UInt8) × (List UInt8)) => a2 i.1 i.2) (fun (r : Int) => .exact (.int .i64 r)))] (.exact (.int .i64 r)) := by
 unfold m_slices_CompareFunc_L_api_Value_L_api_Value_api_Value_api_Value at h
 refine Pure.ofFun (zar Tryz.func141 rfl Tryz.ntmps141 (by simp) rfl (res1 rfl) fun E hE => k_end (zac (kr (qa (.xi 0) rfl (zad (zaa (k_join0_0 h ((pt (pt AF0 0 (.row 1 zab a0)) 1 (.row 1 zab a1))) ([]) (fun k1 h => ?_) (fun  h => ?_))))))))
 ·refine zac (kr (qm (.row 1 zab a0) rfl (gq (zap (by kernel_rfl) rfl (qm (.xi 0) rfl (zad (zaa (zaw (k_loop1_0 (zbf a0 a1 a2 k1) (zbn a0 a1 a2 k1) (fun _ => rfl) (fun m _ => rfl) h (fun (x13_l2 : Int) => (pt (pt (pt (pt (pt (pt AF0 0 (.row 1 zab a0)) 1 (.row 1 zab a1)) 2 (.fn Tryz.prog (fun (i : (List UInt8) × (List UInt8)) => [.xs i.1, .xs i.2]) (fun (i : (List UInt8) × (List UInt8)) => a2 i.1 i.2) (fun (r : Int) => .xi r))) 11 (.row 1 zab a0)) 12 (.xi (List.length a0 : Int))) 13 (.xi x13_l2))) (fun (x13_l2 : Int) => []) ?_ (fun rec2 x13_l2 h => ?_))))))))))
  ·exact so (l4 rfl rfl rfl rfl (lq rfl (lq rfl lt0)))
  ·unfold zbn at h
   refine zac (kr (gq (op_lss rfl rfl (zad (zaa (zac (kd (p := x13_l2 < (List.length a0 : Int)) rfl h (fun hc h => ?_) (fun hc h => ?_))))))))
   ·refine zat (zaa (zac (zaw (zac (kr (qm (.xi x13_l2) rfl ?_))))))
    obtain ⟨n18, h⟩ := zah h
    refine gq (zao (by kernel_rfl) rfl rfl n18.1 n18.2 (gq (zav (a := .xs (gi a0 x13_l2)) (by kernel_rfl) rfl rfl (qa (.xi x13_l2) rfl (qa (.xs (gi a0 x13_l2)) rfl (zad (zaa (zac (zac (kr (qm (.xi x13_l2) rfl (qm (.row 1 zab a1) rfl (gq (zap (by kernel_rfl) rfl (gq (op_geq rfl rfl (zad (zaa (kd (p := (List.length a1 : Int) ≤ x13_l2) rfl h (fun hc h => ?_) (fun hc h => ?_))))))))))))))))))))
    ·refine zac (kr (qa (.xi 1) rfl (zad (zaa (zax (zba (zbb (zba (zbj (zbb (zbj ?_)))))))))))
     obtain rfl := oi h
     refine ke (pt AF0 6 (.xi 1)) [] rfl (s1 rfl) ⟨rfl, rfl⟩
    ·refine zat (zaa (zac (kr (qm (.row 1 zab a1) rfl (qm (.xi x13_l2) rfl ?_)))))
     obtain ⟨n19, h⟩ := zah h
     refine gq (zao (by kernel_rfl) rfl rfl n19.1 n19.2 (gq (zav (a := .xs (gi a1 x13_l2)) (by kernel_rfl) rfl rfl (qa (.xs (gi a1 x13_l2)) rfl (zad (zaa (zac (kr (qm (.fn Tryz.prog (fun (i : (List UInt8) × (List UInt8)) => [.xs i.1, .xs i.2]) (fun (i : (List UInt8) × (List UInt8)) => a2 i.1 i.2) (fun (r : Int) => .xi r)) rfl (qm (.xs (gi a0 x13_l2)) rfl (qm (.xs (gi a1 x13_l2)) rfl ?_)))))))))))
     obtain ⟨y20, hy20, h⟩ := zag h
     refine gq (op_callfn (gi a0 x13_l2, gi a1 x13_l2) rfl hy20 (lc lf (lc lf ln)) (qa (.xi y20) rfl (zad (zaa (zac (kr (qm (.xi y20) rfl (gq (op_neq rfl rfl (zad (zaa (kd (p := ¬ y20 = 0) rfl h (fun hc h => ?_) (fun hc h => ?_)))))))))))))
     ·refine zac (kr (qm (.xi y20) rfl (qa (.xi y20) rfl (zad (zaa (zax (zbb (zba (zbj (zbb (zbj ?_)))))))))))
      obtain rfl := oi h
      refine ke (pt AF0 6 (.xi y20)) [] rfl (s1 rfl) ⟨rfl, rfl⟩
     ·refine zat (zaz (zaa (kr (gq (op_add rfl rfl rfl (qm (.xi (i64 (x13_l2 + 1))) rfl (zad (zae ⟨_, h, so (l4 rfl rfl rfl rfl (lq rfl (lq rfl lt0)))⟩))))))))
   ·refine k_exit (kC_exit (kI_exit (kB_exit (zae ⟨h, s2 rfl rfl⟩))))
 ·refine zac (zac (kr (qm (.row 1 zab a0) rfl (gq (zap (by kernel_rfl) rfl (qm (.row 1 zab a1) rfl (gq (zap (by kernel_rfl) rfl (gq (op_lss rfl rfl (zad (zaa (kd (p := (List.length a0 : Int) < (List.length a1 : Int)) rfl h (fun hc h => ?_) (fun hc h => ?_))))))))))))))
  ·refine zac (kr (qa (.xi (-1)) rfl (zad (zaa (zax (zba ?_))))))
   obtain rfl := oi h
   refine ke (pt AF0 6 (.xi (-1))) [] rfl (s1 rfl) ⟨rfl, rfl⟩
  ·refine zat (zaa (zac (kr (qa (.xi 0) rfl (zad (zaa (zax ?_)))))))
   obtain rfl := oi h
   refine ke (pt AF0 6 (.xi 0)) [] rfl (s1 rfl) ⟨rfl, rfl⟩
theorem m_value_compare_F_ok (self_value_compare : (List UInt8) → (List UInt8) → Option Int) (hself_value_compare : ∀ (a0 : List UInt8) (a1 : List UInt8) (r : Int), self_value_compare a0 a1 = some r → Pure Tryz.prog 124 [(.exact (.string (bs a0))), (.exact (.string (bs a1)))] (.exact (.int .i64 r))) (a0 : List UInt8) (a1 : List UInt8) (r : Int) (h : m_value_compare_F self_value_compare a0 a1 = some r) : Pure Tryz.prog 124 [(.exact (.string (bs a0))), (.exact (.string (bs a1)))] (.exact (.int .i64 r)) := by
 unfold m_value_compare_F at h
 refine Pure.ofFun (zar Tryz.func124 rfl Tryz.ntmps124 (by simp) rfl (res1 rfl) fun E hE => k_end (zac (kr (qa (.xi 0) rfl (zad (zaa (zac (zac (kr (qm (.xs a0) rfl (qm (.xs a1) rfl (gq (op_eqlS rfl rfl (zad (zaa (kd (p := a0 = a1) rfl h (fun hc h => ?_) (fun hc h => ?_)))))))))))))))))
 ·refine zac (kr (qa (.xi 0) rfl (zad (zaa (zax (zba ?_))))))
  obtain rfl := oi h
  refine ke (pt AF0 4 (.xi 0)) [] rfl (s1 rfl) ⟨rfl, rfl⟩
 ·refine zat (zaa (zac (zac (k_plan [] [(0, 0), (0, 1), (0, 2), (0, 3), (0, 4), (0, 5)] hmixP (by kernel_rfl) (P_q zaq rfl (zam (av := .xs a0) rfl ?_))))))
  obtain ⟨n1, h⟩ := zah h
  refine P_q zaq rfl (op_index_str (by kernel_rfl) rfl rfl n1.1 n1.2 (P_q zaq rfl (zam (av := .xs a1) rfl ?_)))
  obtain ⟨n2, h⟩ := zah h
  refine P_q zaq rfl (op_index_str (by kernel_rfl) rfl rfl n2.1 n2.2 ?_)
  obtain ⟨y3, hy3, h⟩ := zag h
  refine P_q zaq rfl (zal (m_cmp_Compare_byte_ok _ _ _ hy3) Tryz.func139 (by kernel_rfl) (lc lf (lc lf ln)) (P_q zaq rfl (op_assign (av := .xi y3) rfl (P_nil (zaa (zac (kr (qm (.xi y3) rfl (gq (op_neq rfl rfl (zad (zaa (kd (p := ¬ y3 = 0) rfl h (fun hc h => ?_) (fun hc h => ?_))))))))))))))
  ·refine zac (kr (qm (.xi y3) rfl (qa (.xi y3) rfl (zad (zaa (zax (zba ?_)))))))
   obtain rfl := oi h
   refine ke (pt AF0 4 (.xi y3)) [] rfl (s1 rfl) ⟨rfl, rfl⟩
  ·refine zat (zaa (zac (zac (kr (qm (.xs a0) rfl ?_)))))
   obtain ⟨n4, h⟩ := zah h
   refine gq (op_index_str (by kernel_rfl) rfl rfl n4.1 n4.2 (gq (op_eqlU (a := (gi a0 0)) (b := 1) rfl rfl (zad (zaa (kd (p := (gi a0 0) = 1) rfl h (fun hc h => ?_) (fun hc h => ?_)))))))
   ·refine zac (kr (qm (.xs a0) rfl ?_))
    obtain ⟨y5, hy5, h⟩ := zag h
    refine gq (zal (m_value_integer_ok _ _ hy5) Tryz.func106 (by kernel_rfl) (lc lf ln) (qm (.xs a1) rfl ?_))
    obtain ⟨y6, hy6, h⟩ := zag h
    refine gq (zal (m_value_integer_ok _ _ hy6) Tryz.func106 (by kernel_rfl) (lc lf ln) ?_)
    obtain ⟨y7, hy7, h⟩ := zag h
    refine gq (zal (m_cmp_Compare_int64_ok _ _ _ hy7) Tryz.func140 (by kernel_rfl) (lc lf (lc lf ln)) (qa (.xi y7) rfl (zad (zaa (zax (zba ?_))))))
    obtain rfl := oi h
    refine ke (pt AF0 4 (.xi y7)) [] rfl (s1 rfl) ⟨rfl, rfl⟩
   ·refine zat (zaa (zac (zac (kr (qm (.xs a0) rfl ?_)))))
    obtain ⟨n8, h⟩ := zah h
    refine gq (op_index_str (by kernel_rfl) rfl rfl n8.1 n8.2 (gq (op_convInt (k := .i64) (r := (UInt8.toNat (gi a0 0) : Int)) (by kernel_rfl) rfl (wrap_u8 rfl _) ?_)))
    obtain ⟨y9, hy9, h⟩ := zag h
    refine gq (zal (m_value_simple_ok _ _ hy9) Tryz.func82 (by kernel_rfl) (lc lf ln) (zad (zaa (kb (p := y9) rfl h (fun hc h => ?_) (fun hc h => ?_)))))
    ·refine zac (kr (qm (.xs a0) rfl (qm (.xs a1) rfl ?_)))
     obtain ⟨y10, hy10, h⟩ := zag h
     refine gq (zal (m_cmp_Compare_api_Value_ok _ _ _ hy10) Tryz.func125 (by kernel_rfl) (lc lf (lc lf ln)) (qa (.xi y10) rfl (zad (zaa (zax (zba ?_))))))
     obtain rfl := oi h
     refine ke (pt AF0 4 (.xi y10)) [] rfl (s1 rfl) ⟨rfl, rfl⟩
    ·refine zat (zaa (zac (kr (qm (.xs a0) rfl ?_))))
     obtain ⟨y11, hy11, h⟩ := zag h
     refine gq (zal (m_value_parts_ok _ _ hy11) Tryz.func83 (by kernel_rfl) (lc lf ln) (qm (.xs a1) rfl ?_))
     obtain ⟨y12, hy12, h⟩ := zag h
     refine gq (zal (m_value_parts_ok _ _ hy12) Tryz.func83 (by kernel_rfl) (lc lf ln) ?_)
     obtain ⟨y13, hy13, h⟩ := zag h
     refine gq (zal (m_slices_CompareFunc_L_api_Value_L_api_Value_api_Value_api_Value_ok _ _ _ _ hy13) Tryz.func141 (by kernel_rfl) (lc lf (lc lf (lc ((fn_le Tryz.func124 (by kernel_rfl) (fun i r h => hself_value_compare i.1 i.2 r h))) ln))) (qa (.xi y13) rfl (zad (zaa (zax ?_)))))
     obtain rfl := oi h
     refine ke (pt AF0 4 (.xi y13)) [] rfl (s1 rfl) ⟨rfl, rfl⟩
end Go.Proofs.YtjlbdhicabgliaaGreat
/- The functions compute their models, by program. -/
namespace Go.Proofs.YtjlbdhicabgliaaGreat
open Go.RowKit
attribute [local irreducible] AV.exact AV.top AV.row AV.ptr AV.agg AV.tup AV.eptr AV.fn AV.nilq AV.nilqn opA opB opM opR Quiet Loud Reads wpG awp den Sub SubU Pure Fun vecI vecT boxI CellsAll CellsOf OneC LEs LEss
set_option maxRecDepth 100000

set_option maxHeartbeats 4000000
theorem m_value_compare_S_ok : ∀ n : Nat, (∀ (a0 : List UInt8) (a1 : List UInt8) (r : Int), m_value_compare_S n a0 a1 = some r → Pure Tryz.prog 124 [(.exact (.string (bs a0))), (.exact (.string (bs a1)))] (.exact (.int .i64 r)))
  | 0 => (fun _ _ _ h => by have h' : (none : Option _) = some _ := h; cases h')
  | n + 1 => by
    have ih := m_value_compare_S_ok n
    exact fun a0 a1 r h => m_value_compare_F_ok (m_value_compare_S n) ih a0 a1 r h
theorem m_value_compare_ok (a0 : List UInt8) (a1 : List UInt8) (r : Int) (h : m_value_compare a0 a1 = some r) : Pure Tryz.prog 124 [(.exact (.string (bs a0))), (.exact (.string (bs a1)))] (.exact (.int .i64 r)) := (m_value_compare_S_ok FU) a0 a1 r h
theorem m_value_ascending_ok (a0 : List (List UInt8)) (r : Bool) (h : m_value_ascending a0 = some r) : Pure Tryz.prog 127 [(.row 1 zab a0)] (.exact (.bool r)) := by
 unfold m_value_ascending at h
 refine Pure.ofFun (zar Tryz.func127 rfl Tryz.ntmps127 (by simp) rfl (res1 rfl) fun E hE => k_end (zac (kr (qa (.xb false) rfl (zad (zaa (k_join0_0 h (AF0) ([]) (fun k1 h => ?_) (fun  h => ?_))))))))
 ·refine zac (kr (qa (.xi 1) rfl (zad (zaa (zaw (k_loop1_0 (m_value_ascending_L2 a0 k1) (m_value_ascending_B2 a0 k1) (fun _ => rfl) (fun m _ => rfl) h (fun (x3_l2 : Int) => (pt (pt AF0 0 (.row 1 zab a0)) 3 (.xi x3_l2))) (fun (x3_l2 : Int) => []) ?_ (fun rec2 x3_l2 h => ?_)))))))
  ·exact s2 rfl rfl
  ·unfold m_value_ascending_B2 at h
   refine zac (zac (kr (qm (.xi x3_l2) rfl (qm (.row 1 zab a0) rfl (gq (zap (by kernel_rfl) rfl (gq (op_lss rfl rfl (zad (zaa (kd (p := x3_l2 < (List.length a0 : Int)) rfl h (fun hc h => ?_) (fun hc h => ?_))))))))))))
   ·refine zat (zaa (zac (zaw (zac (k_plan [] [(0, 0), (0, 1), (0, 2), (0, 3), (0, 4), (0, 5), (0, 6), (0, 7), (0, 8), (0, 9), (0, 10)] hmixP (by kernel_rfl) (P_q zaq rfl (zam (av := .row 1 zab a0) rfl (P_q zaq rfl (zam (av := .xi x3_l2) rfl (P_q zaq rfl (op_sub rfl rfl rfl ?_)))))))))))
    obtain ⟨n18, h⟩ := zah h
    refine P_q zaq rfl (zao (by kernel_rfl) rfl rfl n18.1 n18.2 (P_q zaq rfl (zav (a := .xs (gi a0 (i64 (x3_l2 - 1)))) (by kernel_rfl) rfl rfl (P_q zaq rfl (zam (av := .row 1 zab a0) rfl (P_q zaq rfl (zam (av := .xi x3_l2) rfl ?_)))))))
    obtain ⟨n19, h⟩ := zah h
    refine P_q zaq rfl (zao (by kernel_rfl) rfl rfl n19.1 n19.2 (P_q zaq rfl (zav (a := .xs (gi a0 x3_l2)) (by kernel_rfl) rfl rfl ?_)))
    obtain ⟨y20, hy20, h⟩ := zag h
    refine P_q zaq rfl (zal (m_value_compare_ok _ _ _ hy20) Tryz.func124 (by kernel_rfl) (lc lf (lc lf ln)) (P_q zaq rfl (op_geq rfl rfl (P_nil (zaa (kd (p := 0 ≤ y20) rfl h (fun hc h => ?_) (fun hc h => ?_)))))))
    ·refine zac (kr (qa (.xb false) rfl (zad (zaa (zax (zbb (zba (zbj (zbb (zbj ?_))))))))))
     obtain rfl := oi h
     refine ke (pt AF0 2 (.xb false)) [] rfl (s1 rfl) ⟨rfl, rfl⟩
    ·refine zat (zaz (zaa (kr (qm (.xi x3_l2) rfl (gq (op_add rfl rfl rfl (qa (.xi (i64 (x3_l2 + 1))) rfl (zad (zae ⟨_, h, s2 rfl rfl⟩)))))))))
   ·refine k_exit (kC_exit (kI_exit (kB_exit (zae ⟨h, Sub.of_le lt0⟩))))
 ·refine zac (kr (qa (.xb true) rfl (zad (zaa (zax ?_)))))
  obtain rfl := oi h
  refine ke (pt AF0 2 (.xb true)) [] rfl (s1 rfl) ⟨rfl, rfl⟩
theorem m_value_between_ok (a0 : List UInt8) (a1 : Int) (a2 : Int) (r : Bool) (h : m_value_between a0 a1 a2 = some r) : Pure Tryz.prog 128 [(.exact (.string (bs a0))), (.exact (.int .i64 a1)), (.exact (.int .i64 a2))] (.exact (.bool r)) := by
 unfold m_value_between at h
 refine Pure.ofFun (zar Tryz.func128 rfl Tryz.ntmps128 (by simp) rfl (res1 rfl) fun E hE => k_end (zac (kr (qa (.xb false) rfl (zad (zaa (zbc h (fun (x6_j1 : Bool) => (pt AF0 6 (.xb x6_j1))) (fun (x6_j1 : Bool) => []) (fun k1 h => ?_) (fun x6_j1 h => ?_))))))))
 ·refine kr (qm (.xs a0) rfl ?_)
  obtain ⟨n5, h⟩ := zah h
  refine gq (op_index_str (by kernel_rfl) rfl rfl n5.1 n5.2 (gq (op_eqlU (a := (gi a0 0)) (b := 1) rfl rfl (qm (.xb (decide ((gi a0 0) = 1))) rfl (G_split (p := (gi a0 0) = 1) 10 rfl (fun hc => ?_) (fun hc => ?_))))))
  ·replace h := ite_t h hc
   refine Gy_q rfl rfl rfl (zam (av := .xs a0) rfl ?_)
   obtain ⟨y6, hy6, h⟩ := zag h
   refine Gy_q rfl rfl rfl (zal (m_value_integer_ok _ _ hy6) Tryz.func106 (by kernel_rfl) (lc lf ln) (Gy_q rfl rfl rfl (zam (av := .xi a1) rfl (Gy_q rfl rfl rfl (op_geq rfl rfl (gq (zau rfl (av := .xb (decide (a1 ≤ y6))) rfl (qm (.xb (decide (a1 ≤ y6))) rfl (G_split (p := a1 ≤ y6) 16 rfl (fun hc => ?_) (fun hc => ?_))))))))))
   ·replace h := ite_t h hc
    refine Gy_q rfl rfl rfl (zam (av := .xs a0) rfl ?_)
    obtain ⟨y7, hy7, h⟩ := zag h
    refine Gy_q rfl rfl rfl (zal (m_value_integer_ok _ _ hy7) Tryz.func106 (by kernel_rfl) (lc lf ln) (Gy_q rfl rfl rfl (zam (av := .xi a2) rfl (Gy_q rfl rfl rfl (op_leq rfl rfl (gq (zau rfl (av := .xb (decide (y7 ≤ a2))) rfl (qa (.xb (decide (y7 ≤ a2))) rfl (zad (zae ⟨_, h, s1 rfl⟩))))))))))
   ·replace h := ite_f h hc
    refine G_n rfl rfl (G_n rfl rfl (G_n rfl rfl (G_n rfl rfl (gq (zaj rfl (av := .xb false) rfl (qa (.xb false) rfl (zad (zae ⟨_, h, s1 rfl⟩))))))))
  ·replace h := ite_f h hc
   refine G_n rfl rfl (G_n rfl rfl (G_n rfl rfl (G_n rfl rfl (gq (zaj rfl (av := .xb false) rfl (qm (.xb false) rfl (G_n rfl rfl (G_n rfl rfl (G_n rfl rfl (G_n rfl rfl (gq (zaj rfl (av := .xb false) rfl (qa (.xb false) rfl (zad (zae ⟨_, h, s1 rfl⟩)))))))))))))))
 ·refine zax ?_
  obtain rfl := oi h
  refine ke (pt AF0 6 (.xb x6_j1)) [] rfl (s1 rfl) ⟨rfl, rfl⟩
theorem m_value_formed_ok (a0 : Int) (a1 : List (List UInt8)) (r : Bool) (h : m_value_formed a0 a1 = some r) : Pure Tryz.prog 121 [(.exact (.int .i64 a0)), (.row 1 zab a1)] (.exact (.bool r)) := by
 unfold m_value_formed at h
 refine Pure.ofFun (zar Tryz.func121 rfl Tryz.ntmps121 (by simp) rfl (res1 rfl) fun E hE => k_end (zac (kr (qa (.xb false) rfl (zad (zaa (zac (kr (qm (.row 1 zab a1) rfl (gq (zap (by kernel_rfl) rfl (qa (.xi (List.length a1 : Int)) rfl (zad (zaa (k_join0_0 h (AF0) ([]) (fun k1 h => ?_) (fun  h => ?_))))))))))))))))
 ·refine zac (kr (qm (.xi a0) rfl (zad (zaa (zaw (zac (kr (gq (op_eql rfl rfl (qa (.xb (decide (a0 = 3))) rfl (zad (zaa (kd (p := a0 = 3) rfl h (fun hc h => ?_) (fun hc h => ?_))))))))))))))
  ·refine zbc h (fun (x4_j43 : Bool) => (pt AF0 4 (.xb x4_j43))) (fun (x4_j43 : Bool) => []) (fun k43 h => ?_) (fun x4_j43 h => ?_)
   ·refine kr (qm (.xi (List.length a1 : Int)) rfl (gq (op_geq rfl rfl (qm (.xb (decide (2 ≤ (List.length a1 : Int)))) rfl (G_split (p := 2 ≤ (List.length a1 : Int)) 15 rfl (fun hc => ?_) (fun hc => ?_))))))
    ·replace h := ite_t h hc
     refine Gy_q rfl rfl rfl (zam (av := .xi (List.length a1 : Int)) rfl (Gy_q rfl rfl rfl (op_leq rfl rfl (gq (zau rfl (av := .xb (decide ((List.length a1 : Int) ≤ 8))) rfl (qa (.xb (decide ((List.length a1 : Int) ≤ 8))) rfl (zad (zae ⟨_, h, s1 rfl⟩))))))))
    ·replace h := ite_f h hc
     refine G_n rfl rfl (G_n rfl rfl (gq (zaj rfl (av := .xb false) rfl (qa (.xb false) rfl (zad (zae ⟨_, h, s1 rfl⟩))))))
   ·refine zax (zbb (zbj ?_))
    obtain rfl := oi h
    refine ke (pt AF0 4 (.xb x4_j43)) [] rfl (s1 rfl) ⟨rfl, rfl⟩
  ·refine zac (kr (gq (op_eql rfl rfl (qa (.xb (decide (a0 = 5))) rfl (zad (zaa (kd (p := a0 = 5) rfl h (fun hc h => ?_) (fun hc h => ?_))))))))
   ·refine zac (kr (qm (.row 1 zab a1) rfl ?_))
    obtain ⟨y44, hy44, h⟩ := zag h
    refine gq (zal (m_value_ascending_ok _ _ hy44) Tryz.func127 (by kernel_rfl) (lc lf ln) (qa (.xb y44) rfl (zad (zaa (zax (zbb (zbj ?_)))))))
    obtain rfl := oi h
    refine ke (pt AF0 4 (.xb y44)) [] rfl (s1 rfl) ⟨rfl, rfl⟩
   ·refine zac (kr (gq (op_eql rfl rfl (qa (.xb (decide (a0 = 6))) rfl (zad (zaa (kd (p := a0 = 6) rfl h (fun hc h => ?_) (fun hc h => ?_))))))))
    ·refine zac (kr (qa (.exact (.slice none 0 0)) rfl (zad (zaa (k_join1_1 h (fun (x6_j45 : List (List UInt8)) (v6_j45 : Value) => (pt (pt AF0 5 (.xi (List.length a1 : Int))) 6 (.exact v6_j45))) (fun (x6_j45 : List (List UInt8)) (v6_j45 : Value) => [vecT Tryz.prog 23 1 zab v6_j45 x6_j45]) (fun k45 h => ?_) (fun x6_j45 v6_j45 h => ?_))))))
     ·refine zac (kr (qa (.xi 0) rfl (zad (zaa (zaw (k_loop2_1 (m_value_formed_L4 a1 k45) (m_value_formed_B4 a1 k45) (fun _ _ => rfl) (fun m _ _ => rfl) h (fun (x6_l4 : List (List UInt8)) (x7_l4 : Int) (v6_l4 : Value) => (pt (pt (pt (pt AF0 1 (.row 1 zab a1)) 5 (.xi (List.length a1 : Int))) 6 (.exact v6_l4)) 7 (.xi x7_l4))) (fun (x6_l4 : List (List UInt8)) (x7_l4 : Int) (v6_l4 : Value) => [vecT Tryz.prog 23 1 zab v6_l4 x6_l4]) (.slice none 0 0) ?_ (fun rec4 x6_l4 x7_l4 v6_l4 h => ?_)))))))
      ·refine Sub.trans (SubU.to (SubU.nilT (P := Tryz.prog) (t := 23) (n := 1) (enc := zab))) (s4 rfl rfl rfl rfl)
      ·unfold m_value_formed_B4 at h
       refine zac (zac (kr (qm (.xi x7_l4) rfl (qm (.xi (List.length a1 : Int)) rfl (gq (op_lss rfl rfl (zad (zaa (kd (p := x7_l4 < (List.length a1 : Int)) rfl h (fun hc h => ?_) (fun hc h => ?_))))))))))
       ·refine zat (zaa (zac (zaw (kr (qm (.exact v6_l4) rfl (qm (.row 1 zab a1) rfl (qm (.xi x7_l4) rfl ?_)))))))
        obtain ⟨n62, h⟩ := zah h
        refine gq (zao (by kernel_rfl) rfl rfl n62.1 n62.2 (gq (zav (a := .xs (gi a1 x7_l4)) (by kernel_rfl) rfl rfl (gq (op_litT (n := 1) (enc := zab) [gi a1 x7_l4] (CellsAll.cons rfl CellsOf.str CellsAll.nil) rfl (by kernel_rfl) (LEss.cons (lc lf ln) LEss.nil) ?_)))))
        obtain ⟨n63, h⟩ := zah h
        refine G_l rfl (op_appT (by kernel_rfl) rfl rfl zbe n63 (fun v64 => qa (.exact v64) rfl (zad (zaz (zaa (kr (qm (.xi x7_l4) rfl (gq (op_add rfl rfl rfl (qa (.xi (i64 (x7_l4 + 2))) rfl (zad (zae ⟨_, _, v64, h, s4 rfl rfl rfl rfl⟩))))))))))))
       ·refine k_exit (kC_exit (kI_exit (kB_exit (zae ⟨_, v6_l4, h, s2 rfl rfl⟩))))
     ·refine zbc h (fun (x4_j65 : Bool) => (pt AF0 4 (.xb x4_j65))) (fun (x4_j65 : Bool) => []) (fun k65 h => ?_) (fun x4_j65 h => ?_)
      ·refine kr (qm (.xi (List.length a1 : Int)) rfl (gq (op_rem rfl rfl (by decide) rfl (gq (op_eql rfl rfl (qm (.xb (decide ((Int.tmod (List.length a1 : Int) 2) = 0))) rfl (G_split (p := (Int.tmod (List.length a1 : Int) 2) = 0) 40 rfl (fun hc => ?_) (fun hc => ?_))))))))
       ·replace h := ite_t h hc
        refine Gy_q rfl rfl rfl (zam (av := .exact v6_j45) rfl (G_sub rfl (SubU.freezeT2 (s1 := 6) (s2 := 41) rfl rfl zay) ?_))
        obtain ⟨y67, hy67, h⟩ := zag h
        refine Gy_q rfl rfl rfl (zal (m_value_ascending_ok _ _ hy67) Tryz.func127 (by kernel_rfl) (lc lf ln) (gq (zau rfl (av := .xb y67) rfl (qa (.xb y67) rfl (zad (zae ⟨_, h, s1 rfl⟩))))))
       ·replace h := ite_f h hc
        refine G_n rfl rfl (G_n rfl rfl (gq (zaj rfl (av := .xb false) rfl (qa (.xb false) rfl (zad (zae ⟨_, h, ?_⟩))))))
        refine Sub.trans (SubU.to SubU.drop) (s1 rfl)
      ·refine zax (zbb (zbj ?_))
       obtain rfl := oi h
       refine ke (pt AF0 4 (.xb x4_j65)) [] rfl (s1 rfl) ⟨rfl, rfl⟩
    ·refine zac (kr (gq (op_eql rfl rfl (qa (.xb (decide (a0 = 7))) rfl (zad (zaa (kd (p := a0 = 7) rfl h (fun hc h => ?_) (fun hc h => ?_))))))))
     ·refine zbc h (fun (x4_j68 : Bool) => (pt AF0 4 (.xb x4_j68))) (fun (x4_j68 : Bool) => []) (fun k68 h => ?_) (fun x4_j68 h => ?_)
      ·refine kr (qm (.xi (List.length a1 : Int)) rfl (gq (op_geq rfl rfl (qm (.xb (decide (1 ≤ (List.length a1 : Int)))) rfl (G_split (p := 1 ≤ (List.length a1 : Int)) 48 rfl (fun hc => ?_) (fun hc => ?_))))))
       ·replace h := ite_t h hc
        refine Gy_q rfl rfl rfl (zam (av := .xi (List.length a1 : Int)) rfl (Gy_q rfl rfl rfl (op_leq rfl rfl (gq (zau rfl (av := .xb (decide ((List.length a1 : Int) ≤ 9))) rfl (qm (.xb (decide ((List.length a1 : Int) ≤ 9))) rfl (G_split (p := (List.length a1 : Int) ≤ 9) 52 rfl (fun hc => ?_) (fun hc => ?_))))))))
        ·replace h := ite_t h hc
         refine Gy_q rfl rfl rfl (zam (av := .row 1 zab a1) rfl ?_)
         obtain ⟨n71, h⟩ := zah h
         refine Gy_q rfl rfl rfl (zao (by kernel_rfl) rfl rfl n71.1 n71.2 (Gy_q rfl rfl rfl (zav (a := .xs (gi a1 0)) (by kernel_rfl) rfl rfl ?_)))
         obtain ⟨n72, h⟩ := zah h
         refine Gy_q rfl rfl rfl (op_index_str (by kernel_rfl) rfl rfl n72.1 n72.2 (Gy_q rfl rfl rfl (op_eqlU (a := (gi (gi a1 0) 0)) (b := 10) rfl rfl (gq (zau rfl (av := .xb (decide ((gi (gi a1 0) 0) = 10))) rfl (qa (.xb (decide ((gi (gi a1 0) 0) = 10))) rfl (zad (zae ⟨_, h, s1 rfl⟩))))))))
        ·replace h := ite_f h hc
         refine G_n rfl rfl (G_n rfl rfl (G_n rfl rfl (G_n rfl rfl (G_n rfl rfl (gq (zaj rfl (av := .xb false) rfl (qa (.xb false) rfl (zad (zae ⟨_, h, s1 rfl⟩)))))))))
       ·replace h := ite_f h hc
        refine G_n rfl rfl (G_n rfl rfl (gq (zaj rfl (av := .xb false) rfl (qm (.xb false) rfl (G_n rfl rfl (G_n rfl rfl (G_n rfl rfl (G_n rfl rfl (G_n rfl rfl (gq (zaj rfl (av := .xb false) rfl (qa (.xb false) rfl (zad (zae ⟨_, h, s1 rfl⟩))))))))))))))
      ·refine zax (zbb (zbj ?_))
       obtain rfl := oi h
       refine ke (pt AF0 4 (.xb x4_j68)) [] rfl (s1 rfl) ⟨rfl, rfl⟩
     ·refine zac (kr (gq (op_eql rfl rfl (qa (.xb (decide (a0 = 8))) rfl (zad (zaa (kd (p := a0 = 8) rfl h (fun hc h => ?_) (fun hc h => ?_))))))))
      ·refine zbc h (fun (x4_j73 : Bool) => (pt AF0 4 (.xb x4_j73))) (fun (x4_j73 : Bool) => []) (fun k73 h => ?_) (fun x4_j73 h => ?_)
       ·refine kr (qm (.xi (List.length a1 : Int)) rfl (gq (op_geq rfl rfl (qm (.xb (decide (1 ≤ (List.length a1 : Int)))) rfl (G_split (p := 1 ≤ (List.length a1 : Int)) 63 rfl (fun hc => ?_) (fun hc => ?_))))))
        ·replace h := ite_t h hc
         refine Gy_q rfl rfl rfl (zam (av := .xi (List.length a1 : Int)) rfl (Gy_q rfl rfl rfl (op_leq rfl rfl (gq (zau rfl (av := .xb (decide ((List.length a1 : Int) ≤ 33))) rfl (qm (.xb (decide ((List.length a1 : Int) ≤ 33))) rfl (G_split (p := (List.length a1 : Int) ≤ 33) 67 rfl (fun hc => ?_) (fun hc => ?_))))))))
         ·replace h := ite_t h hc
          refine Gy_q rfl rfl rfl (zam (av := .row 1 zab a1) rfl ?_)
          obtain ⟨n76, h⟩ := zah h
          refine Gy_q rfl rfl rfl (zao (by kernel_rfl) rfl rfl n76.1 n76.2 (Gy_q rfl rfl rfl (zav (a := .xs (gi a1 0)) (by kernel_rfl) rfl rfl ?_)))
          obtain ⟨y77, hy77, h⟩ := zag h
          refine Gy_q rfl rfl rfl (zal (m_value_between_ok _ _ _ _ hy77) Tryz.func128 (by kernel_rfl) (lc lf (lc lf (lc lf ln))) (gq (zau rfl (av := .xb y77) rfl (qa (.xb y77) rfl (zad (zae ⟨_, h, s1 rfl⟩))))))
         ·replace h := ite_f h hc
          refine G_n rfl rfl (G_n rfl rfl (G_n rfl rfl (G_n rfl rfl (gq (zaj rfl (av := .xb false) rfl (qa (.xb false) rfl (zad (zae ⟨_, h, s1 rfl⟩))))))))
        ·replace h := ite_f h hc
         refine G_n rfl rfl (G_n rfl rfl (gq (zaj rfl (av := .xb false) rfl (qm (.xb false) rfl (G_n rfl rfl (G_n rfl rfl (G_n rfl rfl (G_n rfl rfl (gq (zaj rfl (av := .xb false) rfl (qa (.xb false) rfl (zad (zae ⟨_, h, s1 rfl⟩)))))))))))))
       ·refine zax (zbb (zbj ?_))
        obtain rfl := oi h
        refine ke (pt AF0 4 (.xb x4_j73)) [] rfl (s1 rfl) ⟨rfl, rfl⟩
      ·refine zac (kr (gq (op_eql rfl rfl (qa (.xb (decide (a0 = 9))) rfl (zad (zaa (kd (p := a0 = 9) rfl h (fun hc h => ?_) (fun hc h => ?_))))))))
       ·refine zbc h (fun (x4_j78 : Bool) => (pt AF0 4 (.xb x4_j78))) (fun (x4_j78 : Bool) => []) (fun k78 h => ?_) (fun x4_j78 h => ?_)
        ·refine kr (qm (.xi (List.length a1 : Int)) rfl (gq (op_geq rfl rfl (qm (.xb (decide (1 ≤ (List.length a1 : Int)))) rfl (G_split (p := 1 ≤ (List.length a1 : Int)) 77 rfl (fun hc => ?_) (fun hc => ?_))))))
         ·replace h := ite_t h hc
          refine Gy_q rfl rfl rfl (zam (av := .row 1 zab a1) rfl ?_)
          obtain ⟨n81, h⟩ := zah h
          refine Gy_q rfl rfl rfl (zao (by kernel_rfl) rfl rfl n81.1 n81.2 (Gy_q rfl rfl rfl (zav (a := .xs (gi a1 0)) (by kernel_rfl) rfl rfl ?_)))
          obtain ⟨y82, hy82, h⟩ := zag h
          refine Gy_q rfl rfl rfl (zal (m_value_between_ok _ _ _ _ hy82) Tryz.func128 (by kernel_rfl) (lc lf (lc lf (lc lf ln))) (gq (zau rfl (av := .xb y82) rfl (qa (.xb y82) rfl (zad (zae ⟨_, h, s1 rfl⟩))))))
         ·replace h := ite_f h hc
          refine G_n rfl rfl (G_n rfl rfl (G_n rfl rfl (G_n rfl rfl (gq (zaj rfl (av := .xb false) rfl (qa (.xb false) rfl (zad (zae ⟨_, h, s1 rfl⟩))))))))
        ·refine zax (zbb (zbj ?_))
         obtain rfl := oi h
         refine ke (pt AF0 4 (.xb x4_j78)) [] rfl (s1 rfl) ⟨rfl, rfl⟩
       ·refine zat (zaz (zae ⟨h, Sub.of_le lt0⟩))
 ·refine zac (kr (qa (.xb true) rfl (zad (zaa (zax ?_)))))
  obtain rfl := oi h
  refine ke (pt AF0 4 (.xb true)) [] rfl (s1 rfl) ⟨rfl, rfl⟩
theorem m_value_long_ok (self_value_length : (List UInt8) → Int → Option Int) (hself_value_length : ∀ (a0 : List UInt8) (a1 : Int) (r : Int), self_value_length a0 a1 = some r → Pure Tryz.prog 80 [(.exact (.string (bs a0))), (.exact (.int .i64 a1))] (.exact (.int .i64 r))) (a0 : List UInt8) (a1 : Int) (r : Int) (h : m_value_long self_value_length a0 a1 = some r) : Pure Tryz.prog 107 [(.exact (.string (bs a0))), (.exact (.int .i64 a1))] (.exact (.int .i64 r)) := by
 unfold m_value_long at h
 refine Pure.ofFun (zar Tryz.func107 rfl Tryz.ntmps107 (by simp) rfl (res1 rfl) fun E hE => k_end (zac (kr (qa (.xi 0) rfl (zad (zaa (zac (zac (kr (qm (.xs a0) rfl (gq (op_lenS (by kernel_rfl) rfl (gq (op_lss rfl rfl (zad (zaa (kd (p := (List.length a0 : Int) < 3) rfl h (fun hc h => ?_) (fun hc h => ?_))))))))))))))))))
 ·refine zac (kr (qa (.xi 0) rfl (zad (zaa (zax (zba ?_))))))
  obtain rfl := oi h
  refine ke (pt AF0 4 (.xi 0)) [] rfl (s1 rfl) ⟨rfl, rfl⟩
 ·refine zat (zaa (zac (kr (qa (.xi 3) rfl (zad (zaa (zac (kr (qa (.exact (.slice none 0 0)) rfl (zad (zaa (k_join2_1 h (fun (x5_j1 : Int) (x6_j1 : List (List UInt8)) (v6_j1 : Value) => (pt (pt (pt AF0 0 (.xs a0)) 5 (.xi x5_j1)) 6 (.exact v6_j1))) (fun (x5_j1 : Int) (x6_j1 : List (List UInt8)) (v6_j1 : Value) => [vecT Tryz.prog 23 1 zab v6_j1 x6_j1]) (fun k1 h => ?_) (fun x5_j1 x6_j1 v6_j1 h => ?_)))))))))))))
  ·refine zac (k_plan [] [(0, 0), (0, 1), (0, 2), (0, 3), (0, 4), (0, 5), (0, 6), (0, 7), (0, 8)] hmixP (by kernel_rfl) (P_q zaq rfl (zam (av := .xs a0) rfl ?_)))
   obtain ⟨n20, h⟩ := zah h
   refine P_q zaq rfl (op_index_str (by kernel_rfl) rfl rfl n20.1 n20.2 (P_q zaq rfl (op_convInt (k := .i64) (r := (UInt8.toNat (gi a0 1) : Int)) (by kernel_rfl) rfl (wrap_u8 rfl _) (P_q zaq rfl (op_shl rfl rfl (by decide) rfl (P_q zaq rfl (zam (av := .xs a0) rfl ?_)))))))
   obtain ⟨n21, h⟩ := zah h
   refine P_q zaq rfl (op_index_str (by kernel_rfl) rfl rfl n21.1 n21.2 (P_q zaq rfl (op_convInt (k := .i64) (r := (UInt8.toNat (gi a0 2) : Int)) (by kernel_rfl) rfl (wrap_u8 rfl _) (P_q zaq rfl (op_or rfl rfl rfl (P_q zaq rfl (zam (av := .xi 0) rfl (P_nil (zaa (zaw (k_loop3_1 (m_value_long_L2 self_value_length a0 a1 k1) (m_value_long_B2 self_value_length a0 a1 k1) (fun _ _ _ => rfl) (fun m _ _ _ => rfl) h (fun (x5_l2 : Int) (x6_l2 : List (List UInt8)) (x19_l2 : Int) (v6_l2 : Value) => (pt (pt (pt (pt (pt (pt AF0 0 (.xs a0)) 1 (.xi a1)) 5 (.xi x5_l2)) 6 (.exact v6_l2)) 18 (.xi (bOr .i64 (i64 ((UInt8.toNat (gi a0 1) : Int) * 2 ^ min (Int.toNat 8) IntKind.i64.bits)) (UInt8.toNat (gi a0 2) : Int)))) 19 (.xi x19_l2))) (fun (x5_l2 : Int) (x6_l2 : List (List UInt8)) (x19_l2 : Int) (v6_l2 : Value) => [vecT Tryz.prog 23 1 zab v6_l2 x6_l2]) (.slice none 0 0) ?_ (fun rec2 x5_l2 x6_l2 x19_l2 v6_l2 h => ?_))))))))))))
   ·refine Sub.trans (SubU.to (SubU.nilT (P := Tryz.prog) (t := 23) (n := 1) (enc := zab))) (so (l4 rfl rfl rfl rfl (lq rfl (lq rfl lt0))))
   ·unfold m_value_long_B2 at h
    refine zac (kr (gq (op_lss rfl rfl (zad (zaa (zac (kd (p := x19_l2 < (bOr .i64 (i64 ((UInt8.toNat (gi a0 1) : Int) * 2 ^ min (Int.toNat 8) IntKind.i64.bits)) (UInt8.toNat (gi a0 2) : Int))) rfl h (fun hc h => ?_) (fun hc h => ?_))))))))
    ·refine zat (zaa (zac (zaw (zac (kr (qm (.xs a0) rfl (qm (.xi x5_l2) rfl ?_)))))))
     obtain ⟨n32, h⟩ := zah h
     refine gq (op_slice_strd (by kernel_rfl) rfl (bnd_some rfl) bnd_none n32.1 n32.2 (Int.le_refl _) (qm (.xi a1) rfl (gq (op_add rfl rfl rfl ?_))))
     obtain ⟨y33, hy33, h⟩ := zag h
     refine gq (zal (hself_value_length _ _ _ hy33) Tryz.func80 (by kernel_rfl) (lc lf (lc lf ln)) (qa (.xi y33) rfl (zad (zaa (zac (zac (kr (qm (.xi y33) rfl (gq (op_eql rfl rfl (zad (zaa (kd (p := y33 = 0) rfl h (fun hc h => ?_) (fun hc h => ?_))))))))))))))
     ·refine zac (kr (qa (.xi 0) rfl (zad (zaa (zax (zba (zbb (zba (zbj (zbb (zbj ?_)))))))))))
      obtain rfl := oi h
      refine ke (pt AF0 4 (.xi 0)) [] rfl (Sub.trans (SubU.to SubU.drop) (s1 rfl)) ⟨rfl, rfl⟩
     ·refine zat (zaa (zac (kr (qm (.exact v6_l2) rfl (qm (.xs a0) rfl (qm (.xi x5_l2) rfl (qm (.xi x5_l2) rfl (qm (.xi y33) rfl (gq (op_add rfl rfl rfl ?_))))))))))
      obtain ⟨n34, h⟩ := zah h
      refine gq (op_slice_str (by kernel_rfl) rfl (bnd_some rfl) (bnd_some rfl) n34.1 n34.2.1 n34.2.2 (gq (op_litT (n := 1) (enc := zab) [List.take (Int.toNat (i64 (x5_l2 + y33)) - Int.toNat x5_l2) (List.drop (Int.toNat x5_l2) a0)] (CellsAll.cons rfl CellsOf.str CellsAll.nil) rfl (by kernel_rfl) (LEss.cons (lc lf ln) LEss.nil) ?_)))
      obtain ⟨n35, h⟩ := zah h
      refine G_l rfl (op_appT (by kernel_rfl) rfl rfl zbe n35 (fun v36 => qa (.exact v36) rfl (zad (zaa (kr (qm (.xi x5_l2) rfl (qm (.xi y33) rfl (gq (op_add rfl rfl rfl (qa (.xi (i64 (x5_l2 + y33))) rfl (zad (zaz (zaa (kr (gq (op_add rfl rfl rfl (qm (.xi (i64 (x19_l2 + 1))) rfl (zad ?_))))))))))))))))))
      refine zae ⟨_, _, _, v36, h, so (l4 rfl rfl rfl rfl (lq rfl (lq rfl lt0)))⟩
    ·refine k_exit (kC_exit (kI_exit (kB_exit (zae ⟨_, _, v6_l2, h, s3 rfl rfl rfl⟩))))
  ·refine zac (zac (kr (qm (.xs a0) rfl ?_)))
   obtain ⟨n37, h⟩ := zah h
   refine gq (op_index_str (by kernel_rfl) rfl rfl n37.1 n37.2 (gq (op_convInt (k := .i64) (r := (UInt8.toNat (gi a0 0) : Int)) (by kernel_rfl) rfl (wrap_u8 rfl _) (qm (.exact v6_j1) rfl (G_sub rfl (SubU.freezeT2 (s1 := 6) (s2 := 45) rfl rfl zay) ?_)))))
   obtain ⟨y38, hy38, h⟩ := zag h
   refine gq (zal (m_value_formed_ok _ _ _ hy38) Tryz.func121 (by kernel_rfl) (lc lf (lc lf ln)) (gq (op_not rfl (zad (zaa (kb (p := !y38) rfl h (fun hc h => ?_) (fun hc h => ?_)))))))
   ·refine zac (kr (qa (.xi 0) rfl (zad (zaa (zax (zba ?_))))))
    obtain rfl := oi h
    refine ke (pt AF0 4 (.xi 0)) [] rfl (s1 rfl) ⟨rfl, rfl⟩
   ·refine zat (zaa (zac (kr (qm (.xi x5_j1) rfl (qa (.xi x5_j1) rfl (zad (zaa (zax ?_))))))))
    obtain rfl := oi h
    refine ke (pt AF0 4 (.xi x5_j1)) [] rfl (s1 rfl) ⟨rfl, rfl⟩
theorem m_value_length_F_ok (self_value_length : (List UInt8) → Int → Option Int) (hself_value_length : ∀ (a0 : List UInt8) (a1 : Int) (r : Int), self_value_length a0 a1 = some r → Pure Tryz.prog 80 [(.exact (.string (bs a0))), (.exact (.int .i64 a1))] (.exact (.int .i64 r))) (a0 : List UInt8) (a1 : Int) (r : Int) (h : m_value_length_F self_value_length a0 a1 = some r) : Pure Tryz.prog 80 [(.exact (.string (bs a0))), (.exact (.int .i64 a1))] (.exact (.int .i64 r)) := by
 unfold m_value_length_F at h
 refine Pure.ofFun (zar Tryz.func80 rfl Tryz.ntmps80 (by simp) rfl (res1 rfl) fun E hE => k_end (zac (kr (qa (.xi 0) rfl (zad (zaa (zac (zbc h (fun (x11_j3 : Bool) => (pt (pt (pt AF0 0 (.xs a0)) 1 (.xi a1)) 11 (.xb x11_j3))) (fun (x11_j3 : Bool) => []) (fun k3 h => ?_) (fun x11_j3 h => ?_)))))))))
 ·refine kr (qm (.xs a0) rfl (gq (op_eqlS rfl rfl (qm (.xb (decide (a0 = ([] : List UInt8)))) rfl (G_split (p := a0 = ([] : List UInt8)) 8 rfl (fun hc => ?_) (fun hc => ?_))))))
  ·replace h := ite_t h hc
   refine G_n rfl rfl (G_n rfl rfl (gq (zau rfl (av := .xb true) rfl (zad (zae ⟨_, h, s3 rfl rfl rfl⟩)))))
  ·replace h := ite_f h hc
   refine Gy_q rfl rfl rfl (zam (av := .xi a1) rfl (Gy_q rfl rfl rfl (op_gtr rfl rfl (gq (zaj rfl (av := .xb (decide (32 < a1))) rfl (zad (zae ⟨_, h, s3 rfl rfl rfl⟩)))))))
 ·refine kb (p := x11_j3) rfl h (fun hc h => ?_) (fun hc h => ?_)
  ·refine zac (kr (qa (.xi 0) rfl (zad (zaa (zax (zba ?_))))))
   obtain rfl := oi h
   refine ke (pt AF0 4 (.xi 0)) [] rfl (s1 rfl) ⟨rfl, rfl⟩
  ·refine zat (zaa (zac (kr (qa (.xi 0) rfl (zad (zaa (zbc h (fun (x5_j4 : Int) => (pt (pt AF0 0 (.xs a0)) 5 (.xi x5_j4))) (fun (x5_j4 : Int) => []) (fun k4 h => ?_) (fun x5_j4 h => ?_))))))))
   ·refine zac (kr (qm (.xs a0) rfl ?_))
    obtain ⟨n15, h⟩ := zah h
    refine gq (op_index_str (by kernel_rfl) rfl rfl n15.1 n15.2 (zad (zaa (zaw (zac (kr (gq (op_eqlU (a := (gi a0 0)) (b := 1) rfl rfl (qa (.xb (decide ((gi a0 0) = 1))) rfl (zad (zaa (kd (p := (gi a0 0) = 1) rfl h (fun hc h => ?_) (fun hc h => ?_)))))))))))))
    ·refine kr (qa (.xi 9) rfl (zad (zaz (zae ⟨_, h, s2 rfl rfl⟩))))
    ·refine zac (kr (gq (op_eqlU (a := (gi a0 0)) (b := 2) rfl rfl (qa (.xb (decide ((gi a0 0) = 2))) rfl (zad (zaa (kd (p := (gi a0 0) = 2) rfl h (fun hc h => ?_) (fun hc h => ?_))))))))
     ·refine zac (zbc h (fun (x25_j20 : Bool) => (pt (pt AF0 0 (.xs a0)) 25 (.xb x25_j20))) (fun (x25_j20 : Bool) => []) (fun k20 h => ?_) (fun x25_j20 h => ?_))
      ·refine kr (qm (.xs a0) rfl (gq (op_lenS (by kernel_rfl) rfl (gq (op_lss rfl rfl (qm (.xb (decide ((List.length a0 : Int) < 2))) rfl (G_split (p := (List.length a0 : Int) < 2) 21 rfl (fun hc => ?_) (fun hc => ?_))))))))
       ·replace h := ite_t h hc
        refine G_n rfl rfl (G_n rfl rfl (G_n rfl rfl (gq (zau rfl (av := .xb true) rfl (zad (zae ⟨_, h, s2 rfl rfl⟩))))))
       ·replace h := ite_f h hc
        refine Gy_q rfl rfl rfl (zam (av := .xs a0) rfl ?_)
        obtain ⟨n22, h⟩ := zah h
        refine Gy_q rfl rfl rfl (op_index_str (by kernel_rfl) rfl rfl n22.1 n22.2 (Gy_q rfl rfl rfl (op_gtrU (a := (gi a0 1)) (b := 1) rfl rfl (gq (zaj rfl (av := .xb (decide (1 < (gi a0 1)))) rfl (zad (zae ⟨_, h, s2 rfl rfl⟩)))))))
      ·refine kb (p := x25_j20) rfl h (fun hc h => ?_) (fun hc h => ?_)
       ·refine zac (kr (qa (.xi 0) rfl (zad (zaa (zax (zba (zbb (zbj ?_))))))))
        obtain rfl := oi h
        refine ke (pt AF0 4 (.xi 0)) [] rfl (s1 rfl) ⟨rfl, rfl⟩
       ·refine zat (zaa (kr (qa (.xi 2) rfl (zad (zaz (zae ⟨_, h, s2 rfl rfl⟩))))))
     ·refine zac (kr (gq (op_eqlU (a := (gi a0 0)) (b := 10) rfl rfl (qa (.xb (decide ((gi a0 0) = 10))) rfl (zad (zaa (kd (p := (gi a0 0) = 10) rfl h (fun hc h => ?_) (fun hc h => ?_))))))))
      ·refine kr (qa (.xi 3) rfl (zad (zaz (zae ⟨_, h, s2 rfl rfl⟩))))
      ·refine zbc h (fun (x28_j23 : Bool) => (pt (pt (pt (pt AF0 0 (.xs a0)) 1 (.xi a1)) 5 (.xi 0)) 28 (.xb x28_j23))) (fun (x28_j23 : Bool) => []) (fun k23 h => ?_) (fun x28_j23 h => ?_)
       ·refine zac (kr (gq (op_eqlU (a := (gi a0 0)) (b := 3) rfl rfl (qa (.xb (decide ((gi a0 0) = 3))) rfl (zad (zaa (kd (p := (gi a0 0) = 3) rfl h (fun hc h => ?_) (fun hc h => ?_))))))))
        ·refine zat (zae ⟨_, h, s4 rfl rfl rfl rfl⟩)
        ·refine zac (kr (gq (op_eqlU (a := (gi a0 0)) (b := 4) rfl rfl (qa (.xb (decide ((gi a0 0) = 4))) rfl (zad (zaa (kd (p := (gi a0 0) = 4) rfl h (fun hc h => ?_) (fun hc h => ?_))))))))
         ·refine zat (zae ⟨_, h, s4 rfl rfl rfl rfl⟩)
         ·refine zac (kr (gq (op_eqlU (a := (gi a0 0)) (b := 5) rfl rfl (qa (.xb (decide ((gi a0 0) = 5))) rfl (zad (zaa (kd (p := (gi a0 0) = 5) rfl h (fun hc h => ?_) (fun hc h => ?_))))))))
          ·refine zat (zae ⟨_, h, s4 rfl rfl rfl rfl⟩)
          ·refine zac (kr (gq (op_eqlU (a := (gi a0 0)) (b := 6) rfl rfl (qa (.xb (decide ((gi a0 0) = 6))) rfl (zad (zaa (kd (p := (gi a0 0) = 6) rfl h (fun hc h => ?_) (fun hc h => ?_))))))))
           ·refine zat (zae ⟨_, h, s4 rfl rfl rfl rfl⟩)
           ·refine zac (kr (gq (op_eqlU (a := (gi a0 0)) (b := 7) rfl rfl (qa (.xb (decide ((gi a0 0) = 7))) rfl (zad (zaa (kd (p := (gi a0 0) = 7) rfl h (fun hc h => ?_) (fun hc h => ?_))))))))
            ·refine zat (zae ⟨_, h, s4 rfl rfl rfl rfl⟩)
            ·refine zac (kr (gq (op_eqlU (a := (gi a0 0)) (b := 8) rfl rfl (qa (.xb (decide ((gi a0 0) = 8))) rfl (zad (zaa (kd (p := (gi a0 0) = 8) rfl h (fun hc h => ?_) (fun hc h => ?_))))))))
             ·refine zat (zae ⟨_, h, s4 rfl rfl rfl rfl⟩)
             ·refine kr (gq (op_eqlU (a := (gi a0 0)) (b := 9) rfl rfl (qa (.xb (decide ((gi a0 0) = 9))) rfl (zad (zae ⟨_, h, s4 rfl rfl rfl rfl⟩)))))
       ·refine kb (p := x28_j23) rfl h (fun hc h => ?_) (fun hc h => ?_)
        ·refine zac (kr (qm (.xs a0) rfl (qm (.xi a1) rfl ?_)))
         obtain ⟨y24, hy24, h⟩ := zag h
         refine gq (zal (m_value_long_ok self_value_length hself_value_length _ _ _ hy24) Tryz.func107 (by kernel_rfl) (lc lf (lc lf ln)) (qa (.xi y24) rfl (zad (zaa (zax (zbb (zbj ?_)))))))
         obtain rfl := oi h
         refine ke (pt AF0 4 (.xi y24)) [] rfl (s1 rfl) ⟨rfl, rfl⟩
        ·refine zat (zaz (zae ⟨_, h, s2 rfl rfl⟩))
   ·refine zac (zac (kr (qm (.xi x5_j4) rfl (qm (.xs a0) rfl (gq (op_lenS (by kernel_rfl) rfl (gq (op_gtr rfl rfl (zad (zaa (kd (p := (List.length a0 : Int) < x5_j4) rfl h (fun hc h => ?_) (fun hc h => ?_))))))))))))
    ·refine zac (kr (qa (.xi 0) rfl (zad (zaa (zax (zba ?_))))))
     obtain rfl := oi h
     refine ke (pt AF0 4 (.xi 0)) [] rfl (s1 rfl) ⟨rfl, rfl⟩
    ·refine zat (zaa (zac (kr (qm (.xi x5_j4) rfl (qa (.xi x5_j4) rfl (zad (zaa (zax ?_))))))))
     obtain rfl := oi h
     refine ke (pt AF0 4 (.xi x5_j4)) [] rfl (s1 rfl) ⟨rfl, rfl⟩
theorem m_value_length_S_ok : ∀ n : Nat, (∀ (a0 : List UInt8) (a1 : Int) (r : Int), m_value_length_S n a0 a1 = some r → Pure Tryz.prog 80 [(.exact (.string (bs a0))), (.exact (.int .i64 a1))] (.exact (.int .i64 r)))
  | 0 => (fun _ _ _ h => by have h' : (none : Option _) = some _ := h; cases h')
  | n + 1 => by
    have ih := m_value_length_S_ok n
    exact fun a0 a1 r h => m_value_length_F_ok (m_value_length_S n) ih a0 a1 r h
theorem m_value_length_ok (a0 : List UInt8) (a1 : Int) (r : Int) (h : m_value_length a0 a1 = some r) : Pure Tryz.prog 80 [(.exact (.string (bs a0))), (.exact (.int .i64 a1))] (.exact (.int .i64 r)) := (m_value_length_S_ok FU) a0 a1 r h
theorem m_value_Valid_ok (a0 : List UInt8) (r : Bool) (h : m_value_Valid a0 = some r) : Pure Tryz.prog 37 [(.exact (.string (bs a0)))] (.exact (.bool r)) := by
 unfold m_value_Valid at h
 refine Pure.ofFun (zar Tryz.func37 rfl Tryz.ntmps37 (by simp) rfl (res1 rfl) fun E hE => k_end (zac (kr (qa (.xb false) rfl (zad (zaa (zbc h (fun (x2_j1 : Bool) => (pt AF0 2 (.xb x2_j1))) (fun (x2_j1 : Bool) => []) (fun k1 h => ?_) (fun x2_j1 h => ?_))))))))
 ·refine kr (qm (.xs a0) rfl (gq (op_neqS rfl rfl (qm (.xb (decide (¬ a0 = ([] : List UInt8)))) rfl (G_split (p := ¬ a0 = ([] : List UInt8)) 5 rfl (fun hc => ?_) (fun hc => ?_))))))
  ·replace h := ite_t h hc
   refine Gy_q rfl rfl rfl (zam (av := .xs a0) rfl (Gy_q rfl rfl rfl (op_lenS (by kernel_rfl) rfl (Gy_q rfl rfl rfl (op_leq rfl rfl (gq (zau rfl (av := .xb (decide ((List.length a0 : Int) ≤ 131072))) rfl (qm (.xb (decide ((List.length a0 : Int) ≤ 131072))) rfl (G_split (p := (List.length a0 : Int) ≤ 131072) 10 rfl (fun hc => ?_) (fun hc => ?_))))))))))
   ·replace h := ite_t h hc
    refine Gy_q rfl rfl rfl (zam (av := .xs a0) rfl ?_)
    obtain ⟨y3, hy3, h⟩ := zag h
    refine Gy_q rfl rfl rfl (zal (m_value_length_ok _ _ _ hy3) Tryz.func80 (by kernel_rfl) (lc lf (lc lf ln)) (Gy_q rfl rfl rfl (zam (av := .xs a0) rfl (Gy_q rfl rfl rfl (op_lenS (by kernel_rfl) rfl (Gy_q rfl rfl rfl (op_eql rfl rfl (gq (zau rfl (av := .xb (decide (y3 = (List.length a0 : Int)))) rfl (qa (.xb (decide (y3 = (List.length a0 : Int)))) rfl (zad (zae ⟨_, h, s1 rfl⟩))))))))))))
   ·replace h := ite_f h hc
    refine G_n rfl rfl (G_n rfl rfl (G_n rfl rfl (G_n rfl rfl (G_n rfl rfl (gq (zaj rfl (av := .xb false) rfl (qa (.xb false) rfl (zad (zae ⟨_, h, s1 rfl⟩)))))))))
  ·replace h := ite_f h hc
   refine G_n rfl rfl (G_n rfl rfl (G_n rfl rfl (gq (zaj rfl (av := .xb false) rfl (qm (.xb false) rfl (G_n rfl rfl (G_n rfl rfl (G_n rfl rfl (G_n rfl rfl (G_n rfl rfl (gq (zaj rfl (av := .xb false) rfl (qa (.xb false) rfl (zad (zae ⟨_, h, s1 rfl⟩)))))))))))))))
 ·refine zax ?_
  obtain rfl := oi h
  refine ke (pt AF0 2 (.xb x2_j1)) [] rfl (s1 rfl) ⟨rfl, rfl⟩
theorem m_value_Kind_ok (a0 : List UInt8) (r : Int) (h : m_value_Kind a0 = some r) : Pure Tryz.prog 31 [(.exact (.string (bs a0)))] (.exact (.int .i64 r)) := by
 unfold m_value_Kind at h
 refine Pure.ofFun (zar Tryz.func31 rfl Tryz.ntmps31 (by simp) rfl (res1 rfl) fun E hE => k_end (zac (kr (qa (.xi 0) rfl (zad (zaa (zac (zac (kr (qm (.xs a0) rfl ?_))))))))))
 obtain ⟨y1, hy1, h⟩ := zag h
 refine gq (zal (m_value_Valid_ok _ _ hy1) Tryz.func37 (by kernel_rfl) (lc lf ln) (gq (op_not rfl (zad (zaa (kb (p := !y1) rfl h (fun hc h => ?_) (fun hc h => ?_)))))))
 ·refine zac (kr (qa (.xi 0) rfl (zad (zaa (zax (zba ?_))))))
  obtain rfl := oi h
  refine ke (pt AF0 2 (.xi 0)) [] rfl (s1 rfl) ⟨rfl, rfl⟩
 ·refine zat (zaa (zac (kr (qm (.xs a0) rfl ?_))))
  obtain ⟨n2, h⟩ := zah h
  refine gq (op_index_str (by kernel_rfl) rfl rfl n2.1 n2.2 (gq (op_convInt (k := .i64) (r := (UInt8.toNat (gi a0 0) : Int)) (by kernel_rfl) rfl (wrap_u8 rfl _) (qa (.xi (UInt8.toNat (gi a0 0) : Int)) rfl (zad (zaa (zax ?_)))))))
  obtain rfl := oi h
  refine ke (pt AF0 2 (.xi (UInt8.toNat (gi a0 0) : Int))) [] rfl (s1 rfl) ⟨rfl, rfl⟩
theorem m_dataspace_Valid_ok (a0 : List ((List UInt8) × Int × (List Int) × (List (List UInt8)))) (r : Bool) (h : m_dataspace_Valid a0 = some r) : Pure Tryz.prog 30 [(.row 4 zaf a0)] (.exact (.bool r)) := by
 unfold m_dataspace_Valid at h
 refine Pure.ofFun (zar Tryz.func30 rfl Tryz.ntmps30 (by simp) rfl (res1 rfl) fun E hE => k_end (zac (kr (qa (.xb false) rfl (zad (zaa (k_join0_0 h ((pt AF0 0 (.row 4 zaf a0))) ([]) (fun k1 h => ?_) (fun  h => ?_))))))))
 ·refine zac (kr (qm (.row 4 zaf a0) rfl (gq (zap (by kernel_rfl) rfl (qm (.xi 0) rfl (zad (zaa (zaw (k_loop1_0 (m_dataspace_Valid_L8 a0 k1) (m_dataspace_Valid_B8 a0 k1) (fun _ => rfl) (fun m _ => rfl) h (fun (x9_l8 : Int) => (pt (pt (pt (pt AF0 0 (.row 4 zaf a0)) 7 (.row 4 zaf a0)) 8 (.xi (List.length a0 : Int))) 9 (.xi x9_l8))) (fun (x9_l8 : Int) => []) ?_ (fun rec8 x9_l8 h => ?_))))))))))
  ·exact s4 rfl rfl rfl rfl
  ·unfold m_dataspace_Valid_B8 at h
   refine zac (kr (gq (op_lss rfl rfl (zad (zaa (zac (kd (p := x9_l8 < (List.length a0 : Int)) rfl h (fun hc h => ?_) (fun hc h => ?_))))))))
   ·refine zat (zaa (k_join0_0 h ((pt (pt (pt (pt AF0 0 (.row 4 zaf a0)) 7 (.row 4 zaf a0)) 8 (.xi (List.length a0 : Int))) 9 (.xi x9_l8))) ([]) (fun k338 h => ?_) (fun  h => ?_)))
    ·refine zaw (zac (kr ?_))
     obtain ⟨n372, h⟩ := zah h
     refine gq (zao (by kernel_rfl) rfl rfl n372.1 n372.2 (gq (op_loadNp (m := 4) (c' := zaf (gi a0 x9_l8)) (by kernel_rfl) rfl rfl rfl (G_l rfl (op_alloc (c := [.xs ((([], 0, [], []) : (List UInt8) × Int × (List Int) × (List (List UInt8))).1), .xi ((([], 0, [], []) : (List UInt8) × Int × (List Int) × (List (List UInt8))).2.1), .row 1 c_int ((([], 0, [], []) : (List UInt8) × Int × (List Int) × (List (List UInt8))).2.2.1), .row 1 zab ((([], 0, [], []) : (List UInt8) × Int × (List Int) × (List (List UInt8))).2.2.2)]) rfl (lc lf (lc lf (lc (row_nil (by decide)) (lc (row_nil (by decide)) ln)))) (fun b373 => G_l rfl (op_store_box (c' := [.xs ((gi a0 x9_l8).1), .xi ((gi a0 x9_l8).2.1), .row 1 c_int ((gi a0 x9_l8).2.2.1), .row 1 zab ((gi a0 x9_l8).2.2.2)]) (c3 := [.xs ((gi a0 x9_l8).1), .xi ((gi a0 x9_l8).2.1), .row 1 c_int ((gi a0 x9_l8).2.2.1), .row 1 zab ((gi a0 x9_l8).2.2.2)]) rfl rfl CellsOf.agg (lc lf (lc lf (lc lf (lc lf ln)))) (oc_c_api_Info _) (by kernel_rfl) (Nat.le_of_ble_eq_true rfl) rfl (zad (zaa (zac (zbc h (fun (x21_j376 : Bool) => (pt (pt (pt (pt (pt (pt AF0 0 (.row 4 zaf a0)) 4 (pA b373 0)) 7 (.row 4 zaf a0)) 8 (.xi (List.length a0 : Int))) 9 (.xi x9_l8)) 21 (.xb x21_j376))) (fun (x21_j376 : Bool) => [boxI 25 b373 [.xs ((gi a0 x9_l8).1), .xi ((gi a0 x9_l8).2.1), .row 1 c_int ((gi a0 x9_l8).2.2.1), .row 1 zab ((gi a0 x9_l8).2.2.2)]]) (fun k376 h => ?_) (fun x21_j376 h => ?_))))))))))))
     ·refine kr (gq (op_fieldAddr (o := 1) (by kernel_rfl) rfl (G_r rfl (op_load_box1 (a := .xi ((gi a0 x9_l8).2.1)) (by kernel_rfl) rfl rfl (gq (op_lss rfl rfl (qm (.xb (decide (((gi a0 x9_l8).2.1) < (-1)))) rfl (G_split (p := ((gi a0 x9_l8).2.1) < (-1)) 16 rfl (fun hc => ?_) (fun hc => ?_)))))))))
      ·replace h := ite_t h hc
       refine G_n rfl rfl (G_n rfl rfl (G_n rfl rfl (G_n rfl rfl (gq (zau rfl (av := .xb true) rfl (zad (zae ⟨_, h, so (l4 rfl rfl rfl rfl (lq rfl (lq rfl lt0)))⟩)))))))
      ·replace h := ite_f h hc
       refine Gy_q rfl rfl rfl (op_fieldAddr (o := 3) (by kernel_rfl) rfl (Gy_r rfl rfl rfl (op_load_box1 (a := .row 1 zab ((gi a0 x9_l8).2.2.2)) (by kernel_rfl) rfl rfl (Gy_q rfl rfl rfl (zap (by kernel_rfl) rfl (Gy_q rfl rfl rfl (op_gtr rfl rfl (gq (zaj rfl (av := .xb (decide (8 < (List.length ((gi a0 x9_l8).2.2.2) : Int)))) rfl (zad (zae ⟨_, h, so (l4 rfl rfl rfl rfl (lq rfl (lq rfl lt0)))⟩)))))))))))
     ·refine kb (p := x21_j376) rfl h (fun hc h => ?_) (fun hc h => ?_)
      ·refine zac (kr (qa (.xb false) rfl (zad (zaa (zax (zba (zbb (zbj (zbj (zbb (zbj ?_)))))))))))
       obtain rfl := oi h
       refine ke (pt AF0 2 (.xb false)) [] rfl (Sub.trans (SubU.to SubU.drop) (s1 rfl)) ⟨rfl, rfl⟩
      ·refine zat (zaa (zac (kr (gq (op_fieldAddr (o := 3) (by kernel_rfl) rfl (G_r rfl (op_load_box1 (a := .row 1 zab ((gi a0 x9_l8).2.2.2)) (by kernel_rfl) rfl rfl (gq (zap (by kernel_rfl) rfl (qm (.xi 0) rfl (zad (zaa (zaw (k_loop1_0 (m_dataspace_Valid_L14 a0 x9_l8 k338) (m_dataspace_Valid_B14 a0 x9_l8 k338) (fun _ => rfl) (fun m _ => rfl) h (fun (x25_l14 : Int) => (pt (pt (pt (pt (pt (pt (pt AF0 0 (.row 4 zaf a0)) 7 (.row 4 zaf a0)) 8 (.xi (List.length a0 : Int))) 9 (.xi x9_l8)) 23 (.row 1 zab ((gi a0 x9_l8).2.2.2))) 24 (.xi (List.length ((gi a0 x9_l8).2.2.2) : Int))) 25 (.xi x25_l14))) (fun (x25_l14 : Int) => []) ?_ (fun rec14 x25_l14 h => ?_)))))))))))))))
       ·refine Sub.trans (SubU.to SubU.drop) (so (l4 rfl rfl rfl rfl (lq rfl (lq rfl (lq rfl lt0)))))
       ·unfold m_dataspace_Valid_B14 at h
        refine zac (kr (gq (op_lss rfl rfl (zad (zaa (zac (kd (p := x25_l14 < (List.length ((gi a0 x9_l8).2.2.2) : Int)) rfl h (fun hc h => ?_) (fun hc h => ?_))))))))
        ·refine zat (zaa (zac (zaw (zac (kr ?_)))))
         obtain ⟨n400, h⟩ := zah h
         refine gq (zao (by kernel_rfl) rfl rfl n400.1 n400.2 (gq (zav (a := .xs (gi ((gi a0 x9_l8).2.2.2) x25_l14)) (by kernel_rfl) rfl rfl (qa (.xs (gi ((gi a0 x9_l8).2.2.2) x25_l14)) rfl (zad (zaa (zbc h (fun (x35_j401 : Bool) => (pt (pt (pt (pt (pt (pt (pt (pt AF0 0 (.row 4 zaf a0)) 7 (.row 4 zaf a0)) 8 (.xi (List.length a0 : Int))) 9 (.xi x9_l8)) 23 (.row 1 zab ((gi a0 x9_l8).2.2.2))) 24 (.xi (List.length ((gi a0 x9_l8).2.2.2) : Int))) 25 (.xi x25_l14)) 35 (.xb x35_j401))) (fun (x35_j401 : Bool) => []) (fun k401 h => ?_) (fun x35_j401 h => ?_))))))))
         ·refine kr (qm (.xs (gi ((gi a0 x9_l8).2.2.2) x25_l14)) rfl (gq (op_neqS rfl rfl (qm (.xb (decide (¬ (gi ((gi a0 x9_l8).2.2.2) x25_l14) = ([] : List UInt8)))) rfl (G_split (p := ¬ (gi ((gi a0 x9_l8).2.2.2) x25_l14) = ([] : List UInt8)) 31 rfl (fun hc => ?_) (fun hc => ?_))))))
          ·replace h := ite_t h hc
           refine Gy_q rfl rfl rfl (zam (av := .xs (gi ((gi a0 x9_l8).2.2.2) x25_l14)) rfl ?_)
           obtain ⟨y403, hy403, h⟩ := zag h
           refine Gy_q rfl rfl rfl (zal (m_value_Kind_ok _ _ hy403) Tryz.func31 (by kernel_rfl) (lc lf ln) (Gy_q rfl rfl rfl (op_neq rfl rfl (gq (zau rfl (av := .xb (decide (¬ y403 = 5))) rfl (zad (zae ⟨_, h, so (l4 rfl rfl rfl rfl (l4 rfl rfl rfl rfl lt0))⟩)))))))
          ·replace h := ite_f h hc
           refine G_n rfl rfl (G_n rfl rfl (G_n rfl rfl (gq (zaj rfl (av := .xb false) rfl (zad (zae ⟨_, h, so (l4 rfl rfl rfl rfl (l4 rfl rfl rfl rfl lt0))⟩))))))
         ·refine kb (p := x35_j401) rfl h (fun hc h => ?_) (fun hc h => ?_)
          ·refine zac (kr (qa (.xb false) rfl (zad (zaa (zax (zbb (zba (zbj (zbb (zbb (zbj (zbj (zbb (zbj ?_))))))))))))))
           obtain rfl := oi h
           refine ke (pt AF0 2 (.xb false)) [] rfl (s1 rfl) ⟨rfl, rfl⟩
          ·refine zat (zaz (zaa (kr (gq (op_add rfl rfl rfl (qm (.xi (i64 (x25_l14 + 1))) rfl (zad (zae ⟨_, h, so (l4 rfl rfl rfl rfl (lq rfl (lq rfl (lq rfl lt0))))⟩))))))))
        ·refine k_exit (kC_exit (kI_exit (kB_exit (zaz (zae ⟨h, s4 rfl rfl rfl rfl⟩)))))
    ·refine kr (gq (op_add rfl rfl rfl (qm (.xi (i64 (x9_l8 + 1))) rfl (zad (zae ⟨_, h, s4 rfl rfl rfl rfl⟩)))))
   ·refine k_exit (kC_exit (kI_exit (kB_exit (zae ⟨h, s1 rfl⟩))))
 ·refine zac (kr (qm (.row 4 zaf a0) rfl (gq (zap (by kernel_rfl) rfl (gq (op_leq rfl rfl (qa (.xb (decide ((List.length a0 : Int) ≤ 65536))) rfl (zad (zaa (zax ?_))))))))))
  obtain rfl := oi h
  refine ke (pt AF0 2 (.xb (decide ((List.length a0 : Int) ≤ 65536)))) [] rfl (s1 rfl) ⟨rfl, rfl⟩
theorem m_value_Parts_ok (a0 : List UInt8) (r : (List (List UInt8))) (h : m_value_Parts a0 = some r) : Pure Tryz.prog 39 [(.exact (.string (bs a0)))] (.row 1 zab r) := by
 unfold m_value_Parts at h
 refine Pure.ofFun (zar Tryz.func39 rfl Tryz.ntmps39 (by simp) rfl (res1 rfl) fun E hE => k_end (zac (kr (qa (.exact (.slice none 0 0)) rfl (zad (zaa (zac (zac (kr (qm (.xs a0) rfl ?_))))))))))
 obtain ⟨y1, hy1, h⟩ := zag h
 refine gq (zal (m_value_Kind_ok _ _ hy1) Tryz.func31 (by kernel_rfl) (lc lf ln) ?_)
 obtain ⟨y2, hy2, h⟩ := zag h
 refine gq (zal (m_value_simple_ok _ _ hy2) Tryz.func82 (by kernel_rfl) (lc lf ln) (zad (zaa (kb (p := y2) rfl h (fun hc h => ?_) (fun hc h => ?_)))))
 ·refine zac (kr (qa (.exact (.slice none 0 0)) rfl (zad (zaa (zax (zba ?_))))))
  obtain rfl := oi h
  refine ke (pt AF0 2 (.row 1 zab [])) [] rfl (so (AF.le_put (row_nil (by decide)) lt0)) ⟨rfl, rfl⟩
 ·refine zat (zaa (zac (kr (qm (.xs a0) rfl ?_))))
  obtain ⟨y3, hy3, h⟩ := zag h
  refine gq (zal (m_value_parts_ok _ _ hy3) Tryz.func83 (by kernel_rfl) (lc lf ln) (qa (.row 1 zab y3) rfl (zad (zaa (zax ?_)))))
  obtain rfl := oi h
  refine ke (pt AF0 2 (.row 1 zab y3)) [] rfl (s1 rfl) ⟨rfl, rfl⟩
theorem m_value_Number_ok (a0 : List UInt8) (r : Int) (h : m_value_Number a0 = some r) : Pure Tryz.prog 79 [(.exact (.string (bs a0)))] (.exact (.int .i64 r)) := by
 unfold m_value_Number at h
 refine Pure.ofFun (zar Tryz.func79 rfl Tryz.ntmps79 (by simp) rfl (res1 rfl) fun E hE => k_end (zac (kr (qa (.xi 0) rfl (zad (zaa (zac (zac (kr (qm (.xs a0) rfl ?_))))))))))
 obtain ⟨y1, hy1, h⟩ := zag h
 refine gq (zal (m_value_Kind_ok _ _ hy1) Tryz.func31 (by kernel_rfl) (lc lf ln) (zad (zaa (zaw (zac (kr (gq (op_eql rfl rfl (qa (.xb (decide (y1 = 1))) rfl (zad (zaa (kd (p := y1 = 1) rfl h (fun hc h => ?_) (fun hc h => ?_)))))))))))))
 ·refine zac (kr (qm (.xs a0) rfl ?_))
  obtain ⟨y2, hy2, h⟩ := zag h
  refine gq (zal (m_value_integer_ok _ _ hy2) Tryz.func106 (by kernel_rfl) (lc lf ln) (qa (.xi y2) rfl (zad (zaa (zax (zbb (zba ?_)))))))
  obtain rfl := oi h
  refine ke (pt AF0 2 (.xi y2)) [] rfl (s1 rfl) ⟨rfl, rfl⟩
 ·refine zac (kr (gq (op_eql rfl rfl (qa (.xb (decide (y1 = 2))) rfl (zad (zaa (kd (p := y1 = 2) rfl h (fun hc h => ?_) (fun hc h => ?_))))))))
  ·refine zac (kr (qm (.xs a0) rfl ?_))
   obtain ⟨n3, h⟩ := zah h
   refine gq (op_index_str (by kernel_rfl) rfl rfl n3.1 n3.2 (gq (op_convInt (k := .i64) (r := (UInt8.toNat (gi a0 1) : Int)) (by kernel_rfl) rfl (wrap_u8 rfl _) (qa (.xi (UInt8.toNat (gi a0 1) : Int)) rfl (zad (zaa (zax (zbb (zba ?_)))))))))
   obtain rfl := oi h
   refine ke (pt AF0 2 (.xi (UInt8.toNat (gi a0 1) : Int))) [] rfl (s1 rfl) ⟨rfl, rfl⟩
  ·refine zac (kr (gq (op_eql rfl rfl (qa (.xb (decide (y1 = 10))) rfl (zad (zaa (kd (p := y1 = 10) rfl h (fun hc h => ?_) (fun hc h => ?_))))))))
   ·refine zac (k_plan [] [(0, 0), (0, 1), (0, 2), (0, 3), (0, 4), (0, 5), (0, 6), (0, 7), (0, 8)] hmixP (by kernel_rfl) (P_q zaq rfl (zam (av := .xs a0) rfl ?_)))
    obtain ⟨n4, h⟩ := zah h
    refine P_q zaq rfl (op_index_str (by kernel_rfl) rfl rfl n4.1 n4.2 (P_q zaq rfl (op_convInt (k := .i64) (r := (UInt8.toNat (gi a0 1) : Int)) (by kernel_rfl) rfl (wrap_u8 rfl _) (P_q zaq rfl (op_shl rfl rfl (by decide) rfl (P_q zaq rfl (zam (av := .xs a0) rfl ?_)))))))
    obtain ⟨n5, h⟩ := zah h
    refine P_q zaq rfl (op_index_str (by kernel_rfl) rfl rfl n5.1 n5.2 (P_q zaq rfl (op_convInt (k := .i64) (r := (UInt8.toNat (gi a0 2) : Int)) (by kernel_rfl) rfl (wrap_u8 rfl _) (P_q zaq rfl (op_or rfl rfl rfl (P_q zaq rfl (op_assign (av := .xi (bOr .i64 (i64 ((UInt8.toNat (gi a0 1) : Int) * 2 ^ min (Int.toNat 8) IntKind.i64.bits)) (UInt8.toNat (gi a0 2) : Int))) rfl (P_nil (zaa (zax (zbb (zba ?_))))))))))))
    obtain rfl := oi h
    refine ke (pt AF0 2 (.xi (bOr .i64 (i64 ((UInt8.toNat (gi a0 1) : Int) * 2 ^ min (Int.toNat 8) IntKind.i64.bits)) (UInt8.toNat (gi a0 2) : Int)))) [] rfl (s1 rfl) ⟨rfl, rfl⟩
   ·refine zat (zaz (zaa (zac (kr (qa (.xi 0) rfl (zad (zaa (zax ?_))))))))
    obtain rfl := oi h
    refine ke (pt AF0 2 (.xi 0)) [] rfl (s1 rfl) ⟨rfl, rfl⟩
end Go.Proofs.YtjlbdhicabgliaaGreat
/- The functions compute their models, by program. -/
namespace Go.Proofs.YtjlbdhicabgliaaGreat
open Go.RowKit
attribute [local irreducible] AV.exact AV.top AV.row AV.ptr AV.agg AV.tup AV.eptr AV.fn AV.nilq AV.nilqn opA opB opM opR Quiet Loud Reads wpG awp den Sub SubU Pure Fun vecI vecT boxI CellsAll CellsOf OneC LEs LEss
set_option maxRecDepth 100000

set_option maxHeartbeats 4000000
theorem m_dataspace_split_ok (a0 : List UInt8) (r : Int × (List (List UInt8)) × Bool) (h : m_dataspace_split a0 = some r) : Pure Tryz.prog 36 [(.exact (.string (bs a0)))] (.tup [.exact (.int .i64 r.1), .row 1 zab r.2.1, .exact (.bool r.2.2)]) := by
 unfold m_dataspace_split at h
 refine Pure.ofFun (zar Tryz.func36 rfl Tryz.ntmps36 (by simp) rfl (res3 rfl) fun E hE => k_end (zac (kr (qa (.xi 0) rfl (qa (.exact (.slice none 0 0)) rfl (qa (.xb false) rfl (zad (zaa (zac (zac (kr (qm (.xs a0) rfl ?_))))))))))))
 obtain ⟨y1, hy1, h⟩ := zag h
 refine gq (zal (m_value_Kind_ok _ _ hy1) Tryz.func31 (by kernel_rfl) (lc lf ln) (gq (op_neq rfl rfl (zad (zaa (kd (p := ¬ y1 = 7) rfl h (fun hc h => ?_) (fun hc h => ?_)))))))
 ·refine zac (kr (qa (.xi 0) rfl (qa (.exact (.slice none 0 0)) rfl (qa (.xb false) rfl (zad (zaa (zax (zba ?_))))))))
  obtain rfl := oi h
  refine ke (pt (pt (pt AF0 2 (.xi 0)) 3 (.row 1 zab [])) 4 (.xb false)) [] rfl (so (lq rfl (AF.le_put (row_nil (by decide)) (lq rfl lt0)))) ⟨rfl, rfl⟩
 ·refine zat (zaa (zac (kr (qm (.xs a0) rfl ?_))))
  obtain ⟨y2, hy2, h⟩ := zag h
  refine gq (zal (m_value_Parts_ok _ _ hy2) Tryz.func39 (by kernel_rfl) (lc lf ln) (qa (.row 1 zab y2) rfl (zad (zaa (zac (k_plan [] [(0, 0), (0, 1), (0, 2), (0, 3), (0, 4), (0, 5), (0, 6), (0, 7), (0, 8)] hmixP (by kernel_rfl) (P_q zaq rfl (zam (av := .row 1 zab y2) rfl ?_))))))))
  obtain ⟨n3, h⟩ := zah h
  refine P_q zaq rfl (zao (by kernel_rfl) rfl rfl n3.1 n3.2 (P_q zaq rfl (zav (a := .xs (gi y2 0)) (by kernel_rfl) rfl rfl ?_)))
  obtain ⟨y4, hy4, h⟩ := zag h
  refine P_q zaq rfl (zal (m_value_Number_ok _ _ hy4) Tryz.func79 (by kernel_rfl) (lc lf ln) (P_q zaq rfl (zam (av := .row 1 zab y2) rfl ?_)))
  obtain ⟨n5, h⟩ := zah h
  refine P_q zaq rfl (op_slice_rowd (by kernel_rfl) rfl (bnd_some rfl) bnd_none (by decide) n5 (Int.le_refl _) (P_q zaq rfl (op_assign (av := .xi y4) rfl (P_q zaq rfl (op_assign (av := .row 1 zab (List.drop (Int.toNat 1) y2)) rfl (P_q zaq rfl (op_assign (av := .xb true) rfl (P_nil (zaa (zax ?_))))))))))
  obtain rfl := oi h
  refine ke (pt (pt (pt AF0 2 (.xi y4)) 3 (.row 1 zab (List.drop (Int.toNat 1) y2))) 4 (.xb true)) [] rfl (s3 rfl rfl rfl) ⟨rfl, rfl⟩
theorem m_slices_Index_L_api_Value_api_Value_ok (a0 : List (List UInt8)) (a1 : List UInt8) (r : Int) (h : m_slices_Index_L_api_Value_api_Value a0 a1 = some r) : Pure Tryz.prog 81 [(.row 1 zab a0), (.exact (.string (bs a1)))] (.exact (.int .i64 r)) := by
 unfold m_slices_Index_L_api_Value_api_Value at h
 refine Pure.ofFun (zar Tryz.func81 rfl Tryz.ntmps81 (by simp) rfl (res1 rfl) fun E hE => k_end (zac (kr (qa (.xi 0) rfl (zad (zaa (k_join0_0 h (AF0) ([]) (fun k1 h => ?_) (fun  h => ?_))))))))
 ·refine zac (kr (qm (.row 1 zab a0) rfl (gq (zap (by kernel_rfl) rfl (qm (.xi 0) rfl (zad (zaa (zaw (k_loop1_0 (m_slices_Index_L_api_Value_api_Value_L2 a0 a1 k1) (m_slices_Index_L_api_Value_api_Value_B2 a0 a1 k1) (fun _ => rfl) (fun m _ => rfl) h (fun (x8_l2 : Int) => (pt (pt (pt (pt AF0 0 (.row 1 zab a0)) 1 (.xs a1)) 7 (.xi (List.length a0 : Int))) 8 (.xi x8_l2))) (fun (x8_l2 : Int) => []) ?_ (fun rec2 x8_l2 h => ?_))))))))))
  ·exact s4 rfl rfl rfl rfl
  ·unfold m_slices_Index_L_api_Value_api_Value_B2 at h
   refine zac (kr (gq (op_lss rfl rfl (zad (zaa (zac (kd (p := x8_l2 < (List.length a0 : Int)) rfl h (fun hc h => ?_) (fun hc h => ?_))))))))
   ·refine zat (zaa (zac (zaw (zac (kr (qm (.xi x8_l2) rfl (qa (.xi x8_l2) rfl (zad (zaa (zac (kr (qm (.xs a1) rfl (qm (.row 1 zab a0) rfl (qm (.xi x8_l2) rfl ?_))))))))))))))
    obtain ⟨n8, h⟩ := zah h
    refine gq (zao (by kernel_rfl) rfl rfl n8.1 n8.2 (gq (zav (a := .xs (gi a0 x8_l2)) (by kernel_rfl) rfl rfl (gq (op_eqlS rfl rfl (zad (zaa (kd (p := a1 = (gi a0 x8_l2)) rfl h (fun hc h => ?_) (fun hc h => ?_)))))))))
    ·refine zac (kr (qm (.xi x8_l2) rfl (qa (.xi x8_l2) rfl (zad (zaa (zax (zbb (zba (zbj (zbb (zbj ?_)))))))))))
     obtain rfl := oi h
     refine ke (pt AF0 4 (.xi x8_l2)) [] rfl (s1 rfl) ⟨rfl, rfl⟩
    ·refine zat (zaz (zaa (kr (gq (op_add rfl rfl rfl (qm (.xi (i64 (x8_l2 + 1))) rfl (zad (zae ⟨_, h, s4 rfl rfl rfl rfl⟩))))))))
   ·refine k_exit (kC_exit (kI_exit (kB_exit (zae ⟨h, Sub.of_le lt0⟩))))
 ·refine zac (kr (qa (.xi (-1)) rfl (zad (zaa (zax ?_)))))
  obtain rfl := oi h
  refine ke (pt AF0 4 (.xi (-1))) [] rfl (s1 rfl) ⟨rfl, rfl⟩
theorem m_slices_Contains_L_api_Value_api_Value_ok (a0 : List (List UInt8)) (a1 : List UInt8) (r : Bool) (h : m_slices_Contains_L_api_Value_api_Value a0 a1 = some r) : Pure Tryz.prog 38 [(.row 1 zab a0), (.exact (.string (bs a1)))] (.exact (.bool r)) := by
 unfold m_slices_Contains_L_api_Value_api_Value at h
 refine Pure.ofFun (zar Tryz.func38 rfl Tryz.ntmps38 (by simp) rfl (res1 rfl) fun E hE => k_end (zac (kr (qa (.xb false) rfl (zad (zaa (zac (kr (qm (.row 1 zab a0) rfl (qm (.xs a1) rfl ?_))))))))))
 obtain ⟨y1, hy1, h⟩ := zag h
 refine gq (zal (m_slices_Index_L_api_Value_api_Value_ok _ _ _ hy1) Tryz.func81 (by kernel_rfl) (lc lf (lc lf ln)) (gq (op_geq rfl rfl (qa (.xb (decide (0 ≤ y1))) rfl (zad (zaa (zax ?_)))))))
 obtain rfl := oi h
 refine ke (pt AF0 4 (.xb (decide (0 ≤ y1)))) [] rfl (s1 rfl) ⟨rfl, rfl⟩
theorem m_dataspace_belongs_ok (a0 : List ((List UInt8) × Int × (List Int) × (List (List UInt8)))) (a1 : List UInt8) (r : Bool) (h : m_dataspace_belongs a0 a1 = some r) : Pure Tryz.prog 32 [(.row 4 zaf a0), (.exact (.string (bs a1)))] (.exact (.bool r)) := by
 unfold m_dataspace_belongs at h
 refine Pure.ofFun (zar Tryz.func32 rfl Tryz.ntmps32 (by simp) rfl (res1 rfl) fun E hE => k_end (zac (kr (qa (.xb false) rfl (zad (zaa (zac (kr (qm (.xs a1) rfl ?_)))))))))
 obtain ⟨y1, hy1, h⟩ := zag h
 refine gq (zal (m_dataspace_split_ok _ _ hy1) Tryz.func36 (by kernel_rfl) (lc lf ln) (qm (.tup [.xi y1.1, .row 1 zab y1.2.1, .xb y1.2.2]) rfl (gq (zas (av := .xi y1.1) rfl rfl (gq (zas (av := .row 1 zab y1.2.1) rfl rfl (gq (zas (av := .xb y1.2.2) rfl rfl (qa (.xi y1.1) rfl (qa (.row 1 zab y1.2.1) rfl (qa (.xb y1.2.2) rfl (zad (zaa (zac (zbc h (fun (x35_j6 : Bool) => (pt (pt (pt (pt AF0 0 (.row 4 zaf a0)) 5 (.xi y1.1)) 6 (.row 1 zab y1.2.1)) 35 (.xb x35_j6))) (fun (x35_j6 : Bool) => []) (fun k6 h => ?_) (fun x35_j6 h => ?_))))))))))))))))
 ·refine kr (qm (.xb y1.2.2) rfl (gq (op_not rfl (qm (.xb (!y1.2.2)) rfl (G_splitB (c := !y1.2.2) 19 rfl (fun hc => ?_) (fun hc => ?_))))))
  ·replace h := ite_t h hc
   refine G_n rfl rfl (G_n rfl rfl (G_n rfl rfl (G_n rfl rfl (gq (zau rfl (av := .xb true) rfl (qm (.xb true) rfl (G_n rfl rfl (G_n rfl rfl (G_n rfl rfl (G_n rfl rfl (G_n rfl rfl (G_n rfl rfl (G_n rfl rfl (G_n rfl rfl (G_n rfl rfl (gq (zau rfl (av := .xb true) rfl (zad (zae ⟨_, h, s4 rfl rfl rfl rfl⟩)))))))))))))))))))
  ·replace h := ite_f h hc
   refine Gy_q rfl rfl rfl (zam (av := .xi y1.1) rfl (Gy_q rfl rfl rfl (zam (av := .row 4 zaf a0) rfl (Gy_q rfl rfl rfl (zap (by kernel_rfl) rfl (Gy_q rfl rfl rfl (op_geq rfl rfl (gq (zaj rfl (av := .xb (decide ((List.length a0 : Int) ≤ y1.1))) rfl (qm (.xb (decide ((List.length a0 : Int) ≤ y1.1))) rfl (G_split (p := (List.length a0 : Int) ≤ y1.1) 25 rfl (fun hc => ?_) (fun hc => ?_))))))))))))
   ·replace h := ite_t h hc
    refine G_n rfl rfl (G_n rfl rfl (G_n rfl rfl (G_n rfl rfl (G_n rfl rfl (G_n rfl rfl (G_n rfl rfl (G_n rfl rfl (G_n rfl rfl (gq (zau rfl (av := .xb true) rfl (zad (zae ⟨_, h, s4 rfl rfl rfl rfl⟩))))))))))))
   ·replace h := ite_f h hc
    refine Gy_q rfl rfl rfl (zam (av := .row 1 zab y1.2.1) rfl (Gy_q rfl rfl rfl (zap (by kernel_rfl) rfl (Gy_q rfl rfl rfl (zam (av := .row 4 zaf a0) rfl (Gy_q rfl rfl rfl (zam (av := .xi y1.1) rfl ?_)))))))
    obtain ⟨n8, h⟩ := zah h
    refine Gy_q rfl rfl rfl (zao (by kernel_rfl) rfl rfl n8.1 n8.2 (Gy_q rfl rfl rfl (zbm (o := 3) (c' := (List.drop 3 (zaf (gi a0 y1.1)))) (by kernel_rfl) rfl rfl (Gy_q rfl rfl rfl (zav (a := .row 1 zab ((gi a0 y1.1).2.2.2)) (by kernel_rfl) rfl rfl (Gy_q rfl rfl rfl (zap (by kernel_rfl) rfl (Gy_q rfl rfl rfl (op_gtr rfl rfl (gq (zaj rfl (av := .xb (decide ((List.length ((gi a0 y1.1).2.2.2) : Int) < (List.length y1.2.1 : Int)))) rfl (zad (zae ⟨_, h, s4 rfl rfl rfl rfl⟩)))))))))))))
 ·refine kb (p := x35_j6) rfl h (fun hc h => ?_) (fun hc h => ?_)
  ·refine zac (kr (qa (.xb false) rfl (zad (zaa (zax (zba ?_))))))
   obtain rfl := oi h
   refine ke (pt AF0 4 (.xb false)) [] rfl (s1 rfl) ⟨rfl, rfl⟩
  ·refine zat (zaa (k_join0_0 h (AF0) ([]) (fun k9 h => ?_) (fun  h => ?_)))
   ·refine zac (kr (qm (.row 1 zab y1.2.1) rfl (gq (zap (by kernel_rfl) rfl (qm (.xi 0) rfl (zad (zaa (zaw (k_loop1_0 (m_dataspace_belongs_L2 a0 y1 k9) (m_dataspace_belongs_B2 a0 y1 k9) (fun _ => rfl) (fun m _ => rfl) h (fun (x38_l2 : Int) => (pt (pt (pt (pt (pt AF0 0 (.row 4 zaf a0)) 5 (.xi y1.1)) 36 (.row 1 zab y1.2.1)) 37 (.xi (List.length y1.2.1 : Int))) 38 (.xi x38_l2))) (fun (x38_l2 : Int) => []) ?_ (fun rec2 x38_l2 h => ?_))))))))))
    ·exact so (l4 rfl rfl rfl rfl (lq rfl lt0))
    ·unfold m_dataspace_belongs_B2 at h
     refine zac (kr (gq (op_lss rfl rfl (zad (zaa (zac (kd (p := x38_l2 < (List.length y1.2.1 : Int)) rfl h (fun hc h => ?_) (fun hc h => ?_))))))))
     ·refine zat (zaa (zac (zaw (zac (kr (qm (.xi x38_l2) rfl ?_))))))
      obtain ⟨n105, h⟩ := zah h
      refine gq (zao (by kernel_rfl) rfl rfl n105.1 n105.2 (gq (zav (a := .xs (gi y1.2.1 x38_l2)) (by kernel_rfl) rfl rfl (qa (.xi x38_l2) rfl (qa (.xs (gi y1.2.1 x38_l2)) rfl (zad (zaa (zac (kr (qm (.row 4 zaf a0) rfl (qm (.xi y1.1) rfl ?_)))))))))))
      obtain ⟨n106, h⟩ := zah h
      refine gq (zao (by kernel_rfl) rfl rfl n106.1 n106.2 (gq (zbm (o := 3) (c' := (List.drop 3 (zaf (gi a0 y1.1)))) (by kernel_rfl) rfl rfl (gq (zav (a := .row 1 zab ((gi a0 y1.1).2.2.2)) (by kernel_rfl) rfl rfl (qm (.xi x38_l2) rfl ?_))))))
      obtain ⟨n107, h⟩ := zah h
      refine gq (zao (by kernel_rfl) rfl rfl n107.1 n107.2 (gq (zav (a := .xs (gi ((gi a0 y1.1).2.2.2) x38_l2)) (by kernel_rfl) rfl rfl (qa (.xs (gi ((gi a0 y1.1).2.2.2) x38_l2)) rfl (zad (zaa (zbc h (fun (x59_j108 : Bool) => (pt (pt (pt (pt (pt (pt AF0 0 (.row 4 zaf a0)) 5 (.xi y1.1)) 36 (.row 1 zab y1.2.1)) 37 (.xi (List.length y1.2.1 : Int))) 38 (.xi x38_l2)) 59 (.xb x59_j108))) (fun (x59_j108 : Bool) => []) (fun k108 h => ?_) (fun x59_j108 h => ?_))))))))
      ·refine kr (qm (.xs (gi ((gi a0 y1.1).2.2.2) x38_l2)) rfl (gq (op_neqS rfl rfl (qm (.xb (decide (¬ (gi ((gi a0 y1.1).2.2.2) x38_l2) = ([] : List UInt8)))) rfl (G_split (p := ¬ (gi ((gi a0 y1.1).2.2.2) x38_l2) = ([] : List UInt8)) 53 rfl (fun hc => ?_) (fun hc => ?_))))))
       ·replace h := ite_t h hc
        refine Gy_q rfl rfl rfl (zam (av := .xs (gi ((gi a0 y1.1).2.2.2) x38_l2)) rfl ?_)
        obtain ⟨y111, hy111, h⟩ := zag h
        refine Gy_q rfl rfl rfl (zal (m_value_Parts_ok _ _ hy111) Tryz.func39 (by kernel_rfl) (lc lf ln) (Gy_q rfl rfl rfl (zam (av := .xs (gi y1.2.1 x38_l2)) rfl ?_)))
        obtain ⟨y112, hy112, h⟩ := zag h
        refine Gy_q rfl rfl rfl (zal (m_slices_Contains_L_api_Value_api_Value_ok _ _ _ hy112) Tryz.func38 (by kernel_rfl) (lc lf (lc lf ln)) (Gy_q rfl rfl rfl (op_not rfl (gq (zau rfl (av := .xb (!y112)) rfl (zad (zae ⟨_, h, so (l4 rfl rfl rfl rfl (lq rfl (lq rfl lt0)))⟩)))))))
       ·replace h := ite_f h hc
        refine G_n rfl rfl (G_n rfl rfl (G_n rfl rfl (G_n rfl rfl (G_n rfl rfl (gq (zaj rfl (av := .xb false) rfl (zad (zae ⟨_, h, so (l4 rfl rfl rfl rfl (lq rfl (lq rfl lt0)))⟩))))))))
      ·refine kb (p := x59_j108) rfl h (fun hc h => ?_) (fun hc h => ?_)
       ·refine zac (kr (qa (.xb false) rfl (zad (zaa (zax (zbb (zba (zbj (zbb (zbj ?_))))))))))
        obtain rfl := oi h
        refine ke (pt AF0 4 (.xb false)) [] rfl (s1 rfl) ⟨rfl, rfl⟩
       ·refine zat (zaz (zaa (kr (gq (op_add rfl rfl rfl (qm (.xi (i64 (x38_l2 + 1))) rfl (zad (zae ⟨_, h, so (l4 rfl rfl rfl rfl (lq rfl lt0))⟩))))))))
     ·refine k_exit (kC_exit (kI_exit (kB_exit (zae ⟨h, Sub.of_le lt0⟩))))
   ·refine zac (kr (qa (.xb true) rfl (zad (zaa (zax ?_)))))
    obtain rfl := oi h
    refine ke (pt AF0 4 (.xb true)) [] rfl (s1 rfl) ⟨rfl, rfl⟩
theorem m_dataspace_missing_ok (a0 : List ((List UInt8) × Int × (List Int) × (List (List UInt8)))) (a1 : List UInt8) (r : (List (List UInt8))) (h : m_dataspace_missing a0 a1 = some r) : Pure Tryz.prog 35 [(.row 4 zaf a0), (.exact (.string (bs a1)))] (.row 1 zab r) := by
 unfold m_dataspace_missing at h
 refine Pure.ofFun (zar Tryz.func35 rfl Tryz.ntmps35 (by simp) rfl (res1 rfl) fun E hE => k_end (zac (kr (qa (.exact (.slice none 0 0)) rfl (zad (zaa (zac (kr (qm (.xs a1) rfl ?_)))))))))
 obtain ⟨y1, hy1, h⟩ := zag h
 refine gq (zal (m_dataspace_split_ok _ _ hy1) Tryz.func36 (by kernel_rfl) (lc lf ln) (qm (.tup [.xi y1.1, .row 1 zab y1.2.1, .xb y1.2.2]) rfl (gq (zas (av := .xi y1.1) rfl rfl (gq (zas (av := .row 1 zab y1.2.1) rfl rfl (gq (zas (av := .xb y1.2.2) rfl rfl (qa (.xi y1.1) rfl (qa (.row 1 zab y1.2.1) rfl (qa (.xb y1.2.2) rfl (zad (zaa (zac (kr (qm (.row 4 zaf a0) rfl (qm (.xi y1.1) rfl ?_)))))))))))))))))
 obtain ⟨n2, h⟩ := zah h
 refine gq (zao (by kernel_rfl) rfl rfl n2.1 n2.2 (gq (zbm (o := 3) (c' := (List.drop 3 (zaf (gi a0 y1.1)))) (by kernel_rfl) rfl rfl (gq (zav (a := .row 1 zab ((gi a0 y1.1).2.2.2)) (by kernel_rfl) rfl rfl (qm (.row 1 zab y1.2.1) rfl (gq (zap (by kernel_rfl) rfl ?_))))))))
 obtain ⟨n3, h⟩ := zah h
 refine gq (op_slice_rowd (by kernel_rfl) rfl (bnd_some rfl) bnd_none n3.1 n3.2 (Int.le_refl _) (qa (.row 1 zab (List.drop (Int.toNat (List.length y1.2.1 : Int)) ((gi a0 y1.1).2.2.2))) rfl (zad (zaa (zax ?_)))))
 obtain rfl := oi h
 refine ke (pt AF0 4 (.row 1 zab (List.drop (Int.toNat (List.length y1.2.1 : Int)) ((gi a0 y1.1).2.2.2)))) [] rfl (s1 rfl) ⟨rfl, rfl⟩
theorem m_dataspace_unbounded_ok (a0 : List ((List UInt8) × Int × (List Int) × (List (List UInt8)))) (a1 : List UInt8) (r : Bool) (h : m_dataspace_unbounded a0 a1 = some r) : Pure Tryz.prog 33 [(.row 4 zaf a0), (.exact (.string (bs a1)))] (.exact (.bool r)) := by
 unfold m_dataspace_unbounded at h
 refine Pure.ofFun (zar Tryz.func33 rfl Tryz.ntmps33 (by simp) rfl (res1 rfl) fun E hE => k_end (zac (kr (qa (.xb false) rfl (zad (zaa (zac (kr (qm (.row 4 zaf a0) rfl (qm (.xs a1) rfl ?_))))))))))
 obtain ⟨y1, hy1, h⟩ := zag h
 refine gq (zal (m_dataspace_missing_ok _ _ _ hy1) Tryz.func35 (by kernel_rfl) (lc lf (lc lf ln)) ?_)
 obtain ⟨y2, hy2, h⟩ := zag h
 refine gq (zal (m_slices_Contains_L_api_Value_api_Value_ok _ _ _ hy2) Tryz.func38 (by kernel_rfl) (lc lf (lc lf ln)) (qa (.xb y2) rfl (zad (zaa (zax ?_)))))
 obtain rfl := oi h
 refine ke (pt AF0 4 (.xb y2)) [] rfl (s1 rfl) ⟨rfl, rfl⟩
theorem m_finset_elements_ok (a0 : List (List UInt8)) (r : (List (List (List UInt8))) × Int) (h : m_finset_elements a0 = some r) : Pure Tryz.prog 75 [(.row 1 zab a0)] (.tup [.row 1 zan r.1, .exact (.int .i64 r.2)]) := by
 unfold m_finset_elements at h
 refine Pure.ofFun (zar Tryz.func75 rfl Tryz.ntmps75 (by simp) rfl (res2 rfl) fun E hE => k_end (zac (kr (qa (.exact (.slice none 0 0)) rfl (qa (.xi 0) rfl (zad (zaa (zac (kr (qa (.exact (.slice none 0 0)) rfl (zad (zaa (k_join1_1 h (fun (x4_j1 : List (List (List UInt8))) (v4_j1 : Value) => (pt AF0 4 (.exact v4_j1))) (fun (x4_j1 : List (List (List UInt8))) (v4_j1 : Value) => [vecT Tryz.prog 91 1 zan v4_j1 x4_j1]) (fun k1 h => ?_) (fun x4_j1 v4_j1 h => ?_))))))))))))))
 ·refine zac (kr (qm (.row 1 zab a0) rfl (gq (zap (by kernel_rfl) rfl (qm (.xi 0) rfl (zad (zaa (zaw (k_loop2_1 (m_finset_elements_L2 a0 k1) (m_finset_elements_B2 a0 k1) (fun _ _ => rfl) (fun m _ _ => rfl) h (fun (x4_l2 : List (List (List UInt8))) (x9_l2 : Int) (v4_l2 : Value) => (pt (pt (pt (pt AF0 4 (.exact v4_l2)) 7 (.row 1 zab a0)) 8 (.xi (List.length a0 : Int))) 9 (.xi x9_l2))) (fun (x4_l2 : List (List (List UInt8))) (x9_l2 : Int) (v4_l2 : Value) => [vecT Tryz.prog 91 1 zan v4_l2 x4_l2]) (.slice none 0 0) ?_ (fun rec2 x4_l2 x9_l2 v4_l2 h => ?_))))))))))
  ·refine Sub.trans (SubU.to (SubU.nilT (P := Tryz.prog) (t := 91) (n := 1) (enc := zan))) (s4 rfl rfl rfl rfl)
  ·unfold m_finset_elements_B2 at h
   refine zac (kr (gq (op_lss rfl rfl (zad (zaa (zac (kd (p := x9_l2 < (List.length a0 : Int)) rfl h (fun hc h => ?_) (fun hc h => ?_))))))))
   ·refine zat (zaa (zac (zaw (zac (kr ?_)))))
    obtain ⟨n28, h⟩ := zah h
    refine gq (zao (by kernel_rfl) rfl rfl n28.1 n28.2 (gq (zav (a := .xs (gi a0 x9_l2)) (by kernel_rfl) rfl rfl (qa (.xs (gi a0 x9_l2)) rfl (zad (zaa (zac (zac (kr (qm (.xs (gi a0 x9_l2)) rfl ?_))))))))))
    obtain ⟨y29, hy29, h⟩ := zag h
    refine gq (zal (m_value_Kind_ok _ _ hy29) Tryz.func31 (by kernel_rfl) (lc lf ln) (gq (op_neq rfl rfl (zad (zaa (kd (p := ¬ y29 = 5) rfl h (fun hc h => ?_) (fun hc h => ?_)))))))
    ·refine zac (kr (qa (.exact (.slice none 0 0)) rfl (qa (.xi 6) rfl (zad (zaa (zax (zba (zbb (zba (zbj (zbb (zbj ?_))))))))))))
     obtain rfl := oi h
     refine ke (pt (pt AF0 2 (.row 1 zan [])) 3 (.xi 6)) [] rfl (Sub.trans (SubU.to SubU.drop) (so (lq rfl (AF.le_put (row_nil (by decide)) lt0)))) ⟨rfl, rfl⟩
    ·refine zat (zaa (kr (qm (.exact v4_l2) rfl (qm (.xs (gi a0 x9_l2)) rfl ?_))))
     obtain ⟨y30, hy30, h⟩ := zag h
     refine gq (zal (m_value_Parts_ok _ _ hy30) Tryz.func39 (by kernel_rfl) (lc lf ln) (gq (op_litT (n := 1) (enc := zan) [y30] (CellsAll.cons rfl CellsOf.row CellsAll.nil) rfl (by kernel_rfl) (LEss.cons (lc lf ln) LEss.nil) ?_)))
     obtain ⟨n31, h⟩ := zah h
     refine G_l rfl (op_appT (by kernel_rfl) rfl rfl oc_c_L_api_Value n31 (fun v32 => qa (.exact v32) rfl (zad (zaz (zaa (kr (gq (op_add rfl rfl rfl (qm (.xi (i64 (x9_l2 + 1))) rfl (zad (zae ⟨_, _, v32, h, s4 rfl rfl rfl rfl⟩)))))))))))
   ·refine k_exit (kC_exit (kI_exit (kB_exit (zae ⟨_, v4_l2, h, s1 rfl⟩))))
 ·refine zac (kr (qm (.exact v4_j1) rfl (qa (.exact v4_j1) rfl (qa (.xi 0) rfl (zad (zaa (zax ?_)))))))
  obtain rfl := oi h
  refine ke (pt (pt AF0 2 (.row 1 zan x4_j1)) 3 (.xi 0)) [] rfl (Sub.trans (SubU.to (SubU.freezeT (s := 2) rfl len_c_L_api_Value)) (s2 rfl rfl)) ⟨rfl, rfl⟩
theorem m_finset_count_ok (a0 : List (List (List UInt8))) (r : Int) (h : m_finset_count a0 = some r) : Pure Tryz.prog 76 [(.row 1 zan a0)] (.exact (.int .i64 r)) := by
 unfold m_finset_count at h
 refine Pure.ofFun (zar Tryz.func76 rfl Tryz.ntmps76 (by simp) rfl (res1 rfl) fun E hE => k_end (zac (kr (qa (.xi 0) rfl (zad (zaa (zac (kr (qa (.xi 1) rfl (zad (zaa (zbc h (fun (x3_j1 : Int) => (pt AF0 3 (.xi x3_j1))) (fun (x3_j1 : Int) => []) (fun k1 h => ?_) (fun x3_j1 h => ?_)))))))))))))
 ·refine zac (kr (qm (.row 1 zan a0) rfl (gq (zap (by kernel_rfl) rfl (qm (.xi 0) rfl (zad (zaa (zaw (k_loop2_0 (m_finset_count_L2 a0 k1) (m_finset_count_B2 a0 k1) (fun _ _ => rfl) (fun m _ _ => rfl) h (fun (x3_l2 : Int) (x8_l2 : Int) => (pt (pt (pt (pt AF0 3 (.xi x3_l2)) 6 (.row 1 zan a0)) 7 (.xi (List.length a0 : Int))) 8 (.xi x8_l2))) (fun (x3_l2 : Int) (x8_l2 : Int) => []) ?_ (fun rec2 x3_l2 x8_l2 h => ?_))))))))))
  ·exact s4 rfl rfl rfl rfl
  ·unfold m_finset_count_B2 at h
   refine zac (kr (gq (op_lss rfl rfl (zad (zaa (zac (kd (p := x8_l2 < (List.length a0 : Int)) rfl h (fun hc h => ?_) (fun hc h => ?_))))))))
   ·refine zat (zaa (zac (zaw (zac (kr ?_)))))
    obtain ⟨n8, h⟩ := zah h
    refine gq (zao (by kernel_rfl) rfl rfl n8.1 n8.2 (gq (zav (a := .row 1 zab (gi a0 x8_l2)) (by kernel_rfl) rfl rfl (qa (.row 1 zab (gi a0 x8_l2)) rfl (zad (zaa (zac (kr (qm (.xi x3_l2) rfl (qm (.row 1 zab (gi a0 x8_l2)) rfl (gq (zap (by kernel_rfl) rfl (gq (op_mul rfl rfl rfl (gq (op_min rfl rfl (qa (.xi (min (i64 (x3_l2 * (List.length (gi a0 x8_l2) : Int))) 4097)) rfl (zad (zaa (zac (kr ?_)))))))))))))))))))))
    refine qm (.row 1 zab (gi a0 x8_l2)) rfl (gq (zap (by kernel_rfl) rfl (gq (op_eql rfl rfl (zad (zaa (kd (p := (List.length (gi a0 x8_l2) : Int) = 0) rfl h (fun hc h => ?_) (fun hc h => ?_))))))))
    ·refine zac (kr (qa (.xi 0) rfl (zad (zaa (zax (zbb (zba (zbj (zbb (zbj ?_))))))))))
     obtain rfl := oi h
     refine ke (pt AF0 2 (.xi 0)) [] rfl (s1 rfl) ⟨rfl, rfl⟩
    ·refine zat (zaz (zaa (kr (gq (op_add rfl rfl rfl (qm (.xi (i64 (x8_l2 + 1))) rfl (zad (zae ⟨_, _, h, s4 rfl rfl rfl rfl⟩))))))))
   ·refine k_exit (kC_exit (kI_exit (kB_exit (zae ⟨_, h, s1 rfl⟩))))
 ·refine zac (kr (qm (.xi x3_j1) rfl (qa (.xi x3_j1) rfl (zad (zaa (zax ?_))))))
  obtain rfl := oi h
  refine ke (pt AF0 2 (.xi x3_j1)) [] rfl (s1 rfl) ⟨rfl, rfl⟩
theorem m_value_append16_ok {w0 : Value} (a0 : List UInt8) (a1 : Int) (r : (List UInt8)) (h : m_value_append16 a0 a1 = some r) : Fun Tryz.prog 109 [(.exact w0), (.exact (.int .u16 a1))] [vecT Tryz.prog 55 1 c_uint8 w0 a0] (fun a s => ∃ z0, a = .exact z0 ∧ s = [vecT Tryz.prog 55 1 c_uint8 z0 r]) := by
 unfold m_value_append16 at h
 refine zar Tryz.func109 rfl Tryz.ntmps109 (by simp) rfl (res1 rfl) fun E hE => k_end (zac (kr (qa (.exact (.slice none 0 0)) rfl (zad (zaa (zac (kr (qm (.exact w0) rfl (qm (.exact (.int .u16 a1)) rfl (gq (op_shr rfl rfl (by decide) rfl (gq (op_convInt (k := .u8) (r := (UInt8.toNat (u8i (Int.fdiv a1 (2 ^ min (Int.toNat 8) IntKind.u16.bits))) : Int)) (by kernel_rfl) rfl (u8i_eq _) (qm (.exact (.int .u16 a1)) rfl (gq (op_convInt (k := .u8) (r := (UInt8.toNat (u8i a1) : Int)) (by kernel_rfl) rfl (u8i_eq _) (gq (op_litT (n := 1) (enc := c_uint8) [u8i (Int.fdiv a1 (2 ^ min (Int.toNat 8) IntKind.u16.bits)), u8i a1] (CellsAll.cons rfl CellsOf.int (CellsAll.cons rfl CellsOf.int CellsAll.nil)) rfl (by kernel_rfl) (LEss.cons (lc lf ln) (LEss.cons (lc lf ln) LEss.nil)) ?_))))))))))))))))))
 obtain ⟨n1, h⟩ := zah h
 refine G_l rfl (op_appT (by kernel_rfl) rfl rfl oc_c_uint8 n1 (fun v2 => qa (.exact v2) rfl (zad (zaa (zax ?_)))))
 obtain rfl := oi h
 refine ke (pt AF0 4 (.exact v2)) [vecT Tryz.prog 55 1 c_uint8 v2 (a0 ++ [u8i (Int.fdiv a1 (2 ^ min (Int.toNat 8) IntKind.u16.bits)), u8i a1])] rfl (s1 rfl) ⟨v2, rfl, rfl⟩
theorem m_slices_IndexFunc_L_api_Value_api_Value_ok (a0 : List (List UInt8)) (a1 : (List UInt8) → Option Bool) (r : Int) (h : m_slices_IndexFunc_L_api_Value_api_Value a0 a1 = some r) : Pure Tryz.prog 92 [(.row 1 zab a0), (.fn Tryz.prog (fun (i : (List UInt8)) => [.exact (.string (bs i))]) (fun (i : (List UInt8)) => a1 i) (fun (r : Bool) => .exact (.bool r)))] (.exact (.int .i64 r)) := by
 unfold m_slices_IndexFunc_L_api_Value_api_Value at h
 refine Pure.ofFun (zar Tryz.func92 rfl Tryz.ntmps92 (by simp) rfl (res1 rfl) fun E hE => k_end (zac (kr (qa (.xi 0) rfl (zad (zaa (k_join0_0 h (AF0) ([]) (fun k1 h => ?_) (fun  h => ?_))))))))
 ·refine zac (kr (qm (.row 1 zab a0) rfl (gq (zap (by kernel_rfl) rfl (qm (.xi 0) rfl (zad (zaa (zaw (k_loop1_0 (zbk a0 a1 k1) (m_slices_IndexFunc_L_api_Value_api_Value_B2 a0 a1 k1) (fun _ => rfl) (fun m _ => rfl) h (fun (x8_l2 : Int) => (pt (pt (pt (pt AF0 0 (.row 1 zab a0)) 1 (.fn Tryz.prog (fun (i : (List UInt8)) => [.xs i]) (fun (i : (List UInt8)) => a1 i) (fun (r : Bool) => .xb r))) 7 (.xi (List.length a0 : Int))) 8 (.xi x8_l2))) (fun (x8_l2 : Int) => []) ?_ (fun rec2 x8_l2 h => ?_))))))))))
  ·exact s4 rfl rfl rfl rfl
  ·unfold m_slices_IndexFunc_L_api_Value_api_Value_B2 at h
   refine zac (kr (gq (op_lss rfl rfl (zad (zaa (zac (kd (p := x8_l2 < (List.length a0 : Int)) rfl h (fun hc h => ?_) (fun hc h => ?_))))))))
   ·refine zat (zaa (zac (zaw (zac (kr (qm (.xi x8_l2) rfl (qa (.xi x8_l2) rfl (zad (zaa (zac (kr (qm (.fn Tryz.prog (fun (i : (List UInt8)) => [.xs i]) (fun (i : (List UInt8)) => a1 i) (fun (r : Bool) => .xb r)) rfl (qm (.row 1 zab a0) rfl (qm (.xi x8_l2) rfl ?_))))))))))))))
    obtain ⟨n13, h⟩ := zah h
    refine gq (zao (by kernel_rfl) rfl rfl n13.1 n13.2 (gq (zav (a := .xs (gi a0 x8_l2)) (by kernel_rfl) rfl rfl ?_)))
    obtain ⟨y14, hy14, h⟩ := zag h
    refine gq (op_callfn (gi a0 x8_l2) rfl hy14 (lc lf ln) (zad (zaa (kb (p := y14) rfl h (fun hc h => ?_) (fun hc h => ?_)))))
    ·refine zac (kr (qm (.xi x8_l2) rfl (qa (.xi x8_l2) rfl (zad (zaa (zax (zbb (zba (zbj (zbb (zbj ?_)))))))))))
     obtain rfl := oi h
     refine ke (pt AF0 4 (.xi x8_l2)) [] rfl (s1 rfl) ⟨rfl, rfl⟩
    ·refine zat (zaz (zaa (kr (gq (op_add rfl rfl rfl (qm (.xi (i64 (x8_l2 + 1))) rfl (zad (zae ⟨_, h, s4 rfl rfl rfl rfl⟩))))))))
   ·refine k_exit (kC_exit (kI_exit (kB_exit (zae ⟨h, Sub.of_le lt0⟩))))
 ·refine zac (kr (qa (.xi (-1)) rfl (zad (zaa (zax ?_)))))
  obtain rfl := oi h
  refine ke (pt AF0 4 (.xi (-1))) [] rfl (s1 rfl) ⟨rfl, rfl⟩
theorem m_slices_ContainsFunc_L_api_Value_api_Value_ok (a0 : List (List UInt8)) (a1 : (List UInt8) → Option Bool) (r : Bool) (h : zbg a0 a1 = some r) : Pure Tryz.prog 47 [(.row 1 zab a0), (.fn Tryz.prog (fun (i : (List UInt8)) => [.exact (.string (bs i))]) (fun (i : (List UInt8)) => a1 i) (fun (r : Bool) => .exact (.bool r)))] (.exact (.bool r)) := by
 unfold zbg at h
 refine Pure.ofFun (zar Tryz.func47 rfl Tryz.ntmps47 (by simp) rfl (res1 rfl) fun E hE => k_end (zac (kr (qa (.xb false) rfl (zad (zaa (zac (kr (qm (.row 1 zab a0) rfl (qm (.fn Tryz.prog (fun (i : (List UInt8)) => [.xs i]) (fun (i : (List UInt8)) => a1 i) (fun (r : Bool) => .xb r)) rfl ?_))))))))))
 obtain ⟨y1, hy1, h⟩ := zag h
 refine gq (zal (m_slices_IndexFunc_L_api_Value_api_Value_ok _ _ _ hy1) Tryz.func92 (by kernel_rfl) (lc lf (lc lf ln)) (gq (op_geq rfl rfl (qa (.xb (decide (0 ≤ y1))) rfl (zad (zaa (zax ?_)))))))
 obtain rfl := oi h
 refine ke (pt AF0 4 (.xb (decide (0 ≤ y1)))) [] rfl (s1 rfl) ⟨rfl, rfl⟩
theorem m_value_compound_1_ok (a0 : List UInt8) (r : Bool) (h : m_value_compound_1 a0 = some r) : Pure Tryz.prog 110 [(.exact (.string (bs a0)))] (.exact (.bool r)) := by
 unfold m_value_compound_1 at h
 refine Pure.ofFun (zar Tryz.func110 rfl Tryz.ntmps110 (by simp) rfl (res1 rfl) fun E hE => k_end (zac (kr (qa (.xb false) rfl (zad (zaa (zac (kr (qm (.xs a0) rfl ?_)))))))))
 obtain ⟨y1, hy1, h⟩ := zag h
 refine gq (zal (m_value_Valid_ok _ _ hy1) Tryz.func37 (by kernel_rfl) (lc lf ln) (gq (op_not rfl (qa (.xb (!y1)) rfl (zad (zaa (zax ?_)))))))
 obtain rfl := oi h
 refine ke (pt AF0 2 (.xb (!y1))) [] rfl (s1 rfl) ⟨rfl, rfl⟩
end Go.Proofs.YtjlbdhicabgliaaGreat
/- The functions compute their models, by program. -/
namespace Go.Proofs.YtjlbdhicabgliaaGreat
open Go.RowKit
attribute [local irreducible] AV.exact AV.top AV.row AV.ptr AV.agg AV.tup AV.eptr AV.fn AV.nilq AV.nilqn opA opB opM opR Quiet Loud Reads wpG awp den Sub SubU Pure Fun vecI vecT boxI CellsAll CellsOf OneC LEs LEss
set_option maxRecDepth 100000

set_option maxHeartbeats 4000000
theorem m_value_checked_ok (a0 : List UInt8) (r : (List UInt8)) (h : m_value_checked a0 = some r) : Pure Tryz.prog 111 [(.row 1 c_uint8 a0)] (.exact (.string (bs r))) := by
 unfold m_value_checked at h
 refine Pure.ofFun (zar Tryz.func111 rfl Tryz.ntmps111 (by simp) rfl (res1 rfl) fun E hE => k_end (zac (kr (qa (.xs ([] : List UInt8)) rfl (zad (zaa (zac (zac (kr (qm (.row 1 c_uint8 a0) rfl (gq (op_bytesS rfl (by kernel_rfl) rfl ?_))))))))))))
 obtain ⟨y1, hy1, h⟩ := zag h
 refine gq (zal (m_value_Valid_ok _ _ hy1) Tryz.func37 (by kernel_rfl) (lc lf ln) (gq (op_not rfl (zad (zaa (kb (p := !y1) rfl h (fun hc h => ?_) (fun hc h => ?_)))))))
 ·refine zac (kr (qa (.xs ([] : List UInt8)) rfl (zad (zaa (zax (zba ?_))))))
  obtain rfl := oi h
  refine ke (pt AF0 2 (.xs ([] : List UInt8))) [] rfl (s1 rfl) ⟨rfl, rfl⟩
 ·refine zat (zaa (zac (kr (qm (.row 1 c_uint8 a0) rfl (gq (op_bytesS rfl (by kernel_rfl) rfl (qa (.xs a0) rfl (zad (zaa (zax ?_))))))))))
  obtain rfl := oi h
  refine ke (pt AF0 2 (.xs a0)) [] rfl (s1 rfl) ⟨rfl, rfl⟩
theorem m_value_compound_ok (a0 : Int) (a1 : List (List UInt8)) (r : (List UInt8)) (h : m_value_compound a0 a1 = some r) : Pure Tryz.prog 84 [(.exact (.int .i64 a0)), (.row 1 zab a1)] (.exact (.string (bs r))) := by
 unfold m_value_compound at h
 refine Pure.ofFun (zar Tryz.func84 rfl Tryz.ntmps84 (by simp) rfl (res1 rfl) fun E hE => k_end (zac (kr (qa (.xs ([] : List UInt8)) rfl (zad (zaa (zac (zac (kr (qm (.row 1 zab a1) rfl (gq (zap (by kernel_rfl) rfl (gq (op_gtr rfl rfl (zad (zaa (kd (p := 65535 < (List.length a1 : Int)) rfl h (fun hc h => ?_) (fun hc h => ?_))))))))))))))))))
 ·refine zac (kr (qa (.xs ([] : List UInt8)) rfl (zad (zaa (zax (zba ?_))))))
  obtain rfl := oi h
  refine ke (pt AF0 4 (.xs ([] : List UInt8))) [] rfl (s1 rfl) ⟨rfl, rfl⟩
 ·refine zat (zaa (zac (kr (qm (.xi a0) rfl (gq (op_convInt (k := .u8) (r := (UInt8.toNat (u8i a0) : Int)) (by kernel_rfl) rfl (u8i_eq _) (G_l rfl (op_litI (n := 1) (enc := c_uint8) [u8i a0] (by kernel_rfl) (CellsAll.cons rfl CellsOf.int CellsAll.nil) rfl (by kernel_rfl) (LEss.cons (lc lf ln) LEss.nil) (fun v1 => qm (.row 1 zab a1) rfl (gq (zap (by kernel_rfl) rfl (gq (op_convInt (k := .u16) (by kernel_rfl) rfl rfl ?_)))))))))))))
  obtain ⟨y2, hy2, h⟩ := zag h
  refine G_l rfl (op_fun_1_1_1 (m_value_append16_ok _ _ _ hy2) Tryz.func109 (by kernel_rfl) (lc lf (lc lf ln)) (fun v3 => qa (.exact v3) rfl (zad (zaa (k_join1_1 h (fun (x5_j4 : List UInt8) (v5_j4 : Value) => (pt (pt AF0 1 (.row 1 zab a1)) 5 (.exact v5_j4))) (fun (x5_j4 : List UInt8) (v5_j4 : Value) => [vecT Tryz.prog 55 1 c_uint8 v5_j4 x5_j4]) (fun k4 h => ?_) (fun x5_j4 v5_j4 h => ?_))))))
  ·refine zac (kr (qm (.row 1 zab a1) rfl (gq (zap (by kernel_rfl) rfl (qm (.xi 0) rfl (zad (zaa (zaw (k_loop2_1 (m_value_compound_L2 a1 k4) (m_value_compound_B2 a1 k4) (fun _ _ => rfl) (fun m _ _ => rfl) h (fun (x5_l2 : List UInt8) (x20_l2 : Int) (v5_l2 : Value) => (pt (pt (pt (pt (pt AF0 1 (.row 1 zab a1)) 5 (.exact v5_l2)) 18 (.row 1 zab a1)) 19 (.xi (List.length a1 : Int))) 20 (.xi x20_l2))) (fun (x5_l2 : List UInt8) (x20_l2 : Int) (v5_l2 : Value) => [vecT Tryz.prog 55 1 c_uint8 v5_l2 x5_l2]) v3 ?_ (fun rec2 x5_l2 x20_l2 v5_l2 h => ?_))))))))))
   ·exact so (l4 rfl rfl rfl rfl (lq rfl lt0))
   ·unfold m_value_compound_B2 at h
    refine zac (kr (gq (op_lss rfl rfl (zad (zaa (zac (kd (p := x20_l2 < (List.length a1 : Int)) rfl h (fun hc h => ?_) (fun hc h => ?_))))))))
    ·refine zat (zaa (zac (zaw (zac (kr ?_)))))
     obtain ⟨n78, h⟩ := zah h
     refine gq (zao (by kernel_rfl) rfl rfl n78.1 n78.2 (gq (zav (a := .xs (gi a1 x20_l2)) (by kernel_rfl) rfl rfl (qa (.xs (gi a1 x20_l2)) rfl (zad (zaa (zac (zbc h (fun (x33_j81 : Bool) => (pt (pt (pt (pt (pt (pt (pt AF0 1 (.row 1 zab a1)) 5 (.exact v5_l2)) 7 (.xs (gi a1 x20_l2))) 18 (.row 1 zab a1)) 19 (.xi (List.length a1 : Int))) 20 (.xi x20_l2)) 33 (.xb x33_j81))) (fun (x33_j81 : Bool) => [vecT Tryz.prog 55 1 c_uint8 v5_l2 x5_l2]) (fun k81 h => ?_) (fun x33_j81 h => ?_)))))))))
     ·refine kr (qm (.xs (gi a1 x20_l2)) rfl (gq (op_eqlS rfl rfl (qm (.xb (decide ((gi a1 x20_l2) = ([] : List UInt8)))) rfl (G_split (p := (gi a1 x20_l2) = ([] : List UInt8)) 26 rfl (fun hc => ?_) (fun hc => ?_))))))
      ·replace h := ite_t h hc
       refine G_n rfl rfl (G_n rfl rfl (G_n rfl rfl (G_n rfl rfl (G_n rfl rfl (G_n rfl rfl (gq (zau rfl (av := .xb true) rfl (zad (zae ⟨_, h, so (l4 rfl rfl rfl rfl (lq rfl (lq rfl (lq rfl lt0))))⟩)))))))))
      ·replace h := ite_f h hc
       refine Gy_q rfl rfl rfl (zam (av := .exact v5_l2) rfl (Gy_r rfl rfl rfl (op_len_vec (by kernel_rfl) rfl (Gy_q rfl rfl rfl (zam (av := .xs (gi a1 x20_l2)) rfl (Gy_q rfl rfl rfl (op_lenS (by kernel_rfl) rfl (Gy_q rfl rfl rfl (op_add rfl rfl rfl (Gy_q rfl rfl rfl (op_gtr rfl rfl (gq (zaj rfl (av := .xb (decide (131072 < (i64 ((List.length x5_l2 : Int) + (List.length (gi a1 x20_l2) : Int)))))) rfl (zad (zae ⟨_, h, so (l4 rfl rfl rfl rfl (lq rfl (lq rfl (lq rfl lt0))))⟩)))))))))))))))
     ·refine kb (p := x33_j81) rfl h (fun hc h => ?_) (fun hc h => ?_)
      ·refine zac (kr (qa (.xs ([] : List UInt8)) rfl (zad (zaa (zax (zba (zbb (zba (zbj (zbb (zbj ?_)))))))))))
       obtain rfl := oi h
       refine ke (pt AF0 4 (.xs ([] : List UInt8))) [] rfl (Sub.trans (SubU.to SubU.drop) (s1 rfl)) ⟨rfl, rfl⟩
      ·refine zat (zaa (kr (qm (.exact v5_l2) rfl (qm (.xs (gi a1 x20_l2)) rfl ?_))))
       obtain ⟨n82, h⟩ := zah h
       refine G_l rfl (op_appTS (fun _ => rfl) (by kernel_rfl) (by kernel_rfl) (by kernel_rfl) (by kernel_rfl) rfl rfl n82 (fun v83 => qa (.exact v83) rfl (zad (zaz (zaa (kr (gq (op_add rfl rfl rfl (qm (.xi (i64 (x20_l2 + 1))) rfl (zad (zae ⟨_, _, v83, h, so (l4 rfl rfl rfl rfl (lq rfl lt0))⟩)))))))))))
    ·refine k_exit (kC_exit (kI_exit (kB_exit (zae ⟨_, v5_l2, h, s2 rfl rfl⟩))))
  ·refine zac (zac (kr (qm (.row 1 zab a1) rfl ?_)))
   obtain ⟨y84, hy84, h⟩ := zag h
   refine gq (zal (m_slices_ContainsFunc_L_api_Value_api_Value_ok _ _ _ hy84) Tryz.func47 (by kernel_rfl) (lc lf (lc ((fn_le Tryz.func110 (by kernel_rfl) (fun i r h => m_value_compound_1_ok i r h))) ln)) (gq (op_not rfl (zad (zaa (kb (p := !y84) rfl h (fun hc h => ?_) (fun hc h => ?_)))))))
   ·refine zac (kr (qm (.exact v5_j4) rfl (G_sub rfl (SubU.freezeT2 (s1 := 5) (s2 := 41) rfl rfl len_c_uint8) ?_)))
    obtain ⟨y85, hy85, h⟩ := zag h
    refine gq (zal (m_value_checked_ok _ _ hy85) Tryz.func111 (by kernel_rfl) (lc lf ln) (qa (.xs y85) rfl (zad (zaa (zax (zba ?_))))))
    obtain rfl := oi h
    refine ke (pt AF0 4 (.xs y85)) [] rfl (s1 rfl) ⟨rfl, rfl⟩
   ·refine zat (zaa (zac (kr (qa (.xs ([] : List UInt8)) rfl (zad (zaa (zax ?_)))))))
    obtain rfl := oi h
    refine ke (pt AF0 4 (.xs ([] : List UInt8))) [] rfl (Sub.trans (SubU.to SubU.drop) (s1 rfl)) ⟨rfl, rfl⟩
theorem m_value_Seq_ok (a0 : List (List UInt8)) (r : (List UInt8)) (h : m_value_Seq a0 = some r) : Pure Tryz.prog 77 [(.row 1 zab a0)] (.exact (.string (bs r))) := by
 unfold m_value_Seq at h
 refine Pure.ofFun (zar Tryz.func77 rfl Tryz.ntmps77 (by simp) rfl (res1 rfl) fun E hE => k_end (zac (kr (qa (.xs ([] : List UInt8)) rfl (zad (zaa (zac (kr (qm (.row 1 zab a0) rfl ?_)))))))))
 obtain ⟨y1, hy1, h⟩ := zag h
 refine gq (zal (m_value_compound_ok _ _ _ hy1) Tryz.func84 (by kernel_rfl) (lc lf (lc lf ln)) (qa (.xs y1) rfl (zad (zaa (zax ?_)))))
 obtain rfl := oi h
 refine ke (pt AF0 2 (.xs y1)) [] rfl (s1 rfl) ⟨rfl, rfl⟩
theorem m_slices_Clone_L_api_Value_api_Value_ok (a0 : List (List UInt8)) (r : (List (List UInt8))) (h : m_slices_Clone_L_api_Value_api_Value a0 = some r) : Fun Tryz.prog 41 [(.row 1 zab a0)] [] (fun a s => ∃ z0, a = .exact z0 ∧ s = [vecT Tryz.prog 23 1 zab z0 r]) := by
 unfold m_slices_Clone_L_api_Value_api_Value at h
 refine zar Tryz.func41 rfl Tryz.ntmps41 (by simp) rfl (res1 rfl) fun E hE => k_end (zac (kr (qa (.exact (.slice none 0 0)) rfl (zad (zaa (zac (zac (kr (qm (.row 1 zab a0) rfl (gq (op_eqnil_row (by kernel_rfl) rfl (zad (zaa ?_)))))))))))))
 obtain ⟨h1, h⟩ := nilc_some h
 refine k_cond_u (p := a0 = []) rfl (fun hc => ?_) ?_
 ·replace h := h1 hc
  refine zac (kr (qa (.exact (.slice none 0 0)) rfl (zad (zaa (zax (zba ?_))))))
  obtain rfl := oi h
  refine ke (pt AF0 2 (.exact (.slice none 0 0))) [vecT Tryz.prog 23 1 zab (.slice none 0 0) []] rfl (Sub.trans (SubU.to (SubU.nilT (P := Tryz.prog) (t := 23) (n := 1) (enc := zab))) (s1 rfl)) ⟨(.slice none 0 0), rfl, rfl⟩
 ·refine zat (zaa (zac (kr (G_l rfl (op_lit0I (enc := zab) (n := 1) (by kernel_rfl) (fun v1 => qm (.row 1 zab a0) rfl ?_))))))
  obtain ⟨n2, h⟩ := zah h
  refine G_l rfl (op_appT (by kernel_rfl) rfl rfl zbe n2 (fun v3 => qa (.exact v3) rfl (zad (zaa (zax ?_)))))
  obtain rfl := oi h
  refine ke (pt AF0 2 (.exact v3)) [vecT Tryz.prog 23 1 zab v3 (([] : List (List UInt8)) ++ a0)] rfl (s1 rfl) ⟨v3, rfl, rfl⟩
theorem m_value_Compare_ok (a0 : List UInt8) (a1 : List UInt8) (r : Int) (h : m_value_Compare a0 a1 = some r) : Pure Tryz.prog 114 [(.exact (.string (bs a0))), (.exact (.string (bs a1)))] (.exact (.int .i64 r)) := by
 unfold m_value_Compare at h
 refine Pure.ofFun (zar Tryz.func114 rfl Tryz.ntmps114 (by simp) rfl (res1 rfl) fun E hE => k_end (zac (kr (qa (.xi 0) rfl (zad (zaa (zac (zac (kr (qm (.xs a0) rfl ?_))))))))))
 obtain ⟨y6, hy6, h⟩ := zag h
 refine gq (zal (m_value_Valid_ok _ _ hy6) Tryz.func37 (by kernel_rfl) (lc lf ln) (qm (.xs a1) rfl ?_))
 obtain ⟨y7, hy7, h⟩ := zag h
 refine gq (zal (m_value_Valid_ok _ _ hy7) Tryz.func37 (by kernel_rfl) (lc lf ln) (qa (.xb y6) rfl (qa (.xb y7) rfl (zad (zaa (zaw (zbc h (fun (x11_j8 : Bool) => (pt (pt (pt (pt (pt AF0 0 (.xs a0)) 1 (.xs a1)) 5 (.xb y6)) 6 (.xb y7)) 11 (.xb x11_j8))) (fun (x11_j8 : Bool) => []) (fun k8 h => ?_) (fun x11_j8 h => ?_))))))))
 ·refine kr (qm (.xb y6) rfl (qm (.xb y6) rfl (G_splitB (c := y6) 13 rfl (fun hc => ?_) (fun hc => ?_))))
  ·replace h := ite_t h hc
   refine Gy_q rfl rfl rfl (zam (av := .xb y7) rfl (gq (zau rfl (av := .xb y7) rfl (qa (.xb y7) rfl (zad (zae ⟨_, h, so (l4 rfl rfl rfl rfl (lq rfl lt0))⟩))))))
  ·replace h := ite_f h hc
   refine G_n rfl rfl (gq (zaj rfl (av := .xb false) rfl (qa (.xb false) rfl (zad (zae ⟨_, h, so (l4 rfl rfl rfl rfl (lq rfl lt0))⟩)))))
 ·refine kb (p := x11_j8) rfl h (fun hc h => ?_) (fun hc h => ?_)
  ·refine zac (kr (qm (.xs a0) rfl (qm (.xs a1) rfl ?_)))
   obtain ⟨y9, hy9, h⟩ := zag h
   refine gq (zal (m_value_compare_ok _ _ _ hy9) Tryz.func124 (by kernel_rfl) (lc lf (lc lf ln)) (qa (.xi y9) rfl (zad (zaa (zax (zbb (zba ?_)))))))
   obtain rfl := oi h
   refine ke (pt AF0 4 (.xi y9)) [] rfl (s1 rfl) ⟨rfl, rfl⟩
  ·refine zac (kr (qm (.xb y6) rfl (qa (.xb y6) rfl (zad (zaa (kb (p := y6) rfl h (fun hc h => ?_) (fun hc h => ?_)))))))
   ·refine zac (kr (qa (.xi 1) rfl (zad (zaa (zax (zbb (zba ?_)))))))
    obtain rfl := oi h
    refine ke (pt AF0 4 (.xi 1)) [] rfl (s1 rfl) ⟨rfl, rfl⟩
   ·refine zac (kr (qm (.xb y7) rfl (qa (.xb y7) rfl (zad (zaa (kb (p := y7) rfl h (fun hc h => ?_) (fun hc h => ?_)))))))
    ·refine zac (kr (qa (.xi (-1)) rfl (zad (zaa (zax (zbb (zba ?_)))))))
     obtain rfl := oi h
     refine ke (pt AF0 4 (.xi (-1))) [] rfl (s1 rfl) ⟨rfl, rfl⟩
    ·refine zat (zaz (zaa (zac (kr (qm (.xs a0) rfl (qm (.xs a1) rfl ?_))))))
     obtain ⟨y10, hy10, h⟩ := zag h
     refine gq (zal (m_cmp_Compare_api_Value_ok _ _ _ hy10) Tryz.func125 (by kernel_rfl) (lc lf (lc lf ln)) (qa (.xi y10) rfl (zad (zaa (zax ?_)))))
     obtain rfl := oi h
     refine ke (pt AF0 4 (.xi y10)) [] rfl (s1 rfl) ⟨rfl, rfl⟩
theorem m_slices_Compact_L_api_Value_api_Value_ok {w0 : Value} (a0 : List (List UInt8)) (r : (List (List UInt8))) (h : m_slices_Compact_L_api_Value_api_Value a0 = some r) : Fun Tryz.prog 115 [(.exact w0)] [vecT Tryz.prog 23 1 zab w0 a0] (fun a s => ∃ z0, a = .exact z0 ∧ s = [vecT Tryz.prog 23 1 zab z0 r]) := by
 unfold m_slices_Compact_L_api_Value_api_Value at h
 refine zar Tryz.func115 rfl Tryz.ntmps115 (by simp) rfl (res1 rfl) fun E hE => k_end (zac (kr (qa (.exact (.slice none 0 0)) rfl (zad (zaa (zac (zac (kr (qm (.exact w0) rfl (G_r rfl (op_len_vec (by kernel_rfl) rfl (gq (op_lss rfl rfl (zad (zaa (kd (p := (List.length a0 : Int) < 2) rfl h (fun hc h => ?_) (fun hc h => ?_)))))))))))))))))
 ·refine zac (kr (qm (.exact w0) rfl (qa (.exact w0) rfl (zad (zaa (zax (zba ?_)))))))
  obtain rfl := oi h
  refine ke (pt AF0 2 (.exact w0)) [vecT Tryz.prog 23 1 zab w0 a0] rfl (s1 rfl) ⟨w0, rfl, rfl⟩
 ·refine zat (zaa (k_join0_0 h ((pt AF0 0 (.exact w0))) ([vecT Tryz.prog 23 1 zab w0 a0]) (fun k1 h => ?_) (fun  h => ?_)))
  ·refine zac (kr (qa (.xi 1) rfl (zad (zaa (zaw (k_loop1_0 (m_slices_Compact_L_api_Value_api_Value_L14 a0 k1) (m_slices_Compact_L_api_Value_api_Value_B14 a0 k1) (fun _ => rfl) (fun m _ => rfl) h (fun (x3_l14 : Int) => (pt (pt AF0 0 (.exact w0)) 3 (.xi x3_l14))) (fun (x3_l14 : Int) => [vecT Tryz.prog 23 1 zab w0 a0]) ?_ (fun rec14 x3_l14 h => ?_)))))))
   ·exact s2 rfl rfl
   ·unfold m_slices_Compact_L_api_Value_api_Value_B14 at h
    refine zac (zac (kr (qm (.xi x3_l14) rfl (qm (.exact w0) rfl (G_r rfl (op_len_vec (by kernel_rfl) rfl (gq (op_lss rfl rfl (zad (zaa (kd (p := x3_l14 < (List.length a0 : Int)) rfl h (fun hc h => ?_) (fun hc h => ?_))))))))))))
    ·refine zat (zaa (k_join0_0 h ((pt (pt AF0 0 (.exact w0)) 3 (.xi x3_l14))) ([vecT Tryz.prog 23 1 zab w0 a0]) (fun k638 h => ?_) (fun  h => ?_)))
     ·refine zaw (zac (k_plan [] [(0, 0), (0, 1), (0, 4), (0, 5), (0, 6), (1, 2), (1, 3), (1, 7), (1, 8), (0, 9)] hmixP (by kernel_rfl) (P_q zaq rfl (zam (av := .exact w0) rfl (P_q zaq rfl (zam (av := .xi x3_l14) rfl (P_q zaq rfl (zam (av := .exact w0) rfl (P_q zaq rfl (zam (av := .xi x3_l14) rfl (P_q zaq rfl (op_sub rfl rfl rfl ?_))))))))))))
      obtain ⟨n702, h⟩ := zah h
      refine P_r rfl (op_index_vec (by kernel_rfl) rfl rfl n702.1 n702.2 (P_r rfl (op_load_vec1 (i := x3_l14) (o := 0) (a := .xs (gi a0 x3_l14)) (by kernel_rfl) zay rfl n702.1 n702.2 rfl ?_)))
      obtain ⟨n703, h⟩ := zah h
      refine P_r rfl (op_index_vec (by kernel_rfl) rfl rfl n703.1 n703.2 (P_r rfl (op_load_vec1 (i := i64 (x3_l14 - 1)) (o := 0) (a := .xs (gi a0 (i64 (x3_l14 - 1)))) (by kernel_rfl) zay rfl n703.1 n703.2 rfl (P_q zaq rfl (op_eqlS rfl rfl (P_nil (zaa (kd (p := (gi a0 x3_l14) = (gi a0 (i64 (x3_l14 - 1)))) rfl h (fun hc h => ?_) (fun hc h => ?_)))))))))
      ·refine zac (kr (qm (.exact w0) rfl (qm (.xi x3_l14) rfl ?_)))
       obtain ⟨n704, h⟩ := zah h
       refine G_r rfl (op_slice_vec (by kernel_rfl) rfl (bnd_some rfl) bnd_none n704.1 n704.2.1 n704.2.2 (qa (.vsub w0 1 (Int.toNat x3_l14) (Int.toNat (List.length a0 : Int) - Int.toNat x3_l14)) rfl (zad (zaa (k_join2_0 h (fun (x0_j705 : List (List UInt8)) (x3_j705 : Int) => (pt (pt AF0 0 (.exact w0)) 3 (.xi x3_j705))) (fun (x0_j705 : List (List UInt8)) (x3_j705 : Int) => [vecT Tryz.prog 23 1 zab w0 x0_j705]) (fun k705 h => ?_) (fun x0_j705 x3_j705 h => ?_))))))
       ·refine zac (kr (qa (.xi 1) rfl (zad (zaa (zaw (k_loop3_0 (m_slices_Compact_L_api_Value_api_Value_L26 a0 x3_l14 k705) (m_slices_Compact_L_api_Value_api_Value_B26 a0 x3_l14 k705) (fun _ _ _ => rfl) (fun m _ _ _ => rfl) h (fun (x0_l26 : List (List UInt8)) (x3_l26 : Int) (x5_l26 : Int) => (pt (pt (pt (pt AF0 0 (.exact w0)) 3 (.xi x3_l26)) 4 (.vsub w0 1 (Int.toNat x3_l14) (Int.toNat (List.length a0 : Int) - Int.toNat x3_l14))) 5 (.xi x5_l26))) (fun (x0_l26 : List (List UInt8)) (x3_l26 : Int) (x5_l26 : Int) => [vecT Tryz.prog 23 1 zab w0 x0_l26]) ?_ (fun rec26 x0_l26 x3_l26 x5_l26 h => ?_)))))))
        ·exact s4 rfl rfl rfl rfl
        ·unfold m_slices_Compact_L_api_Value_api_Value_B26 at h
         refine zac (zac (kr (qm (.xi x5_l26) rfl (qm (.vsub w0 1 (Int.toNat x3_l14) (Int.toNat (List.length a0 : Int) - Int.toNat x3_l14)) rfl (gq (op_len_vsub (by kernel_rfl) rfl (gq (op_lss rfl rfl (zad (zaa (kd (p := x5_l26 < ((Int.toNat (List.length a0 : Int) - Int.toNat x3_l14 : Nat) : Int)) rfl h (fun hc h => ?_) (fun hc h => ?_))))))))))))
         ·refine zat (zaa (k_join2_0 h (fun (x0_j752 : List (List UInt8)) (x3_j752 : Int) => (pt (pt (pt (pt AF0 0 (.exact w0)) 3 (.xi x3_j752)) 4 (.vsub w0 1 (Int.toNat x3_l14) (Int.toNat (List.length a0 : Int) - Int.toNat x3_l14))) 5 (.xi x5_l26))) (fun (x0_j752 : List (List UInt8)) (x3_j752 : Int) => [vecT Tryz.prog 23 1 zab w0 x0_j752]) (fun k752 h => ?_) (fun x0_j752 x3_j752 h => ?_)))
          ·refine zaw (zac (k_plan [] [(0, 0), (0, 1), (0, 4), (0, 5), (0, 6), (1, 2), (1, 3), (1, 7), (1, 8), (0, 9)] hmixP (by kernel_rfl) (P_q zaq rfl (zam (av := .vsub w0 1 (Int.toNat x3_l14) (Int.toNat (List.length a0 : Int) - Int.toNat x3_l14)) rfl (P_q zaq rfl (zam (av := .xi x5_l26) rfl (P_q zaq rfl (zam (av := .vsub w0 1 (Int.toNat x3_l14) (Int.toNat (List.length a0 : Int) - Int.toNat x3_l14)) rfl (P_q zaq rfl (zam (av := .xi x5_l26) rfl (P_q zaq rfl (op_sub rfl rfl rfl ?_))))))))))))
           obtain ⟨n757, h⟩ := zah h
           refine P_r rfl (op_index_vsub (j := (x3_l14 + x5_l26)) (by kernel_rfl) rfl rfl n757.2.1 (by have hh := n757; try simp only [i64] at *; omega) (by have hh := n757; try simp only [i64] at *; omega) (by have hh := n757; try simp only [i64] at *; omega) (P_r rfl (op_load_vec1 (i := (x3_l14 + x5_l26)) (o := 0) (a := .xs (gi x0_l26 (x3_l14 + x5_l26))) (by kernel_rfl) zay rfl n757.2.2.2.1 n757.2.2.2.2 rfl ?_)))
           obtain ⟨n758, h⟩ := zah h
           refine P_r rfl (op_index_vsub (j := (x3_l14 + (i64 (x5_l26 - 1)))) (by kernel_rfl) rfl rfl n758.2.1 (by have hh := n758; try simp only [i64] at *; omega) (by have hh := n758; try simp only [i64] at *; omega) (by have hh := n758; try simp only [i64] at *; omega) (P_r rfl (op_load_vec1 (i := (x3_l14 + (i64 (x5_l26 - 1)))) (o := 0) (a := .xs (gi x0_l26 (x3_l14 + (i64 (x5_l26 - 1))))) (by kernel_rfl) zay rfl n758.2.2.2.1 n758.2.2.2.2 rfl (P_q zaq rfl (op_neqS rfl rfl (P_nil (zaa (kd (p := ¬ (gi x0_l26 (x3_l14 + x5_l26)) = (gi x0_l26 (x3_l14 + (i64 (x5_l26 - 1))))) rfl h (fun hc h => ?_) (fun hc h => ?_)))))))))
           ·refine zac (kr (qm (.exact w0) rfl (qm (.xi x3_l26) rfl (qm (.vsub w0 1 (Int.toNat x3_l14) (Int.toNat (List.length a0 : Int) - Int.toNat x3_l14)) rfl (qm (.xi x5_l26) rfl ?_)))))
            obtain ⟨n759, h⟩ := zah h
            refine G_r rfl (op_index_vsub (j := (x3_l14 + x5_l26)) (by kernel_rfl) rfl rfl n759.2.1 (by have hh := n759; try simp only [i64] at *; omega) (by have hh := n759; try simp only [i64] at *; omega) (by have hh := n759; try simp only [i64] at *; omega) (G_r rfl (op_load_vec1 (i := (x3_l14 + x5_l26)) (o := 0) (a := .xs (gi x0_l26 (x3_l14 + x5_l26))) (by kernel_rfl) zay rfl n759.2.2.2.1 n759.2.2.2.2 rfl ?_)))
            obtain ⟨n760, h⟩ := zah h
            refine G_r rfl (op_index_vec (by kernel_rfl) rfl rfl n760.1 n760.2 (G_l rfl (op_store_vec (i := x3_l26) (o := 0) (z := gi x0_l26 (x3_l14 + x5_l26)) (c' := [.xs (gi x0_l26 (x3_l14 + x5_l26))]) (by kernel_rfl) zay rfl n760.1 n760.2 rfl CellsOf.str (lc lf ln) (OneC.str OneC.nil) (by kernel_rfl) (Nat.le_of_ble_eq_true rfl) rfl (zad (zaa (kr (qm (.xi x3_l26) rfl (gq (op_add rfl rfl rfl (qa (.xi (i64 (x3_l26 + 1))) rfl (zad (zaz (zae ⟨_, _, h, s4 rfl rfl rfl rfl⟩)))))))))))))
           ·refine zat (zaz (zae ⟨_, _, h, s4 rfl rfl rfl rfl⟩))
          ·refine kr (qm (.xi x5_l26) rfl (gq (op_add rfl rfl rfl (qa (.xi (i64 (x5_l26 + 1))) rfl (zad (zae ⟨_, _, _, h, s4 rfl rfl rfl rfl⟩))))))
         ·refine k_exit (kC_exit (kI_exit (kB_exit (zae ⟨_, _, h, s2 rfl rfl⟩))))
       ·refine zac (kr (qm (.exact w0) rfl (qm (.xi x3_j705) rfl ?_)))
        obtain ⟨n761, h⟩ := zah h
        refine G_r rfl (op_slice_vec (by kernel_rfl) rfl (bnd_some rfl) bnd_none n761.1 n761.2.1 n761.2.2 (G_l rfl (op_clear (zr := []) (by kernel_rfl) zay zbe rfl (by have := n761; omega) Tryz.zeroValue26 (fun _ _ => (Fit.ex Fit.nil0)) (zad (zaa (zac (kr (qm (.exact w0) rfl (qm (.xi x3_j705) rfl ?_)))))))))
        obtain ⟨n762, h⟩ := zah h
        refine G_l rfl (op_trunc (by kernel_rfl) zay rfl (bnd_some rfl) n762.1 n762.2 (fun v763 => qa (.exact v763) rfl (zad (zaa (zax (zbb (zbj (zbj (zbb (zbj ?_))))))))))
        obtain rfl := oi h
        refine ke (pt AF0 2 (.exact v763)) [vecT Tryz.prog 23 1 zab v763 (List.take (Int.toNat x3_j705) (List.take (Int.toNat x3_j705) x0_j705 ++ List.replicate (Int.toNat (List.length x0_j705 : Int) - Int.toNat x3_j705) ([] : List UInt8) ++ List.drop (Int.toNat x3_j705 + (Int.toNat (List.length x0_j705 : Int) - Int.toNat x3_j705)) x0_j705))] rfl (s1 rfl) ⟨v763, rfl, rfl⟩
      ·refine zat (zaz (zae ⟨h, s2 rfl rfl⟩))
     ·refine kr (qm (.xi x3_l14) rfl (gq (op_add rfl rfl rfl (qa (.xi (i64 (x3_l14 + 1))) rfl (zad (zae ⟨_, h, s2 rfl rfl⟩))))))
    ·refine k_exit (kC_exit (kI_exit (kB_exit (zae ⟨h, s1 rfl⟩))))
  ·refine zac (kr (qm (.exact w0) rfl (qa (.exact w0) rfl (zad (zaa (zax ?_))))))
   obtain rfl := oi h
   refine ke (pt AF0 2 (.exact w0)) [vecT Tryz.prog 23 1 zab w0 a0] rfl (s1 rfl) ⟨w0, rfl, rfl⟩
theorem m_value_Sort_ok (a0 : List (List UInt8)) (r : (List (List UInt8))) (h : m_value_Sort a0 = some r) : Fun Tryz.prog 89 [(.row 1 zab a0)] [] (fun a s => ∃ z0, a = .exact z0 ∧ s = [vecO Tryz.prog 23 1 zab z0 r]) := by
 unfold m_value_Sort at h
 refine zar Tryz.func89 rfl Tryz.ntmps89 (by simp) rfl (res1 rfl) fun E hE => k_end (zac (kr (qa (.exact (.slice none 0 0)) rfl (zad (zaa (zac (kr (qm (.row 1 zab a0) rfl ?_))))))))
 obtain ⟨y1, hy1, h⟩ := zag h
 refine G_l rfl (op_fun_0_1_1 (m_slices_Clone_L_api_Value_api_Value_ok _ _ hy1) Tryz.func41 (by kernel_rfl) (lc lf ln) (fun v2 => qa (.exact v2) rfl (zad (zaa (zac (kr (qm (.exact v2) rfl ?_)))))))
 obtain ⟨y3, hy3, h⟩ := zag h
 refine G_l rfl (zbl (m_sort_api_Value_ok m_value_Compare_ok _ _ hy3) Tryz.func113 (by kernel_rfl) (lc lf (lc lf ln)) (zad (zaa (zac (kr (qm (.exact v2) rfl ?_))))))
 obtain ⟨y4, hy4, h⟩ := zag h
 refine G_l rfl (op_fun_1_1_1 (m_slices_Compact_L_api_Value_api_Value_ok _ _ hy4) Tryz.func115 (by kernel_rfl) (lc lf ln) (fun v5 => ?_))
 obtain ⟨y6, hy6, h⟩ := zag h
 refine G_l rfl (op_fun_1_1_1 (m_slices_Clip_L_api_Value_api_Value_ok _ _ hy6) Tryz.func43 (by kernel_rfl) (lc lf ln) (fun v7 => qa (.exact v7) rfl (zad (zaa (zax ?_)))))
 obtain rfl := oi h
 refine ke (pt AF0 2 (.exact v7)) [vecO Tryz.prog 23 1 zab v7 y6] rfl (s1 rfl) ⟨v7, rfl, rfl⟩
theorem m_value_Sort_fz (a0 : List (List UInt8)) (r : (List (List UInt8))) (h : m_value_Sort a0 = some r) : Pure Tryz.prog 89 [(.row 1 zab a0)] (.row 1 zab r) := Pure.ofOwnO zay (m_value_Sort_ok a0 r h)
theorem m_value_Set_ok (a0 : List (List UInt8)) (r : (List UInt8)) (h : m_value_Set a0 = some r) : Pure Tryz.prog 105 [(.row 1 zab a0)] (.exact (.string (bs r))) := by
 unfold m_value_Set at h
 refine Pure.ofFun (zar Tryz.func105 rfl Tryz.ntmps105 (by simp) rfl (res1 rfl) fun E hE => k_end (zac (kr (qa (.xs ([] : List UInt8)) rfl (zad (zaa (zac (kr (qm (.row 1 zab a0) rfl ?_)))))))))
 obtain ⟨y1, hy1, h⟩ := zag h
 refine gq (zal (m_value_Sort_fz _ _ hy1) Tryz.func89 (by kernel_rfl) (lc lf ln) ?_)
 obtain ⟨y2, hy2, h⟩ := zag h
 refine gq (zal (m_value_compound_ok _ _ _ hy2) Tryz.func84 (by kernel_rfl) (lc lf (lc lf ln)) (qa (.xs y2) rfl (zad (zaa (zax ?_)))))
 obtain rfl := oi h
 refine ke (pt AF0 2 (.xs y2)) [] rfl (s1 rfl) ⟨rfl, rfl⟩
theorem m_finset_sized_ok (a0 : Int) (a1 : List UInt8) (r : (List UInt8) × Int) (h : m_finset_sized a0 a1 = some r) : Pure Tryz.prog 104 [(.exact (.int .i64 a0)), (.exact (.string (bs a1)))] (.tup [.exact (.string (bs r.1)), .exact (.int .i64 r.2)]) := by
 unfold m_finset_sized at h
 refine Pure.ofFun (zar Tryz.func104 rfl Tryz.ntmps104 (by simp) rfl (res2 rfl) fun E hE => k_end (zac (kr (qa (.xs ([] : List UInt8)) rfl (qa (.xi 0) rfl (zad (zaa (zac (zbc h (fun (x11_j3 : Bool) => (pt (pt AF0 1 (.xs a1)) 11 (.xb x11_j3))) (fun (x11_j3 : Bool) => []) (fun k3 h => ?_) (fun x11_j3 h => ?_))))))))))
 ·refine kr (qm (.xi a0) rfl (gq (op_gtr rfl rfl (qm (.xb (decide (4096 < a0))) rfl (G_split (p := 4096 < a0) 8 rfl (fun hc => ?_) (fun hc => ?_))))))
  ·replace h := ite_t h hc
   refine G_n rfl rfl (G_n rfl rfl (gq (zau rfl (av := .xb true) rfl (zad (zae ⟨_, h, s2 rfl rfl⟩)))))
  ·replace h := ite_f h hc
   refine Gy_q rfl rfl rfl (zam (av := .xs a1) rfl (Gy_q rfl rfl rfl (op_eqlS rfl rfl (gq (zaj rfl (av := .xb (decide (a1 = ([] : List UInt8)))) rfl (zad (zae ⟨_, h, s2 rfl rfl⟩)))))))
 ·refine kb (p := x11_j3) rfl h (fun hc h => ?_) (fun hc h => ?_)
  ·refine zac (kr (qa (.xs ([] : List UInt8)) rfl (qa (.xi 9) rfl (zad (zaa (zax (zba ?_)))))))
   obtain rfl := oi h
   refine ke (pt (pt AF0 4 (.xs ([] : List UInt8))) 5 (.xi 9)) [] rfl (s2 rfl rfl) ⟨rfl, rfl⟩
  ·refine zat (zaa (zac (kr (qm (.xs a1) rfl (qa (.xs a1) rfl (qa (.xi 0) rfl (zad (zaa (zax ?_)))))))))
   obtain rfl := oi h
   refine ke (pt (pt AF0 4 (.xs a1)) 5 (.xi 0)) [] rfl (s2 rfl rfl) ⟨rfl, rfl⟩
theorem m_finset_set_ok (a0 : List (List UInt8)) (r : (List UInt8) × Int) (h : m_finset_set a0 = some r) : Pure Tryz.prog 78 [(.row 1 zab a0)] (.tup [.exact (.string (bs r.1)), .exact (.int .i64 r.2)]) := by
 unfold m_finset_set at h
 refine Pure.ofFun (zar Tryz.func78 rfl Tryz.ntmps78 (by simp) rfl (res2 rfl) fun E hE => k_end (zac (kr (qa (.xs ([] : List UInt8)) rfl (qa (.xi 0) rfl (zad (zaa (zac (zac (kr (qm (.row 1 zab a0) rfl (gq (zap (by kernel_rfl) rfl (gq (op_gtr rfl rfl (zad (zaa (kd (p := 4096 < (List.length a0 : Int)) rfl h (fun hc h => ?_) (fun hc h => ?_)))))))))))))))))))
 ·refine zac (kr (qa (.xs ([] : List UInt8)) rfl (qa (.xi 9) rfl (zad (zaa (zax (zba ?_)))))))
  obtain rfl := oi h
  refine ke (pt (pt AF0 2 (.xs ([] : List UInt8))) 3 (.xi 9)) [] rfl (s2 rfl rfl) ⟨rfl, rfl⟩
 ·refine zat (zaa (zac (kr (qm (.row 1 zab a0) rfl (gq (zap (by kernel_rfl) rfl (qm (.row 1 zab a0) rfl ?_)))))))
  obtain ⟨y1, hy1, h⟩ := zag h
  refine gq (zal (m_value_Set_ok _ _ hy1) Tryz.func105 (by kernel_rfl) (lc lf ln) ?_)
  obtain ⟨y2, hy2, h⟩ := zag h
  refine gq (zal (m_finset_sized_ok _ _ _ hy2) Tryz.func104 (by kernel_rfl) (lc lf (lc lf ln)) (gq (zas (av := .xs y2.1) rfl rfl (gq (zas (av := .xi y2.2) rfl rfl (qa (.xs y2.1) rfl (qa (.xi y2.2) rfl (zad (zaa (zax ?_))))))))))
  obtain rfl := oi h
  refine ke (pt (pt AF0 2 (.xs y2.1)) 3 (.xi y2.2)) [] rfl (s2 rfl rfl) ⟨rfl, rfl⟩
theorem m_finset_Product_ok (a0 : List (List UInt8)) (r : (List UInt8) × Int) (h : m_finset_Product a0 = some r) : Pure Tryz.prog 34 [(.row 1 zab a0)] (.tup [.exact (.string (bs r.1)), .exact (.int .i64 r.2)]) := by
 unfold m_finset_Product at h
 refine Pure.ofFun (zar Tryz.func34 rfl Tryz.ntmps34 (by simp) rfl (res2 rfl) fun E hE => k_end (zac (kr (qa (.xs ([] : List UInt8)) rfl (qa (.xi 0) rfl (zad (zaa (zac (kr (qm (.row 1 zab a0) rfl ?_))))))))))
 obtain ⟨y1, hy1, h⟩ := zag h
 refine gq (zal (m_finset_elements_ok _ _ hy1) Tryz.func75 (by kernel_rfl) (lc lf ln) (qm (.tup [.row 1 zan y1.1, .xi y1.2]) rfl (gq (zas (av := .row 1 zan y1.1) rfl rfl (gq (zas (av := .xi y1.2) rfl rfl (qa (.row 1 zan y1.1) rfl (qa (.xi y1.2) rfl (zad (zaa (zac (zac (kr (qm (.xi y1.2) rfl (gq (op_neq rfl rfl (zad (zaa (kd (p := ¬ y1.2 = 0) rfl h (fun hc h => ?_) (fun hc h => ?_))))))))))))))))))))
 ·refine zac (kr (qm (.xi y1.2) rfl (qa (.xs ([] : List UInt8)) rfl (qa (.xi y1.2) rfl (zad (zaa (zax (zba ?_))))))))
  obtain rfl := oi h
  refine ke (pt (pt AF0 2 (.xs ([] : List UInt8))) 3 (.xi y1.2)) [] rfl (s2 rfl rfl) ⟨rfl, rfl⟩
 ·refine zat (zaa (zac (kr (qm (.row 1 zan y1.1) rfl ?_))))
  obtain ⟨y2, hy2, h⟩ := zag h
  refine gq (zal (m_finset_count_ok _ _ hy2) Tryz.func76 (by kernel_rfl) (lc lf ln) (qa (.xi y2) rfl (zad (zaa (zac (zac (kr (qm (.xi y2) rfl (gq (op_gtr rfl rfl (zad (zaa (kd (p := 4096 < y2) rfl h (fun hc h => ?_) (fun hc h => ?_))))))))))))))
  ·refine zac (kr (qa (.xs ([] : List UInt8)) rfl (qa (.xi 9) rfl (zad (zaa (zax (zba ?_)))))))
   obtain rfl := oi h
   refine ke (pt (pt AF0 2 (.xs ([] : List UInt8))) 3 (.xi 9)) [] rfl (s2 rfl rfl) ⟨rfl, rfl⟩
  ·refine zat (zaa (zac (kr (qa (.exact (.slice none 0 0)) rfl (zad (zaa (k_join1_1 h (fun (x7_j3 : List (List UInt8)) (v7_j3 : Value) => (pt AF0 7 (.exact v7_j3))) (fun (x7_j3 : List (List UInt8)) (v7_j3 : Value) => [vecT Tryz.prog 23 1 zab v7_j3 x7_j3]) (fun k3 h => ?_) (fun x7_j3 v7_j3 h => ?_))))))))
   ·refine zac (kr (qm (.xi y2) rfl (qm (.xi 0) rfl (zad (zaa (zaw (k_loop2_1 (m_finset_Product_L14 y1 y2 k3) (m_finset_Product_B14 y1 y2 k3) (fun _ _ => rfl) (fun m _ _ => rfl) h (fun (x7_l14 : List (List UInt8)) (x24_l14 : Int) (v7_l14 : Value) => (pt (pt (pt (pt AF0 4 (.row 1 zan y1.1)) 7 (.exact v7_l14)) 23 (.xi y2)) 24 (.xi x24_l14))) (fun (x7_l14 : List (List UInt8)) (x24_l14 : Int) (v7_l14 : Value) => [vecT Tryz.prog 23 1 zab v7_l14 x7_l14]) (.slice none 0 0) ?_ (fun rec14 x7_l14 x24_l14 v7_l14 h => ?_))))))))
    ·refine Sub.trans (SubU.to (SubU.nilT (P := Tryz.prog) (t := 23) (n := 1) (enc := zab))) (s4 rfl rfl rfl rfl)
    ·unfold m_finset_Product_B14 at h
     refine zac (kr (gq (op_lss rfl rfl (zad (zaa (zac (kd (p := x24_l14 < y2) rfl h (fun hc h => ?_) (fun hc h => ?_))))))))
     ·refine zat (zaa (k_join1_1 h (fun (x7_j510 : List (List UInt8)) (v7_j510 : Value) => (pt (pt (pt (pt AF0 4 (.row 1 zan y1.1)) 7 (.exact v7_j510)) 23 (.xi y2)) 24 (.xi x24_l14))) (fun (x7_j510 : List (List UInt8)) (v7_j510 : Value) => [vecT Tryz.prog 23 1 zab v7_j510 x7_j510]) (fun k510 h => ?_) (fun x7_j510 v7_j510 h => ?_)))
      ·refine zaw (zac (kr (qm (.xi x24_l14) rfl (qa (.xi x24_l14) rfl (zad (zaa (zac (kr (qm (.row 1 zan y1.1) rfl (gq (zap (by kernel_rfl) rfl ?_)))))))))))
       obtain ⟨n561, h⟩ := zah h
       refine G_l rfl (op_make (enc := zab) (zr := ([] : List UInt8)) (by kernel_rfl) rfl rfl n561.1 n561.2 zay Tryz.zeroValue26 (fun _ _ => (Fit.ex Fit.nil0)) (fun v562 => qa (.exact v562) rfl (zad (zaa (zbc h (fun (x9_j563 : List (List UInt8)) => (pt (pt (pt (pt (pt AF0 4 (.row 1 zan y1.1)) 7 (.exact v7_l14)) 9 (.exact v562)) 23 (.xi y2)) 24 (.xi x24_l14))) (fun (x9_j563 : List (List UInt8)) => [vecT Tryz.prog 23 1 zab v7_l14 x7_l14, vecT Tryz.prog 23 1 zab v562 x9_j563]) (fun k563 h => ?_) (fun x9_j563 h => ?_))))))
       ·refine zac (kr (qm (.row 1 zan y1.1) rfl (gq (zap (by kernel_rfl) rfl (gq (op_sub rfl rfl rfl (qa (.xi (i64 ((List.length y1.1 : Int) - 1))) rfl (zad (zaa (zaw (k_loop3_0 (m_finset_Product_L26 y1 k563) (m_finset_Product_B26 y1 k563) (fun _ _ _ => rfl) (fun m _ _ _ => rfl) h (fun (x8_l26 : Int) (x9_l26 : List (List UInt8)) (x10_l26 : Int) => (pt (pt (pt (pt (pt (pt (pt AF0 4 (.row 1 zan y1.1)) 7 (.exact v7_l14)) 8 (.xi x8_l26)) 9 (.exact v562)) 10 (.xi x10_l26)) 23 (.xi y2)) 24 (.xi x24_l14))) (fun (x8_l26 : Int) (x9_l26 : List (List UInt8)) (x10_l26 : Int) => [vecT Tryz.prog 23 1 zab v7_l14 x7_l14, vecT Tryz.prog 23 1 zab v562 x9_l26]) ?_ (fun rec26 x8_l26 x9_l26 x10_l26 h => ?_))))))))))))
        ·refine Sub.trans (SubU.to SubU.f1) (so (l4 rfl rfl rfl rfl (lq rfl (lq rfl (lq rfl lt0)))))
        ·unfold m_finset_Product_B26 at h
         refine zac (zac (kr (qm (.xi x10_l26) rfl (gq (op_geq rfl rfl (zad (zaa (kd (p := 0 ≤ x10_l26) rfl h (fun hc h => ?_) (fun hc h => ?_)))))))))
         ·refine zat (zaa (zac (zaw (zac (k_plan [] [(0, 0), (0, 1), (0, 2), (0, 3), (0, 4), (0, 5), (0, 6), (0, 7), (0, 8), (0, 9), (0, 10), (0, 11), (0, 12), (0, 13), (0, 14), (1, 15), (2, 16)] hmixP (by kernel_rfl) (P_q zaq rfl (zam (av := .exact v562) rfl (P_q zaq rfl (zam (av := .xi x10_l26) rfl (P_q zaq rfl (zam (av := .row 1 zan y1.1) rfl (P_q zaq rfl (zam (av := .xi x10_l26) rfl ?_)))))))))))))
          obtain ⟨n600, h⟩ := zah h
          refine P_q zaq rfl (zao (by kernel_rfl) rfl rfl n600.1 n600.2 (P_q zaq rfl (zav (a := .row 1 zab (gi y1.1 x10_l26)) (by kernel_rfl) rfl rfl (P_q zaq rfl (zam (av := .xi x8_l26) rfl (P_q zaq rfl (zam (av := .row 1 zan y1.1) rfl (P_q zaq rfl (zam (av := .xi x10_l26) rfl ?_)))))))))
          obtain ⟨n601, h⟩ := zah h
          refine P_q zaq rfl (zao (by kernel_rfl) rfl rfl n601.1 n601.2 (P_q zaq rfl (zav (a := .row 1 zab (gi y1.1 x10_l26)) (by kernel_rfl) rfl rfl (P_q zaq rfl (zap (by kernel_rfl) rfl ?_)))))
          obtain ⟨n602, h⟩ := zah h
          refine P_q zaq rfl (op_rem rfl rfl n602 rfl ?_)
          obtain ⟨n603, h⟩ := zah h
          refine P_q zaq rfl (zao (by kernel_rfl) rfl rfl n603.1 n603.2 (P_q zaq rfl (zav (a := .xs (gi (gi y1.1 x10_l26) (Int.tmod x8_l26 (List.length (gi y1.1 x10_l26) : Int)))) (by kernel_rfl) rfl rfl ?_)))
          obtain ⟨n604, h⟩ := zah h
          refine P_r rfl (opR_f1 (op_index_vec (by kernel_rfl) rfl rfl n604.1 n604.2 (P_l rfl (opB_f1 (op_store_vec (i := x10_l26) (o := 0) (z := gi (gi y1.1 x10_l26) (Int.tmod x8_l26 (List.length (gi y1.1 x10_l26) : Int))) (c' := [.xs (gi (gi y1.1 x10_l26) (Int.tmod x8_l26 (List.length (gi y1.1 x10_l26) : Int)))]) (by kernel_rfl) zay rfl n604.1 n604.2 rfl CellsOf.str (lc lf ln) (OneC.str OneC.nil) (by kernel_rfl) (Nat.le_of_ble_eq_true rfl) rfl (P_nil (zaa (kr (qm (.xi x8_l26) rfl (qm (.row 1 zan y1.1) rfl (qm (.xi x10_l26) rfl ?_)))))))))))
          obtain ⟨n605, h⟩ := zah h
          refine gq (zao (by kernel_rfl) rfl rfl n605.1 n605.2 (gq (zav (a := .row 1 zab (gi y1.1 x10_l26)) (by kernel_rfl) rfl rfl (gq (zap (by kernel_rfl) rfl ?_)))))
          obtain ⟨n606, h⟩ := zah h
          refine gq (op_quo rfl rfl n606 rfl (qa (.xi (i64 (Int.tdiv x8_l26 (List.length (gi y1.1 x10_l26) : Int)))) rfl (zad (zaz (zaa (kr (qm (.xi x10_l26) rfl (gq (op_sub rfl rfl rfl (qa (.xi (i64 (x10_l26 - 1))) rfl (zad (zae ⟨_, _, _, h, ?_⟩))))))))))))
          refine Sub.trans (SubU.to SubU.f1) (so (l4 rfl rfl rfl rfl (lq rfl (lq rfl (lq rfl lt0)))))
         ·refine k_exit (kC_exit (kI_exit (kB_exit (zae ⟨_, h, so (l4 rfl rfl rfl rfl (lq rfl lt0))⟩))))
       ·refine kr (qm (.exact v7_l14) rfl (qm (.exact v562) rfl (G_sub rfl (SubU.trans SubU.f1 (SubU.freezeT2 (s1 := 9) (s2 := 61) rfl rfl zay)) ?_)))
        obtain ⟨y607, hy607, h⟩ := zag h
        refine gq (zal (m_value_Seq_ok _ _ hy607) Tryz.func77 (by kernel_rfl) (lc lf ln) (gq (op_litT (n := 1) (enc := zab) [y607] (CellsAll.cons rfl CellsOf.str CellsAll.nil) rfl (by kernel_rfl) (LEss.cons (lc lf ln) LEss.nil) ?_)))
        obtain ⟨n608, h⟩ := zah h
        refine G_l rfl (op_appT (by kernel_rfl) rfl rfl zbe n608 (fun v609 => qa (.exact v609) rfl (zad (zaz (zae ⟨_, v609, h, s4 rfl rfl rfl rfl⟩)))))
      ·refine kr (gq (op_add rfl rfl rfl (qm (.xi (i64 (x24_l14 + 1))) rfl (zad (zae ⟨_, _, v7_j510, h, s4 rfl rfl rfl rfl⟩)))))
     ·refine k_exit (kC_exit (kI_exit (kB_exit (zae ⟨_, v7_l14, h, s1 rfl⟩))))
   ·refine zac (kr (qm (.exact v7_j3) rfl (G_sub rfl (SubU.freezeT2 (s1 := 7) (s2 := 66) rfl rfl zay) ?_)))
    obtain ⟨y610, hy610, h⟩ := zag h
    refine gq (zal (m_finset_set_ok _ _ hy610) Tryz.func78 (by kernel_rfl) (lc lf ln) (gq (zas (av := .xs y610.1) rfl rfl (gq (zas (av := .xi y610.2) rfl rfl (qa (.xs y610.1) rfl (qa (.xi y610.2) rfl (zad (zaa (zax ?_))))))))))
    obtain rfl := oi h
    refine ke (pt (pt AF0 2 (.xs y610.1)) 3 (.xi y610.2)) [] rfl (s2 rfl rfl) ⟨rfl, rfl⟩
theorem m_dataspace_Extensions_ok (a0 : List ((List UInt8) × Int × (List Int) × (List (List UInt8)))) (a1 : List UInt8) (r : (List UInt8) × Int) (h : m_dataspace_Extensions a0 a1 = some r) : Pure Tryz.prog 9 [(.row 4 zaf a0), (.exact (.string (bs a1)))] (.tup [.exact (.string (bs r.1)), .exact (.int .i64 r.2)]) := by
 unfold m_dataspace_Extensions at h
 refine Pure.ofFun (zar Tryz.func9 rfl Tryz.ntmps9 (by simp) rfl (res2 rfl) fun E hE => k_end (zac (kr (qa (.xs ([] : List UInt8)) rfl (qa (.xi 0) rfl (zad (zaa (zac (zaw (zac (kr (qm (.row 4 zaf a0) rfl ?_))))))))))))
 obtain ⟨y1, hy1, h⟩ := zag h
 refine gq (zal (m_dataspace_Valid_ok _ _ hy1) Tryz.func30 (by kernel_rfl) (lc lf ln) (gq (op_not rfl (qa (.xb (!y1)) rfl (zad (zaa (kb (p := !y1) rfl h (fun hc h => ?_) (fun hc h => ?_))))))))
 ·refine zac (kr (qa (.xs ([] : List UInt8)) rfl (qa (.xi 1) rfl (zad (zaa (zax (zbb (zba ?_))))))))
  obtain rfl := oi h
  refine ke (pt (pt AF0 4 (.xs ([] : List UInt8))) 5 (.xi 1)) [] rfl (s2 rfl rfl) ⟨rfl, rfl⟩
 ·refine zac (kr (qm (.xs a1) rfl ?_))
  obtain ⟨y2, hy2, h⟩ := zag h
  refine gq (zal (m_value_Kind_ok _ _ hy2) Tryz.func31 (by kernel_rfl) (lc lf ln) (gq (op_neq rfl rfl (qa (.xb (decide (¬ y2 = 7))) rfl (zad (zaa (kd (p := ¬ y2 = 7) rfl h (fun hc h => ?_) (fun hc h => ?_))))))))
  ·refine zac (kr (qa (.xs ([] : List UInt8)) rfl (qa (.xi 6) rfl (zad (zaa (zax (zbb (zba ?_))))))))
   obtain rfl := oi h
   refine ke (pt (pt AF0 4 (.xs ([] : List UInt8))) 5 (.xi 6)) [] rfl (s2 rfl rfl) ⟨rfl, rfl⟩
  ·refine zac (kr (qm (.row 4 zaf a0) rfl (qm (.xs a1) rfl ?_)))
   obtain ⟨y3, hy3, h⟩ := zag h
   refine gq (zal (m_dataspace_belongs_ok _ _ _ hy3) Tryz.func32 (by kernel_rfl) (lc lf (lc lf ln)) (gq (op_not rfl (qa (.xb (!y3)) rfl (zad (zaa (kb (p := !y3) rfl h (fun hc h => ?_) (fun hc h => ?_))))))))
   ·refine zac (kr (qa (.xs ([] : List UInt8)) rfl (qa (.xi 18) rfl (zad (zaa (zax (zbb (zba ?_))))))))
    obtain rfl := oi h
    refine ke (pt (pt AF0 4 (.xs ([] : List UInt8))) 5 (.xi 18)) [] rfl (s2 rfl rfl) ⟨rfl, rfl⟩
   ·refine zac (kr (qm (.row 4 zaf a0) rfl (qm (.xs a1) rfl ?_)))
    obtain ⟨y4, hy4, h⟩ := zag h
    refine gq (zal (m_dataspace_unbounded_ok _ _ _ hy4) Tryz.func33 (by kernel_rfl) (lc lf (lc lf ln)) (qa (.xb y4) rfl (zad (zaa (kb (p := y4) rfl h (fun hc h => ?_) (fun hc h => ?_))))))
    ·refine zac (kr (qa (.xs ([] : List UInt8)) rfl (qa (.xi 17) rfl (zad (zaa (zax (zbb (zba ?_))))))))
     obtain rfl := oi h
     refine ke (pt (pt AF0 4 (.xs ([] : List UInt8))) 5 (.xi 17)) [] rfl (s2 rfl rfl) ⟨rfl, rfl⟩
    ·refine zat (zaz (zaa (zac (kr (qm (.row 4 zaf a0) rfl (qm (.xs a1) rfl ?_))))))
     obtain ⟨y5, hy5, h⟩ := zag h
     refine gq (zal (m_dataspace_missing_ok _ _ _ hy5) Tryz.func35 (by kernel_rfl) (lc lf (lc lf ln)) ?_)
     obtain ⟨y6, hy6, h⟩ := zag h
     refine gq (zal (m_finset_Product_ok _ _ hy6) Tryz.func34 (by kernel_rfl) (lc lf ln) (gq (zas (av := .xs y6.1) rfl rfl (gq (zas (av := .xi y6.2) rfl rfl (qa (.xs y6.1) rfl (qa (.xi y6.2) rfl (zad (zaa (zax ?_))))))))))
     obtain rfl := oi h
     refine ke (pt (pt AF0 4 (.xs y6.1)) 5 (.xi y6.2)) [] rfl (s2 rfl rfl) ⟨rfl, rfl⟩
end Go.Proofs.YtjlbdhicabgliaaGreat
