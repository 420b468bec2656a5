/- The functions compute their models, by program. -/
import Derived.Test.YtdfdjgolijckfaaDoorQn5
namespace Go.Proofs.YtdfdjgolijckfaaDoor
open Go.RowKit
attribute [local irreducible] AV.exact AV.top AV.row AV.ptr AV.agg AV.tup AV.eptr AV.fn AV.nilq AV.nilqn opA opB opM opR Quiet Loud Reads wpG awp den Sub SubU Pure Fun vecI vecT boxI CellsAll CellsOf OneC LEs LEss
set_option maxRecDepth 100000

set_option maxHeartbeats 4000000 in
theorem m_internal_strconv_small_ok (a0 : Int) (r : (List UInt8)) (h : m_internal_strconv_small a0 = some r) : Pure Tryd.prog 131 [(.exact (.int .i64 a0))] (.exact (.string (bs r))) := by
  unfold m_internal_strconv_small at h
  refine Pure.ofFun (fun_of_awp Tryd.func131 rfl Tryd.ntmps131 (by simp) rfl (res1 rfl) fun E hE => k_end ?_)
  refine k_seq ?_
  refine k_reg .free hmixP (by kernel_rfl) ?_
  refine G_q rfl (op_assign (av := .exact (.string (bs ([] : List UInt8)))) rfl ?_)
  refine G_nil ?_
  refine kC_normal ?_
  refine k_seq ?_
  refine k_seq ?_
  refine k_reg .free hmixP (by kernel_rfl) ?_
  refine G_q rfl (op_move (av := .exact (.int .i64 a0)) rfl ?_)
  refine G_q rfl (op_lss rfl rfl ?_)
  refine G_nil ?_
  refine kC_normal ?_
  refine k_cond_d (p := a0 < 10) rfl (fun hc => ?_) (fun hc => ?_)
  · replace h := ite_t h hc
    refine k_seq ?_
    refine k_reg .free hmixP (by kernel_rfl) ?_
    refine G_q rfl (op_move (av := .exact (.int .i64 a0)) rfl ?_)
    refine G_q rfl (op_move (av := .exact (.int .i64 a0)) rfl ?_)
    refine G_q rfl (op_add rfl rfl rfl ?_)
    obtain ⟨n1, h⟩ := need_some h
    refine G_q rfl (op_slice_str (by kernel_rfl) rfl (bnd_some rfl) (bnd_some rfl) n1.1 n1.2.1 n1.2.2 ?_)
    refine G_q rfl (op_assign (av := .exact (.string (bs (List.take (Int.toNat (i64 (a0 + 1)) - Int.toNat a0) (List.drop (Int.toNat a0) [48, 49, 50, 51, 52, 53, 54, 55, 56, 57, 97, 98, 99, 100, 101, 102, 103, 104, 105, 106, 107, 108, 109, 110, 111, 112, 113, 114, 115, 116, 117, 118, 119, 120, 121, 122]))))) rfl ?_)
    refine G_nil ?_
    refine kC_normal ?_
    refine k_ret ?_
    refine kC_ret ?_
    obtain rfl := Option.some.inj h
    refine kP_any (endN (af' := (AF.put AF0 (some 2) (.exact (.string (bs (List.take (Int.toNat (i64 (a0 + 1)) - Int.toNat a0) (List.drop (Int.toNat a0) [48, 49, 50, 51, 52, 53, 54, 55, 56, 57, 97, 98, 99, 100, 101, 102, 103, 104, 105, 106, 107, 108, 109, 110, 111, 112, 113, 114, 115, 116, 117, 118, 119, 120, 121, 122]))))))) (σ' := []) _ rfl ?_ ⟨rfl, rfl⟩)
    exact Sub.of_le (AF.le_put (AV.le_eq rfl) (AF.le_top _))
  · replace h := ite_f h hc
    refine k_skip ?_
    refine kC_normal ?_
    refine k_seq ?_
    refine k_reg .free hmixP (by kernel_rfl) ?_
    refine G_q rfl (op_move (av := .exact (.int .i64 a0)) rfl ?_)
    refine G_q rfl (op_mul rfl rfl rfl ?_)
    refine G_q rfl (op_move (av := .exact (.int .i64 a0)) rfl ?_)
    refine G_q rfl (op_mul rfl rfl rfl ?_)
    refine G_q rfl (op_add rfl rfl rfl ?_)
    obtain ⟨n2, h⟩ := need_some h
    refine G_q rfl (op_slice_str (by kernel_rfl) rfl (bnd_some rfl) (bnd_some rfl) n2.1 n2.2.1 n2.2.2 ?_)
    refine G_q rfl (op_assign (av := .exact (.string (bs (List.take (Int.toNat (i64 ((i64 (a0 * 2)) + 2)) - Int.toNat (i64 (a0 * 2))) (List.drop (Int.toNat (i64 (a0 * 2))) [48, 48, 48, 49, 48, 50, 48, 51, 48, 52, 48, 53, 48, 54, 48, 55, 48, 56, 48, 57, 49, 48, 49, 49, 49, 50, 49, 51, 49, 52, 49, 53, 49, 54, 49, 55, 49, 56, 49, 57, 50, 48, 50, 49, 50, 50, 50, 51, 50, 52, 50, 53, 50, 54, 50, 55, 50, 56, 50, 57, 51, 48, 51, 49, 51, 50, 51, 51, 51, 52, 51, 53, 51, 54, 51, 55, 51, 56, 51, 57, 52, 48, 52, 49, 52, 50, 52, 51, 52, 52, 52, 53, 52, 54, 52, 55, 52, 56, 52, 57, 53, 48, 53, 49, 53, 50, 53, 51, 53, 52, 53, 53, 53, 54, 53, 55, 53, 56, 53, 57, 54, 48, 54, 49, 54, 50, 54, 51, 54, 52, 54, 53, 54, 54, 54, 55, 54, 56, 54, 57, 55, 48, 55, 49, 55, 50, 55, 51, 55, 52, 55, 53, 55, 54, 55, 55, 55, 56, 55, 57, 56, 48, 56, 49, 56, 50, 56, 51, 56, 52, 56, 53, 56, 54, 56, 55, 56, 56, 56, 57, 57, 48, 57, 49, 57, 50, 57, 51, 57, 52, 57, 53, 57, 54, 57, 55, 57, 56, 57, 57]))))) rfl ?_)
    refine G_nil ?_
    refine kC_normal ?_
    refine k_ret ?_
    obtain rfl := Option.some.inj h
    refine kP_any (endN (af' := (AF.put AF0 (some 2) (.exact (.string (bs (List.take (Int.toNat (i64 ((i64 (a0 * 2)) + 2)) - Int.toNat (i64 (a0 * 2))) (List.drop (Int.toNat (i64 (a0 * 2))) [48, 48, 48, 49, 48, 50, 48, 51, 48, 52, 48, 53, 48, 54, 48, 55, 48, 56, 48, 57, 49, 48, 49, 49, 49, 50, 49, 51, 49, 52, 49, 53, 49, 54, 49, 55, 49, 56, 49, 57, 50, 48, 50, 49, 50, 50, 50, 51, 50, 52, 50, 53, 50, 54, 50, 55, 50, 56, 50, 57, 51, 48, 51, 49, 51, 50, 51, 51, 51, 52, 51, 53, 51, 54, 51, 55, 51, 56, 51, 57, 52, 48, 52, 49, 52, 50, 52, 51, 52, 52, 52, 53, 52, 54, 52, 55, 52, 56, 52, 57, 53, 48, 53, 49, 53, 50, 53, 51, 53, 52, 53, 53, 53, 54, 53, 55, 53, 56, 53, 57, 54, 48, 54, 49, 54, 50, 54, 51, 54, 52, 54, 53, 54, 54, 54, 55, 54, 56, 54, 57, 55, 48, 55, 49, 55, 50, 55, 51, 55, 52, 55, 53, 55, 54, 55, 55, 55, 56, 55, 57, 56, 48, 56, 49, 56, 50, 56, 51, 56, 52, 56, 53, 56, 54, 56, 55, 56, 56, 56, 57, 57, 48, 57, 49, 57, 50, 57, 51, 57, 52, 57, 53, 57, 54, 57, 55, 57, 56, 57, 57]))))))) (σ' := []) _ rfl ?_ ⟨rfl, rfl⟩)
    exact Sub.of_le (AF.le_put (AV.le_eq rfl) (AF.le_top _))
set_option maxHeartbeats 4000000 in
theorem m_internal_strconv_FormatInt_ok (a0 : Int) (a1 : Int) (r : (List UInt8)) (h : m_internal_strconv_FormatInt a0 a1 = some r) : Pure Tryd.prog 126 [(.exact (.int .i64 a0)), (.exact (.int .i64 a1))] (.exact (.string (bs r))) := by
  unfold m_internal_strconv_FormatInt at h
  refine Pure.ofFun (fun_of_awp Tryd.func126 rfl Tryd.ntmps126 (by simp) rfl (res1 rfl) fun E hE => k_end ?_)
  refine k_seq ?_
  refine k_reg .free hmixP (by kernel_rfl) ?_
  refine G_q rfl (op_assign (av := .exact (.string (bs ([] : List UInt8)))) rfl ?_)
  refine G_nil ?_
  refine kC_normal ?_
  refine k_seq ?_
  refine k_seq ?_
  refine k_reg .free hmixP (by kernel_rfl) ?_
  refine G_q rfl (op_move (av := .exact (.int .i64 a1)) rfl ?_)
  refine G_q rfl (op_eql rfl rfl ?_)
  refine G_nil ?_
  refine kC_normal ?_
  refine k_cond_d (p := a1 = 10) rfl (fun hc => ?_) (fun hc => ?_)
  · replace h := ite_t h hc
    refine k_seq ?_
    refine k_join1_0 h (fun (x17_j4 : Bool) => (AF.put (AF.put AF0 (some 0) (.exact (.int .i64 a0))) (some 17) (.exact (.bool x17_j4)))) (fun (x17_j4 : Bool) => []) (fun k4 h => ?_) (fun x17_j4 h => ?_)
    · refine k_reg .free hmixP (by kernel_rfl) ?_
      refine G_q rfl (op_move (av := .exact (.int .i64 a0)) rfl ?_)
      refine G_q rfl (op_leq rfl rfl ?_)
      refine G_q rfl (op_move (av := .exact (.bool (decide (0 ≤ a0)))) rfl ?_)
      refine G_split (p := 0 ≤ a0) 14 rfl (fun hc => ?_) (fun hc => ?_)
      · replace h := ite_t h hc
        refine Gy_q rfl rfl rfl (op_move (av := .exact (.int .i64 a0)) rfl ?_)
        refine Gy_q rfl rfl rfl (op_lss rfl rfl ?_)
        refine G_q rfl (op_pick_t rfl (av := .exact (.bool (decide (a0 < 100)))) rfl ?_)
        refine G_nil ?_
        refine kI_normal ⟨_, h, ?_⟩
        exact Sub.of_le (AF.le_put (AV.le_eq rfl) (AF.le_put (AV.le_eq rfl) (AF.le_top _)))
      · replace h := ite_f h hc
        refine G_n rfl rfl ?_
        refine G_n rfl rfl ?_
        refine G_q rfl (op_pick_f rfl (av := .exact (.bool false)) rfl ?_)
        refine G_nil ?_
        refine kI_normal ⟨_, h, ?_⟩
        exact Sub.of_le (AF.le_put (AV.le_eq rfl) (AF.le_put (AV.le_eq rfl) (AF.le_top _)))
    · refine k_cond_b (c := x17_j4) rfl (fun hc => ?_) (fun hc => ?_)
      · replace h := ite_t h hc
        refine k_seq ?_
        refine k_reg .free hmixP (by kernel_rfl) ?_
        refine G_q rfl (op_move (av := .exact (.int .i64 a0)) rfl ?_)
        obtain ⟨y5, hy5, h⟩ := bnd1_some h
        refine G_q rfl (op_pure (m_internal_strconv_small_ok _ _ hy5) Tryd.func131 (by kernel_rfl) (LEs.cons (AV.le_eq rfl) LEs.nil) ?_)
        refine G_q rfl (op_assign (av := .exact (.string (bs y5))) rfl ?_)
        refine G_nil ?_
        refine kC_normal ?_
        refine k_ret ?_
        refine kC_ret ?_
        refine kC_ret ?_
        obtain rfl := Option.some.inj h
        refine kP_any (endN (af' := (AF.put AF0 (some 4) (.exact (.string (bs y5))))) (σ' := []) _ rfl ?_ ⟨rfl, rfl⟩)
        exact Sub.of_le (AF.le_put (AV.le_eq rfl) (AF.le_top _))
      · replace h := ite_f h hc
        refine k_skip ?_
        refine kC_normal ?_
        refine k_seq ?_
        refine k_reg .free hmixP (by kernel_rfl) ?_
        refine G_l rfl (op_allocA (f := (fun (x : UInt8) => .exact (.int .u8 (UInt8.toNat x : Int)))) 24 (0 : UInt8) (.int .u8 (UInt8.toNat 0 : Int)) rfl (by kernel_rfl) rfl (fun b6 => ?_))
        refine G_nil ?_
        refine kC_normal ?_
        refine k_seq ?_
        refine k_reg .free hmixP (by kernel_rfl) ?_
        refine G_q rfl (op_move (av := .exact (.int .i64 a0)) rfl ?_)
        refine G_q rfl (op_convInt (k := .u64) (by kernel_rfl) rfl rfl ?_)
        refine G_q rfl (op_assign (av := .exact (.int .u64 (IntKind.u64.wrap (a0)))) rfl ?_)
        refine G_nil ?_
        refine kC_normal ?_
        refine k_join1_0 h (fun (x6_j7 : Int) => (AF.put (AF.put (AF.put AF0 (some 0) (.exact (.int .i64 a0))) (some 5) (pA b6 0)) (some 6) (.exact (.int .u64 x6_j7)))) (fun (x6_j7 : Int) => [boxI 176 b6 (List.map (fun (x : UInt8) => .exact (.int .u8 (UInt8.toNat x : Int))) (List.replicate 24 (0 : UInt8)))]) (fun k7 h => ?_) (fun x6_j7 h => ?_)
        · refine k_seq ?_
          refine k_reg .free hmixP (by kernel_rfl) ?_
          refine G_q rfl (op_move (av := .exact (.int .i64 a0)) rfl ?_)
          refine G_q rfl (op_lss rfl rfl ?_)
          refine G_nil ?_
          refine kC_normal ?_
          refine k_cond_d (p := a0 < 0) rfl (fun hc => ?_) (fun hc => ?_)
          · replace h := ite_t h hc
            refine k_reg .free hmixP (by kernel_rfl) ?_
            refine G_q rfl (op_move (av := .exact (.int .u64 (IntKind.u64.wrap (a0)))) rfl ?_)
            refine G_q rfl (op_neg rfl rfl ?_)
            refine G_q rfl (op_assign (av := .exact (.int .u64 (IntKind.u64.wrap (- (IntKind.u64.wrap (a0)))))) rfl ?_)
            refine G_nil ?_
            refine kI_normal ⟨_, h, ?_⟩
            exact Sub.of_le (AF.le_put (AV.le_eq rfl) (AF.le_put (AV.le_eq rfl) (AF.le_put (AV.le_eq rfl) (AF.le_top _))))
          · replace h := ite_f h hc
            refine k_skip ?_
            refine kI_normal ⟨_, h, ?_⟩
            exact Sub.of_le (AF.le_put (AV.le_eq rfl) (AF.le_put (AV.le_eq rfl) (AF.le_put (AV.le_eq rfl) (AF.le_top _))))
        · refine k_seq ?_
          cases h
  · replace h := ite_f h hc
    refine k_skip ?_
    refine kC_normal ?_
    refine k_seq ?_
    cases h
set_option maxHeartbeats 4000000 in
theorem m_internal_strconv_Itoa_ok (a0 : Int) (r : (List UInt8)) (h : m_internal_strconv_Itoa a0 = some r) : Pure Tryd.prog 112 [(.exact (.int .i64 a0))] (.exact (.string (bs r))) := by
  unfold m_internal_strconv_Itoa at h
  refine Pure.ofFun (fun_of_awp Tryd.func112 rfl Tryd.ntmps112 (by simp) rfl (res1 rfl) fun E hE => k_end ?_)
  refine k_seq ?_
  refine k_reg .free hmixP (by kernel_rfl) ?_
  refine G_q rfl (op_assign (av := .exact (.string (bs ([] : List UInt8)))) rfl ?_)
  refine G_nil ?_
  refine kC_normal ?_
  refine k_seq ?_
  refine k_reg .free hmixP (by kernel_rfl) ?_
  refine G_q rfl (op_move (av := .exact (.int .i64 a0)) rfl ?_)
  obtain ⟨y1, hy1, h⟩ := bnd1_some h
  refine G_q rfl (op_pure (m_internal_strconv_FormatInt_ok _ _ _ hy1) Tryd.func126 (by kernel_rfl) (LEs.cons (AV.le_eq rfl) (LEs.cons (AV.le_eq rfl) LEs.nil)) ?_)
  refine G_q rfl (op_assign (av := .exact (.string (bs y1))) rfl ?_)
  refine G_nil ?_
  refine kC_normal ?_
  refine k_ret ?_
  obtain rfl := Option.some.inj h
  refine kP_any (endN (af' := (AF.put AF0 (some 2) (.exact (.string (bs y1))))) (σ' := []) _ rfl ?_ ⟨rfl, rfl⟩)
  exact Sub.of_le (AF.le_put (AV.le_eq rfl) (AF.le_top _))
set_option maxHeartbeats 4000000 in
theorem m_strconv_Itoa_ok (a0 : Int) (r : (List UInt8)) (h : m_strconv_Itoa a0 = some r) : Pure Tryd.prog 85 [(.exact (.int .i64 a0))] (.exact (.string (bs r))) := by
  unfold m_strconv_Itoa at h
  refine Pure.ofFun (fun_of_awp Tryd.func85 rfl Tryd.ntmps85 (by simp) rfl (res1 rfl) fun E hE => k_end ?_)
  refine k_seq ?_
  refine k_reg .free hmixP (by kernel_rfl) ?_
  refine G_q rfl (op_assign (av := .exact (.string (bs ([] : List UInt8)))) rfl ?_)
  refine G_nil ?_
  refine kC_normal ?_
  refine k_seq ?_
  refine k_reg .free hmixP (by kernel_rfl) ?_
  refine G_q rfl (op_move (av := .exact (.int .i64 a0)) rfl ?_)
  obtain ⟨y1, hy1, h⟩ := bnd1_some h
  refine G_q rfl (op_pure (m_internal_strconv_Itoa_ok _ _ hy1) Tryd.func112 (by kernel_rfl) (LEs.cons (AV.le_eq rfl) LEs.nil) ?_)
  refine G_q rfl (op_assign (av := .exact (.string (bs y1))) rfl ?_)
  refine G_nil ?_
  refine kC_normal ?_
  refine k_ret ?_
  obtain rfl := Option.some.inj h
  refine kP_any (endN (af' := (AF.put AF0 (some 2) (.exact (.string (bs y1))))) (σ' := []) _ rfl ?_ ⟨rfl, rfl⟩)
  exact Sub.of_le (AF.le_put (AV.le_eq rfl) (AF.le_top _))
set_option maxHeartbeats 4000000 in
theorem m_types_text_F_ok (self_types_text : (List (Int × Int × Int)) → (List (List UInt8)) → Option ((List UInt8) × (List (Int × Int × Int)))) (hself_types_text : ∀ (a0 : List (Int × Int × Int)) (a1 : List (List UInt8)) (r : (List UInt8) × (List (Int × Int × Int))), self_types_text a0 a1 = some r → Pure Tryd.prog 68 [(.row 3 c_api_TypeNode a0), (.row 1 c_string a1)] (.tup [.exact (.string (bs r.1)), .row 3 c_api_TypeNode r.2])) (a0 : List (Int × Int × Int)) (a1 : List (List UInt8)) (r : (List UInt8) × (List (Int × Int × Int))) (h : m_types_text_F self_types_text a0 a1 = some r) : Pure Tryd.prog 68 [(.row 3 c_api_TypeNode a0), (.row 1 c_string a1)] (.tup [.exact (.string (bs r.1)), .row 3 c_api_TypeNode r.2]) := by
  unfold m_types_text_F at h
  refine Pure.ofFun (fun_of_awp Tryd.func68 rfl Tryd.ntmps68 (by simp) rfl (res2 rfl) fun E hE => k_end ?_)
  refine k_seq ?_
  refine k_reg .free hmixP (by kernel_rfl) ?_
  refine G_q rfl (op_assign (av := .exact (.string (bs ([] : List UInt8)))) rfl ?_)
  refine G_q rfl (op_assign (av := .exact (.slice none 0 0)) rfl ?_)
  refine G_nil ?_
  refine kC_normal ?_
  refine k_seq ?_
  refine k_reg .free hmixP (by kernel_rfl) ?_
  refine G_q rfl (op_move (av := .row 3 c_api_TypeNode a0) rfl ?_)
  obtain ⟨n1, h⟩ := need_some h
  refine G_q rfl (op_index_row (by kernel_rfl) rfl rfl n1.1 n1.2 ?_)
  refine G_q rfl (op_loadNp (m := 3) (c' := c_api_TypeNode (gi a0 0)) (by kernel_rfl) rfl rfl rfl ?_)
  refine G_l rfl (op_alloc (c := [.exact (.int .i64 ((0, 0, 0).1)), .exact (.int .i64 ((0, 0, 0).2.1)), .exact (.int .i64 ((0, 0, 0).2.2))]) rfl (LEs.cons (AV.le_eq rfl) (LEs.cons (AV.le_eq rfl) (LEs.cons (AV.le_eq rfl) LEs.nil))) (fun b2 => ?_))
  refine G_l rfl (op_store_box (c' := [.exact (.int .i64 ((gi a0 0).1)), .exact (.int .i64 ((gi a0 0).2.1)), .exact (.int .i64 ((gi a0 0).2.2))]) (c3 := [.exact (.int .i64 ((gi a0 0).1)), .exact (.int .i64 ((gi a0 0).2.1)), .exact (.int .i64 ((gi a0 0).2.2))]) rfl rfl CellsOf.agg (LEs.cons (AV.le_eq rfl) (LEs.cons (AV.le_eq rfl) (LEs.cons (AV.le_eq rfl) LEs.nil))) (oc_c_api_TypeNode _) (by kernel_rfl) (Nat.le_of_ble_eq_true rfl) rfl ?_)
  refine G_nil ?_
  refine kC_normal ?_
  refine k_seq ?_
  refine k_reg .free hmixP (by kernel_rfl) ?_
  refine G_q rfl (op_move (av := .row 3 c_api_TypeNode a0) rfl ?_)
  obtain ⟨n3, h⟩ := need_some h
  refine G_q rfl (op_slice_rowd (by kernel_rfl) rfl (bnd_some rfl) bnd_none (by decide) n3 (Int.le_refl _) ?_)
  refine G_q rfl (op_assign (av := .row 3 c_api_TypeNode (List.drop (Int.toNat 1) a0)) rfl ?_)
  refine G_nil ?_
  refine kC_normal ?_
  refine k_seq ?_
  refine k_reg .free hmixP (by kernel_rfl) ?_
  refine G_q rfl (op_assign (av := .exact (.slice none 0 0)) rfl ?_)
  refine G_nil ?_
  refine kC_normal ?_
  refine k_join2_1 h (fun (x0_j4 : List (Int × Int × Int)) (x7_j4 : List (List UInt8)) (v7_j4 : Value) => (AF.put (AF.put (AF.put (AF.put AF0 (some 0) (.row 3 c_api_TypeNode x0_j4)) (some 1) (.row 1 c_string a1)) (some 6) (pA b2 0)) (some 7) (.exact v7_j4))) (fun (x0_j4 : List (Int × Int × Int)) (x7_j4 : List (List UInt8)) (v7_j4 : Value) => [boxI 41 b2 [.exact (.int .i64 ((gi a0 0).1)), .exact (.int .i64 ((gi a0 0).2.1)), .exact (.int .i64 ((gi a0 0).2.2))], vecT Tryd.prog 54 1 c_string v7_j4 x7_j4]) (fun k4 h => ?_) (fun x0_j4 x7_j4 v7_j4 h => ?_)
  · refine k_seq ?_
    refine k_reg .free hmixP (by kernel_rfl) ?_
    refine G_q rfl (op_fieldAddr (o := 2) (by kernel_rfl) rfl ?_)
    refine G_r rfl (op_load_box1 (a := .exact (.int .i64 ((gi a0 0).2.2))) (by kernel_rfl) rfl rfl ?_)
    refine G_q rfl (op_move (av := .exact (.int .i64 0)) rfl ?_)
    refine G_nil ?_
    refine kC_normal ?_
    refine k_block ?_
    refine k_loop3_1 (m_types_text_L2 self_types_text a0 a1 k4) (m_types_text_B2 self_types_text a0 a1 k4) (fun _ _ _ => rfl) (fun m _ _ _ => rfl) h (fun (x0_l2 : List (Int × Int × Int)) (x7_l2 : List (List UInt8)) (x17_l2 : Int) (v7_l2 : Value) => (AF.put (AF.put (AF.put (AF.put (AF.put (AF.put AF0 (some 0) (.row 3 c_api_TypeNode x0_l2)) (some 1) (.row 1 c_string a1)) (some 6) (pA b2 0)) (some 7) (.exact v7_l2)) (some 16) (.exact (.int .i64 ((gi a0 0).2.2)))) (some 17) (.exact (.int .i64 x17_l2)))) (fun (x0_l2 : List (Int × Int × Int)) (x7_l2 : List (List UInt8)) (x17_l2 : Int) (v7_l2 : Value) => [boxI 41 b2 [.exact (.int .i64 ((gi a0 0).1)), .exact (.int .i64 ((gi a0 0).2.1)), .exact (.int .i64 ((gi a0 0).2.2))], vecT Tryd.prog 54 1 c_string v7_l2 x7_l2]) (.slice none 0 0) ?_ (fun rec2 x0_l2 x7_l2 x17_l2 v7_l2 h => ?_)
    · refine Sub.trans (SubU.to (SubU.nilT (P := Tryd.prog) (t := 54) (n := 1) (enc := c_string))) ?_
      refine Sub.trans (SubU.to SubU.f1) ?_
      exact Sub.of_le (AF.le_put (AV.le_eq rfl) (AF.le_put (AV.le_eq rfl) (AF.le_put (AV.le_eq rfl) (AF.le_put (AV.le_eq rfl) (AF.le_put (AV.le_eq rfl) (AF.le_put (AV.le_eq rfl) (AF.le_top _)))))))
    · unfold m_types_text_B2 at h
      refine k_seq ?_
      refine k_reg .free hmixP (by kernel_rfl) ?_
      refine G_q rfl (op_lss rfl rfl ?_)
      refine G_nil ?_
      refine kC_normal ?_
      refine k_seq ?_
      refine k_cond_d (p := x17_l2 < ((gi a0 0).2.2)) rfl (fun hc => ?_) (fun hc => ?_)
      · replace h := ite_t h hc
        refine k_skip ?_
        refine kC_normal ?_
        refine k_seq ?_
        refine k_block ?_
        refine k_seq ?_
        refine k_reg .free hmixP (by kernel_rfl) ?_
        refine G_q rfl (op_assign (av := .exact (.string (bs ([] : List UInt8)))) rfl ?_)
        refine G_nil ?_
        refine kC_normal ?_
        refine k_seq ?_
        refine k_reg .free hmixP (by kernel_rfl) ?_
        refine G_q rfl (op_move (av := .row 3 c_api_TypeNode x0_l2) rfl ?_)
        refine G_q rfl (op_move (av := .row 1 c_string a1) rfl ?_)
        obtain ⟨y21, hy21, h⟩ := bnd1_some h
        refine G_q rfl (op_pure (hself_types_text _ _ _ hy21) Tryd.func68 (by kernel_rfl) (LEs.cons (AV.le_eq rfl) (LEs.cons (AV.le_eq rfl) LEs.nil)) ?_)
        refine G_q rfl (op_move (av := .tup [.exact (.string (bs y21.1)), .row 3 c_api_TypeNode y21.2]) rfl ?_)
        refine G_q rfl (op_extract (av := .exact (.string (bs y21.1))) rfl rfl ?_)
        refine G_q rfl (op_extract (av := .row 3 c_api_TypeNode y21.2) rfl rfl ?_)
        refine G_q rfl (op_assign (av := .exact (.string (bs y21.1))) rfl ?_)
        refine G_q rfl (op_assign (av := .row 3 c_api_TypeNode y21.2) rfl ?_)
        refine G_nil ?_
        refine kC_normal ?_
        refine k_reg .free hmixP (by kernel_rfl) ?_
        refine G_q rfl (op_move (av := .exact v7_l2) rfl ?_)
        refine G_q rfl (op_move (av := .exact (.string (bs y21.1))) rfl ?_)
        refine G_q rfl (op_litT (n := 1) (enc := c_string) [y21.1] (CellsAll.cons rfl CellsOf.str CellsAll.nil) rfl (by kernel_rfl) (LEss.cons (LEs.cons (AV.le_eq rfl) LEs.nil) LEss.nil) ?_)
        obtain ⟨n22, h⟩ := need_some h
        refine G_l rfl (opB_f1 (op_appT (by kernel_rfl) rfl rfl oc_c_string n22 (fun v23 => ?_)))
        refine G_q rfl (op_assign (av := .exact v23) rfl ?_)
        refine G_nil ?_
        refine kB_normal ?_
        refine kC_normal ?_
        refine k_reg .free hmixP (by kernel_rfl) ?_
        refine G_q rfl (op_add rfl rfl rfl ?_)
        refine G_q rfl (op_move (av := .exact (.int .i64 (i64 (x17_l2 + 1)))) rfl ?_)
        refine G_nil ?_
        refine kI_normal ⟨_, _, _, v23, h, ?_⟩
        refine Sub.trans (SubU.to SubU.f1) ?_
        exact Sub.of_le (AF.le_put (AV.le_eq rfl) (AF.le_put (AV.le_eq rfl) (AF.le_put (AV.le_eq rfl) (AF.le_put (AV.le_eq rfl) (AF.le_put (AV.le_eq rfl) (AF.le_put (AV.le_eq rfl) (AF.le_top _)))))))
      · replace h := ite_f h hc
        refine k_exit ?_
        refine kC_exit ?_
        refine kI_exit ?_
        refine kB_exit ?_
        refine kI_normal ⟨_, _, v7_l2, h, ?_⟩
        exact Sub.of_le (AF.le_put (AV.le_eq rfl) (AF.le_put (AV.le_eq rfl) (AF.le_put (AV.le_eq rfl) (AF.le_put (AV.le_eq rfl) (AF.le_top _)))))
  · refine k_seq ?_
    refine k_seq ?_
    refine k_reg .free hmixP (by kernel_rfl) ?_
    refine G_q rfl (op_fieldAddr (o := 0) (by kernel_rfl) rfl ?_)
    refine G_r rfl (op_load_box1 (a := .exact (.int .i64 ((gi a0 0).1))) (by kernel_rfl) rfl rfl ?_)
    refine G_nil ?_
    refine kC_normal ?_
    refine k_block ?_
    refine k_seq ?_
    refine k_reg .free hmixP (by kernel_rfl) ?_
    refine G_q rfl (op_eql rfl rfl ?_)
    refine G_q rfl (op_assign (av := .exact (.bool (decide (((gi a0 0).1) = 1)))) rfl ?_)
    refine G_nil ?_
    refine kC_normal ?_
    refine k_cond_d (p := ((gi a0 0).1) = 1) rfl (fun hc => ?_) (fun hc => ?_)
    · replace h := ite_t h hc
      refine k_seq ?_
      refine k_reg .free hmixP (by kernel_rfl) ?_
      refine G_q rfl (op_fieldAddr (o := 1) (by kernel_rfl) rfl ?_)
      refine G_r rfl (op_load_box1 (a := .exact (.int .i64 ((gi a0 0).2.1))) (by kernel_rfl) rfl rfl ?_)
      obtain ⟨y24, hy24, h⟩ := bnd1_some h
      refine G_q rfl (op_pure (m_strconv_Itoa_ok _ _ hy24) Tryd.func85 (by kernel_rfl) (LEs.cons (AV.le_eq rfl) LEs.nil) ?_)
      obtain ⟨n25, h⟩ := need_some h
      refine G_q rfl (op_addS n25 rfl rfl ?_)
      refine G_q rfl (op_move (av := .row 3 c_api_TypeNode x0_j4) rfl ?_)
      refine G_q rfl (op_assign (av := .exact (.string (bs ([116] ++ y24)))) rfl ?_)
      refine G_q rfl (op_assign (av := .row 3 c_api_TypeNode x0_j4) rfl ?_)
      refine G_nil ?_
      refine kC_normal ?_
      refine k_ret ?_
      refine kB_ret ?_
      refine kC_ret ?_
      obtain rfl := Option.some.inj h
      refine kP_any (endN (af' := (AF.put (AF.put AF0 (some 4) (.exact (.string (bs ([116] ++ y24))))) (some 5) (.row 3 c_api_TypeNode x0_j4))) (σ' := []) _ rfl ?_ ⟨rfl, rfl⟩)
      refine Sub.trans (SubU.to SubU.drop) ?_
      refine Sub.trans (SubU.to SubU.drop) ?_
      exact Sub.of_le (AF.le_put (AV.le_eq rfl) (AF.le_put (AV.le_eq rfl) (AF.le_top _)))
    · replace h := ite_f h hc
      refine k_seq ?_
      refine k_reg .free hmixP (by kernel_rfl) ?_
      refine G_q rfl (op_eql rfl rfl ?_)
      refine G_q rfl (op_assign (av := .exact (.bool (decide (((gi a0 0).1) = 2)))) rfl ?_)
      refine G_nil ?_
      refine kC_normal ?_
      refine k_cond_d (p := ((gi a0 0).1) = 2) rfl (fun hc => ?_) (fun hc => ?_)
      · replace h := ite_t h hc
        refine k_seq ?_
        refine k_reg .free hmixP (by kernel_rfl) ?_
        refine G_q rfl (op_move (av := .row 3 c_api_TypeNode x0_j4) rfl ?_)
        refine G_q rfl (op_assign (av := .exact (.string (bs [73, 110, 116]))) rfl ?_)
        refine G_q rfl (op_assign (av := .row 3 c_api_TypeNode x0_j4) rfl ?_)
        refine G_nil ?_
        refine kC_normal ?_
        refine k_ret ?_
        refine kB_ret ?_
        refine kC_ret ?_
        obtain rfl := Option.some.inj h
        refine kP_any (endN (af' := (AF.put (AF.put AF0 (some 4) (.exact (.string (bs [73, 110, 116])))) (some 5) (.row 3 c_api_TypeNode x0_j4))) (σ' := []) _ rfl ?_ ⟨rfl, rfl⟩)
        refine Sub.trans (SubU.to SubU.drop) ?_
        refine Sub.trans (SubU.to SubU.drop) ?_
        exact Sub.of_le (AF.le_put (AV.le_eq rfl) (AF.le_put (AV.le_eq rfl) (AF.le_top _)))
      · replace h := ite_f h hc
        refine k_seq ?_
        refine k_reg .free hmixP (by kernel_rfl) ?_
        refine G_q rfl (op_eql rfl rfl ?_)
        refine G_q rfl (op_assign (av := .exact (.bool (decide (((gi a0 0).1) = 3)))) rfl ?_)
        refine G_nil ?_
        refine kC_normal ?_
        refine k_cond_d (p := ((gi a0 0).1) = 3) rfl (fun hc => ?_) (fun hc => ?_)
        · replace h := ite_t h hc
          refine k_seq ?_
          refine k_reg .free hmixP (by kernel_rfl) ?_
          refine G_q rfl (op_move (av := .row 3 c_api_TypeNode x0_j4) rfl ?_)
          refine G_q rfl (op_assign (av := .exact (.string (bs [66, 111, 111, 108]))) rfl ?_)
          refine G_q rfl (op_assign (av := .row 3 c_api_TypeNode x0_j4) rfl ?_)
          refine G_nil ?_
          refine kC_normal ?_
          refine k_ret ?_
          refine kB_ret ?_
          refine kC_ret ?_
          obtain rfl := Option.some.inj h
          refine kP_any (endN (af' := (AF.put (AF.put AF0 (some 4) (.exact (.string (bs [66, 111, 111, 108])))) (some 5) (.row 3 c_api_TypeNode x0_j4))) (σ' := []) _ rfl ?_ ⟨rfl, rfl⟩)
          refine Sub.trans (SubU.to SubU.drop) ?_
          refine Sub.trans (SubU.to SubU.drop) ?_
          exact Sub.of_le (AF.le_put (AV.le_eq rfl) (AF.le_put (AV.le_eq rfl) (AF.le_top _)))
        · replace h := ite_f h hc
          refine k_seq ?_
          refine k_reg .free hmixP (by kernel_rfl) ?_
          refine G_q rfl (op_eql rfl rfl ?_)
          refine G_q rfl (op_assign (av := .exact (.bool (decide (((gi a0 0).1) = 4)))) rfl ?_)
          refine G_nil ?_
          refine kC_normal ?_
          refine k_cond_d (p := ((gi a0 0).1) = 4) rfl (fun hc => ?_) (fun hc => ?_)
          · replace h := ite_t h hc
            refine k_seq ?_
            refine k_reg .free hmixP (by kernel_rfl) ?_
            refine G_q rfl (op_move (av := .row 3 c_api_TypeNode x0_j4) rfl ?_)
            refine G_q rfl (op_assign (av := .exact (.string (bs [69, 118, 101, 110, 116]))) rfl ?_)
            refine G_q rfl (op_assign (av := .row 3 c_api_TypeNode x0_j4) rfl ?_)
            refine G_nil ?_
            refine kC_normal ?_
            refine k_ret ?_
            refine kB_ret ?_
            refine kC_ret ?_
            obtain rfl := Option.some.inj h
            refine kP_any (endN (af' := (AF.put (AF.put AF0 (some 4) (.exact (.string (bs [69, 118, 101, 110, 116])))) (some 5) (.row 3 c_api_TypeNode x0_j4))) (σ' := []) _ rfl ?_ ⟨rfl, rfl⟩)
            refine Sub.trans (SubU.to SubU.drop) ?_
            refine Sub.trans (SubU.to SubU.drop) ?_
            exact Sub.of_le (AF.le_put (AV.le_eq rfl) (AF.le_put (AV.le_eq rfl) (AF.le_top _)))
          · replace h := ite_f h hc
            refine k_seq ?_
            refine k_reg .free hmixP (by kernel_rfl) ?_
            refine G_q rfl (op_eql rfl rfl ?_)
            refine G_q rfl (op_assign (av := .exact (.bool (decide (((gi a0 0).1) = 5)))) rfl ?_)
            refine G_nil ?_
            refine kC_normal ?_
            refine k_cond_d (p := ((gi a0 0).1) = 5) rfl (fun hc => ?_) (fun hc => ?_)
            · replace h := ite_t h hc
              refine k_seq ?_
              refine k_reg .free hmixP (by kernel_rfl) ?_
              refine G_q rfl (op_move (av := .row 3 c_api_TypeNode x0_j4) rfl ?_)
              refine G_q rfl (op_assign (av := .exact (.string (bs [80, 114, 111, 99]))) rfl ?_)
              refine G_q rfl (op_assign (av := .row 3 c_api_TypeNode x0_j4) rfl ?_)
              refine G_nil ?_
              refine kC_normal ?_
              refine k_ret ?_
              refine kB_ret ?_
              refine kC_ret ?_
              obtain rfl := Option.some.inj h
              refine kP_any (endN (af' := (AF.put (AF.put AF0 (some 4) (.exact (.string (bs [80, 114, 111, 99])))) (some 5) (.row 3 c_api_TypeNode x0_j4))) (σ' := []) _ rfl ?_ ⟨rfl, rfl⟩)
              refine Sub.trans (SubU.to SubU.drop) ?_
              refine Sub.trans (SubU.to SubU.drop) ?_
              exact Sub.of_le (AF.le_put (AV.le_eq rfl) (AF.le_put (AV.le_eq rfl) (AF.le_top _)))
            · replace h := ite_f h hc
              refine k_seq ?_
              refine k_reg .free hmixP (by kernel_rfl) ?_
              refine G_q rfl (op_eql rfl rfl ?_)
              refine G_q rfl (op_assign (av := .exact (.bool (decide (((gi a0 0).1) = 6)))) rfl ?_)
              refine G_nil ?_
              refine kC_normal ?_
              refine k_cond_d (p := ((gi a0 0).1) = 6) rfl (fun hc => ?_) (fun hc => ?_)
              · replace h := ite_t h hc
                refine k_seq ?_
                refine k_seq ?_
                refine k_reg .free hmixP (by kernel_rfl) ?_
                refine G_q rfl (op_fieldAddr (o := 1) (by kernel_rfl) rfl ?_)
                refine G_r rfl (op_load_box1 (a := .exact (.int .i64 ((gi a0 0).2.1))) (by kernel_rfl) rfl rfl ?_)
                refine G_q rfl (op_move (av := .row 1 c_string a1) rfl ?_)
                refine G_q rfl (op_len_row (by kernel_rfl) rfl ?_)
                refine G_q rfl (op_lss rfl rfl ?_)
                refine G_nil ?_
                refine kC_normal ?_
                refine k_cond_d (p := ((gi a0 0).2.1) < (List.length a1 : Int)) rfl (fun hc => ?_) (fun hc => ?_)
                · replace h := ite_t h hc
                  refine k_seq ?_
                  refine k_reg .free hmixP (by kernel_rfl) ?_
                  refine G_q rfl (op_move (av := .row 1 c_string a1) rfl ?_)
                  refine G_q rfl (op_fieldAddr (o := 1) (by kernel_rfl) rfl ?_)
                  refine G_r rfl (op_load_box1 (a := .exact (.int .i64 ((gi a0 0).2.1))) (by kernel_rfl) rfl rfl ?_)
                  obtain ⟨n26, h⟩ := need_some h
                  refine G_q rfl (op_index_row (by kernel_rfl) rfl rfl n26.1 n26.2 ?_)
                  refine G_q rfl (op_load1p (a := .exact (.string (bs (gi a1 ((gi a0 0).2.1))))) (by kernel_rfl) rfl rfl ?_)
                  refine G_q rfl (op_move (av := .row 3 c_api_TypeNode x0_j4) rfl ?_)
                  refine G_q rfl (op_assign (av := .exact (.string (bs (gi a1 ((gi a0 0).2.1))))) rfl ?_)
                  refine G_q rfl (op_assign (av := .row 3 c_api_TypeNode x0_j4) rfl ?_)
                  refine G_nil ?_
                  refine kC_normal ?_
                  refine k_ret ?_
                  refine kC_ret ?_
                  refine kB_ret ?_
                  refine kC_ret ?_
                  obtain rfl := Option.some.inj h
                  refine kP_any (endN (af' := (AF.put (AF.put AF0 (some 4) (.exact (.string (bs (gi a1 ((gi a0 0).2.1)))))) (some 5) (.row 3 c_api_TypeNode x0_j4))) (σ' := []) _ rfl ?_ ⟨rfl, rfl⟩)
                  refine Sub.trans (SubU.to SubU.drop) ?_
                  refine Sub.trans (SubU.to SubU.drop) ?_
                  exact Sub.of_le (AF.le_put (AV.le_eq rfl) (AF.le_put (AV.le_eq rfl) (AF.le_top _)))
                · replace h := ite_f h hc
                  refine k_skip ?_
                  refine kC_normal ?_
                  refine k_seq ?_
                  refine k_reg .free hmixP (by kernel_rfl) ?_
                  refine G_q rfl (op_fieldAddr (o := 1) (by kernel_rfl) rfl ?_)
                  refine G_r rfl (op_load_box1 (a := .exact (.int .i64 ((gi a0 0).2.1))) (by kernel_rfl) rfl rfl ?_)
                  obtain ⟨y27, hy27, h⟩ := bnd1_some h
                  refine G_q rfl (op_pure (m_strconv_Itoa_ok _ _ hy27) Tryd.func85 (by kernel_rfl) (LEs.cons (AV.le_eq rfl) LEs.nil) ?_)
                  obtain ⟨n28, h⟩ := need_some h
                  refine G_q rfl (op_addS n28 rfl rfl ?_)
                  refine G_q rfl (op_move (av := .row 3 c_api_TypeNode x0_j4) rfl ?_)
                  refine G_q rfl (op_assign (av := .exact (.string (bs ([68] ++ y27)))) rfl ?_)
                  refine G_q rfl (op_assign (av := .row 3 c_api_TypeNode x0_j4) rfl ?_)
                  refine G_nil ?_
                  refine kC_normal ?_
                  refine k_ret ?_
                  refine kB_ret ?_
                  refine kC_ret ?_
                  obtain rfl := Option.some.inj h
                  refine kP_any (endN (af' := (AF.put (AF.put AF0 (some 4) (.exact (.string (bs ([68] ++ y27))))) (some 5) (.row 3 c_api_TypeNode x0_j4))) (σ' := []) _ rfl ?_ ⟨rfl, rfl⟩)
                  refine Sub.trans (SubU.to SubU.drop) ?_
                  refine Sub.trans (SubU.to SubU.drop) ?_
                  exact Sub.of_le (AF.le_put (AV.le_eq rfl) (AF.le_put (AV.le_eq rfl) (AF.le_top _)))
              · replace h := ite_f h hc
                refine k_seq ?_
                refine k_reg .free hmixP (by kernel_rfl) ?_
                refine G_q rfl (op_eql rfl rfl ?_)
                refine G_q rfl (op_assign (av := .exact (.bool (decide (((gi a0 0).1) = 7)))) rfl ?_)
                refine G_nil ?_
                refine kC_normal ?_
                refine k_cond_d (p := ((gi a0 0).1) = 7) rfl (fun hc => ?_) (fun hc => ?_)
                · replace h := ite_t h hc
                  refine k_seq ?_
                  refine k_reg .free hmixP (by kernel_rfl) ?_
                  refine G_q rfl (op_move (av := .exact v7_j4) rfl ?_)
                  obtain ⟨n29, h⟩ := need_some h
                  refine G_r rfl (opR_f1 (op_index_vec (by kernel_rfl) rfl rfl n29.1 n29.2 ?_))
                  refine G_r rfl (opR_f1 (op_load_vec1 (i := 0) (o := 0) (a := .exact (.string (bs (gi x7_j4 0)))) (by kernel_rfl) len_c_string rfl n29.1 n29.2 rfl ?_))
                  obtain ⟨n30, h⟩ := need_some h
                  refine G_q rfl (op_addS n30 rfl rfl ?_)
                  obtain ⟨n31, h⟩ := need_some h
                  refine G_q rfl (op_addS n31 rfl rfl ?_)
                  refine G_q rfl (op_move (av := .row 3 c_api_TypeNode x0_j4) rfl ?_)
                  refine G_q rfl (op_assign (av := .exact (.string (bs (([60] ++ (gi x7_j4 0)) ++ [62])))) rfl ?_)
                  refine G_q rfl (op_assign (av := .row 3 c_api_TypeNode x0_j4) rfl ?_)
                  refine G_nil ?_
                  refine kC_normal ?_
                  refine k_ret ?_
                  refine kB_ret ?_
                  refine kC_ret ?_
                  obtain rfl := Option.some.inj h
                  refine kP_any (endN (af' := (AF.put (AF.put AF0 (some 4) (.exact (.string (bs (([60] ++ (gi x7_j4 0)) ++ [62]))))) (some 5) (.row 3 c_api_TypeNode x0_j4))) (σ' := []) _ rfl ?_ ⟨rfl, rfl⟩)
                  refine Sub.trans (SubU.to SubU.drop) ?_
                  refine Sub.trans (SubU.to SubU.drop) ?_
                  exact Sub.of_le (AF.le_put (AV.le_eq rfl) (AF.le_put (AV.le_eq rfl) (AF.le_top _)))
                · replace h := ite_f h hc
                  refine k_seq ?_
                  refine k_reg .free hmixP (by kernel_rfl) ?_
                  refine G_q rfl (op_eql rfl rfl ?_)
                  refine G_q rfl (op_assign (av := .exact (.bool (decide (((gi a0 0).1) = 8)))) rfl ?_)
                  refine G_nil ?_
                  refine kC_normal ?_
                  refine k_cond_d (p := ((gi a0 0).1) = 8) rfl (fun hc => ?_) (fun hc => ?_)
                  · replace h := ite_t h hc
                    refine k_seq ?_
                    refine k_reg .free hmixP (by kernel_rfl) ?_
                    refine G_q rfl (op_move (av := .exact v7_j4) rfl ?_)
                    obtain ⟨n32, h⟩ := need_some h
                    refine G_r rfl (opR_f1 (op_index_vec (by kernel_rfl) rfl rfl n32.1 n32.2 ?_))
                    refine G_r rfl (opR_f1 (op_load_vec1 (i := 0) (o := 0) (a := .exact (.string (bs (gi x7_j4 0)))) (by kernel_rfl) len_c_string rfl n32.1 n32.2 rfl ?_))
                    obtain ⟨n33, h⟩ := need_some h
                    refine G_q rfl (op_addS n33 rfl rfl ?_)
                    obtain ⟨n34, h⟩ := need_some h
                    refine G_q rfl (op_addS n34 rfl rfl ?_)
                    refine G_q rfl (op_move (av := .row 3 c_api_TypeNode x0_j4) rfl ?_)
                    refine G_q rfl (op_assign (av := .exact (.string (bs (([123] ++ (gi x7_j4 0)) ++ [125])))) rfl ?_)
                    refine G_q rfl (op_assign (av := .row 3 c_api_TypeNode x0_j4) rfl ?_)
                    refine G_nil ?_
                    refine kC_normal ?_
                    refine k_ret ?_
                    refine kB_ret ?_
                    refine kC_ret ?_
                    obtain rfl := Option.some.inj h
                    refine kP_any (endN (af' := (AF.put (AF.put AF0 (some 4) (.exact (.string (bs (([123] ++ (gi x7_j4 0)) ++ [125]))))) (some 5) (.row 3 c_api_TypeNode x0_j4))) (σ' := []) _ rfl ?_ ⟨rfl, rfl⟩)
                    refine Sub.trans (SubU.to SubU.drop) ?_
                    refine Sub.trans (SubU.to SubU.drop) ?_
                    exact Sub.of_le (AF.le_put (AV.le_eq rfl) (AF.le_put (AV.le_eq rfl) (AF.le_top _)))
                  · replace h := ite_f h hc
                    refine k_seq ?_
                    refine k_reg .free hmixP (by kernel_rfl) ?_
                    refine G_q rfl (op_eql rfl rfl ?_)
                    refine G_q rfl (op_assign (av := .exact (.bool (decide (((gi a0 0).1) = 9)))) rfl ?_)
                    refine G_nil ?_
                    refine kC_normal ?_
                    refine k_cond_d (p := ((gi a0 0).1) = 9) rfl (fun hc => ?_) (fun hc => ?_)
                    · replace h := ite_t h hc
                      refine k_seq ?_
                      refine k_plan [] [(0, 0), (0, 5), (0, 10), (1, 1), (1, 2), (0, 3), (0, 4), (1, 6), (1, 7), (0, 8), (0, 9), (0, 11), (0, 12)] hmixP (by kernel_rfl) ?_
                      refine P_q no34_0 rfl (op_move (av := .exact v7_j4) rfl ?_)
                      refine P_q no34_0 rfl (op_move (av := .exact v7_j4) rfl ?_)
                      refine P_q no34_0 rfl (op_move (av := .row 3 c_api_TypeNode x0_j4) rfl ?_)
                      obtain ⟨n35, h⟩ := need_some h
                      refine P_r rfl (opR_f1 (op_index_vec (by kernel_rfl) rfl rfl n35.1 n35.2 ?_))
                      refine P_r rfl (opR_f1 (op_load_vec1 (i := 0) (o := 0) (a := .exact (.string (bs (gi x7_j4 0)))) (by kernel_rfl) len_c_string rfl n35.1 n35.2 rfl ?_))
                      obtain ⟨n36, h⟩ := need_some h
                      refine P_q no34_0 rfl (op_addS n36 rfl rfl ?_)
                      obtain ⟨n37, h⟩ := need_some h
                      refine P_q no34_0 rfl (op_addS n37 rfl rfl ?_)
                      obtain ⟨n38, h⟩ := need_some h
                      refine P_r rfl (opR_f1 (op_index_vec (by kernel_rfl) rfl rfl n38.1 n38.2 ?_))
                      refine P_r rfl (opR_f1 (op_load_vec1 (i := 1) (o := 0) (a := .exact (.string (bs (gi x7_j4 1)))) (by kernel_rfl) len_c_string rfl n38.1 n38.2 rfl ?_))
                      obtain ⟨n39, h⟩ := need_some h
                      refine P_q no34_0 rfl (op_addS n39 rfl rfl ?_)
                      obtain ⟨n40, h⟩ := need_some h
                      refine P_q no34_0 rfl (op_addS n40 rfl rfl ?_)
                      refine P_q no34_0 rfl (op_assign (av := .exact (.string (bs (((([40, 124] ++ (gi x7_j4 0)) ++ [32, 61, 62, 32]) ++ (gi x7_j4 1)) ++ [124, 41])))) rfl ?_)
                      refine P_q no34_0 rfl (op_assign (av := .row 3 c_api_TypeNode x0_j4) rfl ?_)
                      refine P_nil ?_
                      refine kC_normal ?_
                      refine k_ret ?_
                      refine kB_ret ?_
                      refine kC_ret ?_
                      obtain rfl := Option.some.inj h
                      refine kP_any (endN (af' := (AF.put (AF.put AF0 (some 4) (.exact (.string (bs (((([40, 124] ++ (gi x7_j4 0)) ++ [32, 61, 62, 32]) ++ (gi x7_j4 1)) ++ [124, 41]))))) (some 5) (.row 3 c_api_TypeNode x0_j4))) (σ' := []) _ rfl ?_ ⟨rfl, rfl⟩)
                      refine Sub.trans (SubU.to SubU.drop) ?_
                      refine Sub.trans (SubU.to SubU.drop) ?_
                      exact Sub.of_le (AF.le_put (AV.le_eq rfl) (AF.le_put (AV.le_eq rfl) (AF.le_top _)))
                    · replace h := ite_f h hc
                      refine k_seq ?_
                      refine k_reg .free hmixP (by kernel_rfl) ?_
                      refine G_q rfl (op_eql rfl rfl ?_)
                      refine G_q rfl (op_assign (av := .exact (.bool (decide (((gi a0 0).1) = 11)))) rfl ?_)
                      refine G_nil ?_
                      refine kC_normal ?_
                      refine k_cond_d (p := ((gi a0 0).1) = 11) rfl (fun hc => ?_) (fun hc => ?_)
                      · replace h := ite_t h hc
                        refine k_seq ?_
                        refine k_reg .free hmixP (by kernel_rfl) ?_
                        refine G_q rfl (op_move (av := .exact v7_j4) rfl ?_)
                        refine G_r rfl (opR_f1 (op_len_vec (by kernel_rfl) rfl ?_))
                        refine G_q rfl (op_sub rfl rfl rfl ?_)
                        refine G_q rfl (op_assign (av := .exact (.int .i64 (i64 ((List.length x7_j4 : Int) - 1)))) rfl ?_)
                        refine G_nil ?_
                        refine kC_normal ?_
                        refine k_seq ?_
                        refine awp_sub (SubU.to (SubU.trans SubU.f1 (SubU.freezeT2 (s1 := 7) (s2 := 100) rfl rfl len_c_string))) ?_
                        refine k_plan [] [(0, 0), (0, 1), (0, 2), (0, 3), (0, 4), (0, 5), (0, 6), (0, 7), (0, 8), (0, 9), (0, 10), (0, 11), (0, 12), (0, 13)] hmixP (by kernel_rfl) ?_
                        refine P_q no34_0 rfl (op_move (av := .row 1 c_string x7_j4) rfl ?_)
                        refine P_q no34_0 rfl (op_move (av := .exact (.int .i64 (i64 ((List.length x7_j4 : Int) - 1)))) rfl ?_)
                        obtain ⟨n41, h⟩ := need_some h
                        refine P_q no34_0 rfl (op_slice_rowt (by kernel_rfl) rfl bnd_none (bnd_some rfl) (Int.le_refl 0) n41.1 n41.2 ?_)
                        obtain ⟨y42, hy42, h⟩ := bnd1_some h
                        refine P_q no34_0 rfl (op_pure (m_join_ok _ _ _ hy42) Tryd.func86 (by kernel_rfl) (LEs.cons (AV.le_eq rfl) (LEs.cons (AV.le_eq rfl) LEs.nil)) ?_)
                        obtain ⟨n43, h⟩ := need_some h
                        refine P_q no34_0 rfl (op_addS n43 rfl rfl ?_)
                        obtain ⟨n44, h⟩ := need_some h
                        refine P_q no34_0 rfl (op_addS n44 rfl rfl ?_)
                        refine P_q no34_0 rfl (op_move (av := .row 1 c_string x7_j4) rfl ?_)
                        refine P_q no34_0 rfl (op_move (av := .exact (.int .i64 (i64 ((List.length x7_j4 : Int) - 1)))) rfl ?_)
                        obtain ⟨n45, h⟩ := need_some h
                        refine P_q no34_0 rfl (op_index_row (by kernel_rfl) rfl rfl n45.1 n45.2 ?_)
                        refine P_q no34_0 rfl (op_load1p (a := .exact (.string (bs (gi x7_j4 (i64 ((List.length x7_j4 : Int) - 1)))))) (by kernel_rfl) rfl rfl ?_)
                        obtain ⟨n46, h⟩ := need_some h
                        refine P_q no34_0 rfl (op_addS n46 rfl rfl ?_)
                        refine P_q no34_0 rfl (op_move (av := .row 3 c_api_TypeNode x0_j4) rfl ?_)
                        refine P_q no34_0 rfl (op_assign (av := .exact (.string (bs ((([40] ++ y42) ++ [41, 32, 45, 62, 32]) ++ (gi x7_j4 (i64 ((List.length x7_j4 : Int) - 1))))))) rfl ?_)
                        refine P_q no34_0 rfl (op_assign (av := .row 3 c_api_TypeNode x0_j4) rfl ?_)
                        refine P_nil ?_
                        refine kC_normal ?_
                        refine k_ret ?_
                        refine kB_ret ?_
                        refine kC_ret ?_
                        obtain rfl := Option.some.inj h
                        refine kP_any (endN (af' := (AF.put (AF.put AF0 (some 4) (.exact (.string (bs ((([40] ++ y42) ++ [41, 32, 45, 62, 32]) ++ (gi x7_j4 (i64 ((List.length x7_j4 : Int) - 1)))))))) (some 5) (.row 3 c_api_TypeNode x0_j4))) (σ' := []) _ rfl ?_ ⟨rfl, rfl⟩)
                        refine Sub.trans (SubU.to SubU.drop) ?_
                        exact Sub.of_le (AF.le_put (AV.le_eq rfl) (AF.le_put (AV.le_eq rfl) (AF.le_top _)))
                      · replace h := ite_f h hc
                        refine k_seq ?_
                        refine k_reg .free hmixP (by kernel_rfl) ?_
                        refine G_q rfl (op_eql rfl rfl ?_)
                        refine G_q rfl (op_assign (av := .exact (.bool (decide (((gi a0 0).1) = 12)))) rfl ?_)
                        refine G_nil ?_
                        refine kC_normal ?_
                        refine k_cond_d (p := ((gi a0 0).1) = 12) rfl (fun hc => ?_) (fun hc => ?_)
                        · replace h := ite_t h hc
                          refine k_seq ?_
                          refine k_plan [] [(0, 0), (0, 5), (0, 10), (1, 1), (1, 2), (0, 3), (0, 4), (1, 6), (1, 7), (0, 8), (0, 9), (0, 11), (0, 12)] hmixP (by kernel_rfl) ?_
                          refine P_q no34_0 rfl (op_move (av := .exact v7_j4) rfl ?_)
                          refine P_q no34_0 rfl (op_move (av := .exact v7_j4) rfl ?_)
                          refine P_q no34_0 rfl (op_move (av := .row 3 c_api_TypeNode x0_j4) rfl ?_)
                          obtain ⟨n47, h⟩ := need_some h
                          refine P_r rfl (opR_f1 (op_index_vec (by kernel_rfl) rfl rfl n47.1 n47.2 ?_))
                          refine P_r rfl (opR_f1 (op_load_vec1 (i := 0) (o := 0) (a := .exact (.string (bs (gi x7_j4 0)))) (by kernel_rfl) len_c_string rfl n47.1 n47.2 rfl ?_))
                          obtain ⟨n48, h⟩ := need_some h
                          refine P_q no34_0 rfl (op_addS n48 rfl rfl ?_)
                          obtain ⟨n49, h⟩ := need_some h
                          refine P_q no34_0 rfl (op_addS n49 rfl rfl ?_)
                          obtain ⟨n50, h⟩ := need_some h
                          refine P_r rfl (opR_f1 (op_index_vec (by kernel_rfl) rfl rfl n50.1 n50.2 ?_))
                          refine P_r rfl (opR_f1 (op_load_vec1 (i := 1) (o := 0) (a := .exact (.string (bs (gi x7_j4 1)))) (by kernel_rfl) len_c_string rfl n50.1 n50.2 rfl ?_))
                          obtain ⟨n51, h⟩ := need_some h
                          refine P_q no34_0 rfl (op_addS n51 rfl rfl ?_)
                          obtain ⟨n52, h⟩ := need_some h
                          refine P_q no34_0 rfl (op_addS n52 rfl rfl ?_)
                          refine P_q no34_0 rfl (op_assign (av := .exact (.string (bs (((([40] ++ (gi x7_j4 0)) ++ [46]) ++ (gi x7_j4 1)) ++ [41])))) rfl ?_)
                          refine P_q no34_0 rfl (op_assign (av := .row 3 c_api_TypeNode x0_j4) rfl ?_)
                          refine P_nil ?_
                          refine kC_normal ?_
                          refine k_ret ?_
                          refine kB_ret ?_
                          refine kC_ret ?_
                          obtain rfl := Option.some.inj h
                          refine kP_any (endN (af' := (AF.put (AF.put AF0 (some 4) (.exact (.string (bs (((([40] ++ (gi x7_j4 0)) ++ [46]) ++ (gi x7_j4 1)) ++ [41]))))) (some 5) (.row 3 c_api_TypeNode x0_j4))) (σ' := []) _ rfl ?_ ⟨rfl, rfl⟩)
                          refine Sub.trans (SubU.to SubU.drop) ?_
                          refine Sub.trans (SubU.to SubU.drop) ?_
                          exact Sub.of_le (AF.le_put (AV.le_eq rfl) (AF.le_put (AV.le_eq rfl) (AF.le_top _)))
                        · replace h := ite_f h hc
                          refine k_seq ?_
                          refine k_reg .free hmixP (by kernel_rfl) ?_
                          refine G_q rfl (op_eql rfl rfl ?_)
                          refine G_q rfl (op_assign (av := .exact (.bool (decide (((gi a0 0).1) = 13)))) rfl ?_)
                          refine G_nil ?_
                          refine kC_normal ?_
                          refine k_cond_d (p := ((gi a0 0).1) = 13) rfl (fun hc => ?_) (fun hc => ?_)
                          · replace h := ite_t h hc
                            refine k_seq ?_
                            refine k_plan [] [(0, 0), (0, 5), (0, 10), (1, 1), (1, 2), (0, 3), (0, 4), (1, 6), (1, 7), (0, 8), (0, 9), (0, 11), (0, 12)] hmixP (by kernel_rfl) ?_
                            refine P_q no34_0 rfl (op_move (av := .exact v7_j4) rfl ?_)
                            refine P_q no34_0 rfl (op_move (av := .exact v7_j4) rfl ?_)
                            refine P_q no34_0 rfl (op_move (av := .row 3 c_api_TypeNode x0_j4) rfl ?_)
                            obtain ⟨n53, h⟩ := need_some h
                            refine P_r rfl (opR_f1 (op_index_vec (by kernel_rfl) rfl rfl n53.1 n53.2 ?_))
                            refine P_r rfl (opR_f1 (op_load_vec1 (i := 0) (o := 0) (a := .exact (.string (bs (gi x7_j4 0)))) (by kernel_rfl) len_c_string rfl n53.1 n53.2 rfl ?_))
                            obtain ⟨n54, h⟩ := need_some h
                            refine P_q no34_0 rfl (op_addS n54 rfl rfl ?_)
                            obtain ⟨n55, h⟩ := need_some h
                            refine P_q no34_0 rfl (op_addS n55 rfl rfl ?_)
                            obtain ⟨n56, h⟩ := need_some h
                            refine P_r rfl (opR_f1 (op_index_vec (by kernel_rfl) rfl rfl n56.1 n56.2 ?_))
                            refine P_r rfl (opR_f1 (op_load_vec1 (i := 1) (o := 0) (a := .exact (.string (bs (gi x7_j4 1)))) (by kernel_rfl) len_c_string rfl n56.1 n56.2 rfl ?_))
                            obtain ⟨n57, h⟩ := need_some h
                            refine P_q no34_0 rfl (op_addS n57 rfl rfl ?_)
                            obtain ⟨n58, h⟩ := need_some h
                            refine P_q no34_0 rfl (op_addS n58 rfl rfl ?_)
                            refine P_q no34_0 rfl (op_assign (av := .exact (.string (bs (((([40] ++ (gi x7_j4 0)) ++ [32, 61, 62, 32]) ++ (gi x7_j4 1)) ++ [41])))) rfl ?_)
                            refine P_q no34_0 rfl (op_assign (av := .row 3 c_api_TypeNode x0_j4) rfl ?_)
                            refine P_nil ?_
                            refine kC_normal ?_
                            refine k_ret ?_
                            refine kB_ret ?_
                            refine kC_ret ?_
                            obtain rfl := Option.some.inj h
                            refine kP_any (endN (af' := (AF.put (AF.put AF0 (some 4) (.exact (.string (bs (((([40] ++ (gi x7_j4 0)) ++ [32, 61, 62, 32]) ++ (gi x7_j4 1)) ++ [41]))))) (some 5) (.row 3 c_api_TypeNode x0_j4))) (σ' := []) _ rfl ?_ ⟨rfl, rfl⟩)
                            refine Sub.trans (SubU.to SubU.drop) ?_
                            refine Sub.trans (SubU.to SubU.drop) ?_
                            exact Sub.of_le (AF.le_put (AV.le_eq rfl) (AF.le_put (AV.le_eq rfl) (AF.le_top _)))
                          · replace h := ite_f h hc
                            refine k_skip ?_
                            refine kB_normal ?_
                            refine kC_normal ?_
                            refine k_seq ?_
                            refine k_reg .free hmixP (by kernel_rfl) ?_
                            refine G_q rfl (op_move (av := .exact v7_j4) rfl ?_)
                            refine G_sub rfl (SubU.trans SubU.f1 (SubU.freezeT2 (s1 := 7) (s2 := 141) rfl rfl len_c_string)) ?_
                            obtain ⟨y59, hy59, h⟩ := bnd1_some h
                            refine G_q rfl (op_pure (m_join_ok _ _ _ hy59) Tryd.func86 (by kernel_rfl) (LEs.cons (AV.le_eq rfl) (LEs.cons (AV.le_eq rfl) LEs.nil)) ?_)
                            obtain ⟨n60, h⟩ := need_some h
                            refine G_q rfl (op_addS n60 rfl rfl ?_)
                            obtain ⟨n61, h⟩ := need_some h
                            refine G_q rfl (op_addS n61 rfl rfl ?_)
                            refine G_q rfl (op_move (av := .row 3 c_api_TypeNode x0_j4) rfl ?_)
                            refine G_q rfl (op_assign (av := .exact (.string (bs (([40] ++ y59) ++ [41])))) rfl ?_)
                            refine G_q rfl (op_assign (av := .row 3 c_api_TypeNode x0_j4) rfl ?_)
                            refine G_nil ?_
                            refine kC_normal ?_
                            refine k_ret ?_
                            obtain rfl := Option.some.inj h
                            refine kP_any (endN (af' := (AF.put (AF.put AF0 (some 4) (.exact (.string (bs (([40] ++ y59) ++ [41]))))) (some 5) (.row 3 c_api_TypeNode x0_j4))) (σ' := []) _ rfl ?_ ⟨rfl, rfl⟩)
                            refine Sub.trans (SubU.to SubU.drop) ?_
                            exact Sub.of_le (AF.le_put (AV.le_eq rfl) (AF.le_put (AV.le_eq rfl) (AF.le_top _)))
set_option maxHeartbeats 4000000 in
theorem m_types_text_S_ok : ∀ n : Nat, (∀ (a0 : List (Int × Int × Int)) (a1 : List (List UInt8)) (r : (List UInt8) × (List (Int × Int × Int))), m_types_text_S n a0 a1 = some r → Pure Tryd.prog 68 [(.row 3 c_api_TypeNode a0), (.row 1 c_string a1)] (.tup [.exact (.string (bs r.1)), .row 3 c_api_TypeNode r.2]))
  | 0 => (fun _ _ _ h => by have h' : (none : Option _) = some _ := h; cases h')
  | n + 1 => by
    have ih := m_types_text_S_ok n
    exact fun a0 a1 r h => m_types_text_F_ok (m_types_text_S n) ih a0 a1 r h
theorem m_types_text_ok (a0 : List (Int × Int × Int)) (a1 : List (List UInt8)) (r : (List UInt8) × (List (Int × Int × Int))) (h : m_types_text a0 a1 = some r) : Pure Tryd.prog 68 [(.row 3 c_api_TypeNode a0), (.row 1 c_string a1)] (.tup [.exact (.string (bs r.1)), .row 3 c_api_TypeNode r.2]) := (m_types_text_S_ok FU) a0 a1 r h
set_option maxHeartbeats 4000000 in
theorem m_types_Format_ok (a0 : List (Int × Int × Int)) (a1 : List (List UInt8)) (r : (List UInt8)) (h : m_types_Format a0 a1 = some r) : Pure Tryd.prog 36 [(.row 3 c_api_TypeNode a0), (.row 1 c_string a1)] (.exact (.string (bs r))) := by
  unfold m_types_Format at h
  refine Pure.ofFun (fun_of_awp Tryd.func36 rfl Tryd.ntmps36 (by simp) rfl (res1 rfl) fun E hE => k_end ?_)
  refine k_seq ?_
  refine k_reg .free hmixP (by kernel_rfl) ?_
  refine G_q rfl (op_assign (av := .exact (.string (bs ([] : List UInt8)))) rfl ?_)
  refine G_nil ?_
  refine kC_normal ?_
  refine k_seq ?_
  refine k_seq ?_
  refine k_reg .free hmixP (by kernel_rfl) ?_
  refine G_q rfl (op_move (av := .row 3 c_api_TypeNode a0) rfl ?_)
  obtain ⟨y1, hy1, h⟩ := bnd1_some h
  refine G_q rfl (op_pure (m_types_Valid_ok _ _ hy1) Tryd.func29 (by kernel_rfl) (LEs.cons (AV.le_eq rfl) LEs.nil) ?_)
  refine G_q rfl (op_not rfl ?_)
  refine G_nil ?_
  refine kC_normal ?_
  refine k_cond_b (c := !y1) rfl (fun hc => ?_) (fun hc => ?_)
  · replace h := ite_t h hc
    refine k_seq ?_
    refine k_reg .free hmixP (by kernel_rfl) ?_
    refine G_q rfl (op_assign (av := .exact (.string (bs ([] : List UInt8)))) rfl ?_)
    refine G_nil ?_
    refine kC_normal ?_
    refine k_ret ?_
    refine kC_ret ?_
    obtain rfl := Option.some.inj h
    refine kP_any (endN (af' := (AF.put AF0 (some 4) (.exact (.string (bs ([] : List UInt8)))))) (σ' := []) _ rfl ?_ ⟨rfl, rfl⟩)
    exact Sub.of_le (AF.le_put (AV.le_eq rfl) (AF.le_top _))
  · replace h := ite_f h hc
    refine k_skip ?_
    refine kC_normal ?_
    refine k_seq ?_
    refine k_reg .free hmixP (by kernel_rfl) ?_
    refine G_q rfl (op_move (av := .row 3 c_api_TypeNode a0) rfl ?_)
    refine G_q rfl (op_move (av := .row 1 c_string a1) rfl ?_)
    obtain ⟨y2, hy2, h⟩ := bnd1_some h
    refine G_q rfl (op_pure (m_types_text_ok _ _ _ hy2) Tryd.func68 (by kernel_rfl) (LEs.cons (AV.le_eq rfl) (LEs.cons (AV.le_eq rfl) LEs.nil)) ?_)
    refine G_q rfl (op_move (av := .tup [.exact (.string (bs y2.1)), .row 3 c_api_TypeNode y2.2]) rfl ?_)
    refine G_q rfl (op_extract (av := .exact (.string (bs y2.1))) rfl rfl ?_)
    refine G_q rfl (op_extract (av := .row 3 c_api_TypeNode y2.2) rfl rfl ?_)
    refine G_q rfl (op_assign (av := .exact (.string (bs y2.1))) rfl ?_)
    refine G_q rfl (op_assign (av := .row 3 c_api_TypeNode y2.2) rfl ?_)
    refine G_nil ?_
    refine kC_normal ?_
    refine k_seq ?_
    refine k_reg .free hmixP (by kernel_rfl) ?_
    refine G_q rfl (op_move (av := .exact (.string (bs y2.1))) rfl ?_)
    refine G_q rfl (op_assign (av := .exact (.string (bs y2.1))) rfl ?_)
    refine G_nil ?_
    refine kC_normal ?_
    refine k_ret ?_
    obtain rfl := Option.some.inj h
    refine kP_any (endN (af' := (AF.put AF0 (some 4) (.exact (.string (bs y2.1))))) (σ' := []) _ rfl ?_ ⟨rfl, rfl⟩)
    exact Sub.of_le (AF.le_put (AV.le_eq rfl) (AF.le_top _))
set_option maxHeartbeats 4000000 in
theorem m_law7_awake_ok  (r : Bool) (h : m_law7_awake = some r) : Pure Tryd.prog 16 [] (.exact (.bool r)) := by
  unfold m_law7_awake at h
  refine Pure.ofFun (fun_of_awp Tryd.func16 rfl Tryd.ntmps16 (by simp) rfl (res1 rfl) fun E hE => k_end ?_)
  refine k_seq ?_
  refine k_reg .free hmixP (by kernel_rfl) ?_
  refine G_q rfl (op_assign (av := .exact (.bool false)) rfl ?_)
  refine G_nil ?_
  refine kC_normal ?_
  refine k_seq ?_
  refine k_reg .free hmixP (by kernel_rfl) ?_
  obtain ⟨y1, hy1, h⟩ := bnd1_some h
  refine G_q rfl (op_pure (m_ref6_Make_fz _ _ _ _ hy1) Tryd.func25 (by kernel_rfl) (LEs.cons (AV.le_eq rfl) (LEs.cons (AV.le_eq rfl) (LEs.cons (row_nil (by decide)) LEs.nil))) ?_)
  refine G_q rfl (op_assign (av := .row 3 c_api_TypeNode y1) rfl ?_)
  refine G_nil ?_
  refine kC_normal ?_
  refine k_seq ?_
  refine k_reg .free hmixP (by kernel_rfl) ?_
  refine G_q rfl (op_move (av := .row 3 c_api_TypeNode y1) rfl ?_)
  obtain ⟨y2, hy2, h⟩ := bnd1_some h
  refine G_q rfl (op_pure (m_ref6_Make_fz _ _ _ _ hy2) Tryd.func25 (by kernel_rfl) (LEs.cons (AV.le_eq rfl) (LEs.cons (AV.le_eq rfl) (LEs.cons (row_nil (by decide)) LEs.nil))) ?_)
  obtain ⟨y3, hy3, h⟩ := bnd1_some h
  refine G_q rfl (op_pure (m_types_Unify_ok _ _ _ hy3) Tryd.func12 (by kernel_rfl) (LEs.cons (AV.le_eq rfl) (LEs.cons (AV.le_eq rfl) LEs.nil)) ?_)
  refine G_q rfl (op_move (av := .tup [.row 2 c_api_Binding y3.1, .exact (.int .i64 y3.2)]) rfl ?_)
  refine G_q rfl (op_extract (av := .row 2 c_api_Binding y3.1) rfl rfl ?_)
  refine G_q rfl (op_extract (av := .exact (.int .i64 y3.2)) rfl rfl ?_)
  refine G_q rfl (op_assign (av := .row 2 c_api_Binding y3.1) rfl ?_)
  refine G_q rfl (op_assign (av := .exact (.int .i64 y3.2)) rfl ?_)
  refine G_nil ?_
  refine kC_normal ?_
  refine k_seq ?_
  refine k_reg .free hmixP (by kernel_rfl) ?_
  refine G_q rfl (op_move (av := .row 3 c_api_TypeNode y1) rfl ?_)
  refine G_q rfl (op_move (av := .row 3 c_api_TypeNode y1) rfl ?_)
  refine G_q rfl (op_litT (n := 1) (enc := c_L_api_TypeNode) [y1] (CellsAll.cons rfl CellsOf.row CellsAll.nil) rfl (by kernel_rfl) (LEss.cons (LEs.cons (AV.le_eq rfl) LEs.nil) LEss.nil) ?_)
  obtain ⟨y4, hy4, h⟩ := bnd1_some h
  refine G_q rfl (op_pure (m_ref6_Make_fz _ _ _ _ hy4) Tryd.func25 (by kernel_rfl) (LEs.cons (AV.le_eq rfl) (LEs.cons (AV.le_eq rfl) (LEs.cons (AV.le_eq rfl) LEs.nil))) ?_)
  obtain ⟨y5, hy5, h⟩ := bnd1_some h
  refine G_q rfl (op_pure (m_types_Unify_ok _ _ _ hy5) Tryd.func12 (by kernel_rfl) (LEs.cons (AV.le_eq rfl) (LEs.cons (AV.le_eq rfl) LEs.nil)) ?_)
  refine G_q rfl (op_move (av := .tup [.row 2 c_api_Binding y5.1, .exact (.int .i64 y5.2)]) rfl ?_)
  refine G_q rfl (op_extract (av := .row 2 c_api_Binding y5.1) rfl rfl ?_)
  refine G_q rfl (op_extract (av := .exact (.int .i64 y5.2)) rfl rfl ?_)
  refine G_q rfl (op_assign (av := .row 2 c_api_Binding y5.1) rfl ?_)
  refine G_q rfl (op_assign (av := .exact (.int .i64 y5.2)) rfl ?_)
  refine G_nil ?_
  refine kC_normal ?_
  refine k_join1_0 h (fun (x0_j6 : Bool) => (AF.put AF0 (some 0) (.exact (.bool x0_j6)))) (fun (x0_j6 : Bool) => []) (fun k6 h => ?_) (fun x0_j6 h => ?_)
  · refine k_reg .free hmixP (by kernel_rfl) ?_
    refine G_q rfl (op_move (av := .row 3 c_api_TypeNode y1) rfl ?_)
    obtain ⟨y10, hy10, h⟩ := bnd1_some h
    refine G_q rfl (op_pure (m_types_Valid_ok _ _ hy10) Tryd.func29 (by kernel_rfl) (LEs.cons (AV.le_eq rfl) LEs.nil) ?_)
    refine G_q rfl (op_move (av := .exact (.bool y10)) rfl ?_)
    refine G_splitB (c := y10) 23 rfl (fun hc => ?_) (fun hc => ?_)
    · replace h := ite_t h hc
      refine Gy_q rfl rfl rfl (op_move (av := .exact (.int .i64 y3.2)) rfl ?_)
      refine Gy_q rfl rfl rfl (op_eql rfl rfl ?_)
      refine G_q rfl (op_pick_t rfl (av := .exact (.bool (decide (y3.2 = 0)))) rfl ?_)
      refine G_q rfl (op_move (av := .exact (.bool (decide (y3.2 = 0)))) rfl ?_)
      refine G_split (p := y3.2 = 0) 27 rfl (fun hc => ?_) (fun hc => ?_)
      · replace h := ite_t h hc
        refine Gy_q rfl rfl rfl (op_move (av := .row 2 c_api_Binding y3.1) rfl ?_)
        refine Gy_q rfl rfl rfl (op_len_row (by kernel_rfl) rfl ?_)
        refine Gy_q rfl rfl rfl (op_eql rfl rfl ?_)
        refine G_q rfl (op_pick_t rfl (av := .exact (.bool (decide ((List.length y3.1 : Int) = 1)))) rfl ?_)
        refine G_q rfl (op_move (av := .exact (.bool (decide ((List.length y3.1 : Int) = 1)))) rfl ?_)
        refine G_split (p := (List.length y3.1 : Int) = 1) 32 rfl (fun hc => ?_) (fun hc => ?_)
        · replace h := ite_t h hc
          refine Gy_q rfl rfl rfl (op_move (av := .row 2 c_api_Binding y3.1) rfl ?_)
          obtain ⟨n11, h⟩ := need_some h
          refine Gy_q rfl rfl rfl (op_index_row (by kernel_rfl) rfl rfl n11.1 n11.2 ?_)
          refine Gy_q rfl rfl rfl (op_fieldAddr_ptr (o := 0) (c' := (List.drop 0 (c_api_Binding (gi y3.1 0)))) (by kernel_rfl) rfl rfl ?_)
          refine Gy_q rfl rfl rfl (op_load1p (a := .exact (.int .i64 ((gi y3.1 0).1))) (by kernel_rfl) rfl rfl ?_)
          refine Gy_q rfl rfl rfl (op_eql rfl rfl ?_)
          refine G_q rfl (op_pick_t rfl (av := .exact (.bool (decide (((gi y3.1 0).1) = 0)))) rfl ?_)
          refine G_q rfl (op_move (av := .exact (.bool (decide (((gi y3.1 0).1) = 0)))) rfl ?_)
          refine G_split (p := ((gi y3.1 0).1) = 0) 39 rfl (fun hc => ?_) (fun hc => ?_)
          · replace h := ite_t h hc
            refine Gy_q rfl rfl rfl (op_move (av := .exact (.int .i64 y5.2)) rfl ?_)
            refine Gy_q rfl rfl rfl (op_eql rfl rfl ?_)
            refine G_q rfl (op_pick_t rfl (av := .exact (.bool (decide (y5.2 = 8)))) rfl ?_)
            refine G_q rfl (op_move (av := .exact (.bool (decide (y5.2 = 8)))) rfl ?_)
            refine G_split (p := y5.2 = 8) 43 rfl (fun hc => ?_) (fun hc => ?_)
            · replace h := ite_t h hc
              refine Gy_q rfl rfl rfl (op_move (av := .row 3 c_api_TypeNode y1) rfl ?_)
              obtain ⟨y12, hy12, h⟩ := bnd1_some h
              refine Gy_q rfl rfl rfl (op_pure (m_types_Format_ok _ _ _ hy12) Tryd.func36 (by kernel_rfl) (LEs.cons (AV.le_eq rfl) (LEs.cons (row_nil (by decide)) LEs.nil)) ?_)
              refine Gy_q rfl rfl rfl (op_eqlS rfl rfl ?_)
              refine G_q rfl (op_pick_t rfl (av := .exact (.bool (decide (y12 = [116, 48])))) rfl ?_)
              refine G_q rfl (op_assign (av := .exact (.bool (decide (y12 = [116, 48])))) rfl ?_)
              refine G_nil ?_
              refine kI_normal ⟨_, h, ?_⟩
              exact Sub.of_le (AF.le_put (AV.le_eq rfl) (AF.le_top _))
            · replace h := ite_f h hc
              refine G_n rfl rfl ?_
              refine G_n rfl rfl ?_
              refine G_n rfl rfl ?_
              refine G_q rfl (op_pick_f rfl (av := .exact (.bool false)) rfl ?_)
              refine G_q rfl (op_assign (av := .exact (.bool false)) rfl ?_)
              refine G_nil ?_
              refine kI_normal ⟨_, h, ?_⟩
              exact Sub.of_le (AF.le_put (AV.le_eq rfl) (AF.le_top _))
          · replace h := ite_f h hc
            refine G_n rfl rfl ?_
            refine G_n rfl rfl ?_
            refine G_q rfl (op_pick_f rfl (av := .exact (.bool false)) rfl ?_)
            refine G_q rfl (op_move (av := .exact (.bool false)) rfl ?_)
            refine G_n rfl rfl ?_
            refine G_n rfl rfl ?_
            refine G_n rfl rfl ?_
            refine G_q rfl (op_pick_f rfl (av := .exact (.bool false)) rfl ?_)
            refine G_q rfl (op_assign (av := .exact (.bool false)) rfl ?_)
            refine G_nil ?_
            refine kI_normal ⟨_, h, ?_⟩
            exact Sub.of_le (AF.le_put (AV.le_eq rfl) (AF.le_top _))
        · replace h := ite_f h hc
          refine G_n rfl rfl ?_
          refine G_n rfl rfl ?_
          refine G_n rfl rfl ?_
          refine G_n rfl rfl ?_
          refine G_n rfl rfl ?_
          refine G_q rfl (op_pick_f rfl (av := .exact (.bool false)) rfl ?_)
          refine G_q rfl (op_move (av := .exact (.bool false)) rfl ?_)
          refine G_n rfl rfl ?_
          refine G_n rfl rfl ?_
          refine G_q rfl (op_pick_f rfl (av := .exact (.bool false)) rfl ?_)
          refine G_q rfl (op_move (av := .exact (.bool false)) rfl ?_)
          refine G_n rfl rfl ?_
          refine G_n rfl rfl ?_
          refine G_n rfl rfl ?_
          refine G_q rfl (op_pick_f rfl (av := .exact (.bool false)) rfl ?_)
          refine G_q rfl (op_assign (av := .exact (.bool false)) rfl ?_)
          refine G_nil ?_
          refine kI_normal ⟨_, h, ?_⟩
          exact Sub.of_le (AF.le_put (AV.le_eq rfl) (AF.le_top _))
      · replace h := ite_f h hc
        refine G_n rfl rfl ?_
        refine G_n rfl rfl ?_
        refine G_n rfl rfl ?_
        refine G_q rfl (op_pick_f rfl (av := .exact (.bool false)) rfl ?_)
        refine G_q rfl (op_move (av := .exact (.bool false)) rfl ?_)
        refine G_n rfl rfl ?_
        refine G_n rfl rfl ?_
        refine G_n rfl rfl ?_
        refine G_n rfl rfl ?_
        refine G_n rfl rfl ?_
        refine G_q rfl (op_pick_f rfl (av := .exact (.bool false)) rfl ?_)
        refine G_q rfl (op_move (av := .exact (.bool false)) rfl ?_)
        refine G_n rfl rfl ?_
        refine G_n rfl rfl ?_
        refine G_q rfl (op_pick_f rfl (av := .exact (.bool false)) rfl ?_)
        refine G_q rfl (op_move (av := .exact (.bool false)) rfl ?_)
        refine G_n rfl rfl ?_
        refine G_n rfl rfl ?_
        refine G_n rfl rfl ?_
        refine G_q rfl (op_pick_f rfl (av := .exact (.bool false)) rfl ?_)
        refine G_q rfl (op_assign (av := .exact (.bool false)) rfl ?_)
        refine G_nil ?_
        refine kI_normal ⟨_, h, ?_⟩
        exact Sub.of_le (AF.le_put (AV.le_eq rfl) (AF.le_top _))
    · replace h := ite_f h hc
      refine G_n rfl rfl ?_
      refine G_n rfl rfl ?_
      refine G_q rfl (op_pick_f rfl (av := .exact (.bool false)) rfl ?_)
      refine G_q rfl (op_move (av := .exact (.bool false)) rfl ?_)
      refine G_n rfl rfl ?_
      refine G_n rfl rfl ?_
      refine G_n rfl rfl ?_
      refine G_q rfl (op_pick_f rfl (av := .exact (.bool false)) rfl ?_)
      refine G_q rfl (op_move (av := .exact (.bool false)) rfl ?_)
      refine G_n rfl rfl ?_
      refine G_n rfl rfl ?_
      refine G_n rfl rfl ?_
      refine G_n rfl rfl ?_
      refine G_n rfl rfl ?_
      refine G_q rfl (op_pick_f rfl (av := .exact (.bool false)) rfl ?_)
      refine G_q rfl (op_move (av := .exact (.bool false)) rfl ?_)
      refine G_n rfl rfl ?_
      refine G_n rfl rfl ?_
      refine G_q rfl (op_pick_f rfl (av := .exact (.bool false)) rfl ?_)
      refine G_q rfl (op_move (av := .exact (.bool false)) rfl ?_)
      refine G_n rfl rfl ?_
      refine G_n rfl rfl ?_
      refine G_n rfl rfl ?_
      refine G_q rfl (op_pick_f rfl (av := .exact (.bool false)) rfl ?_)
      refine G_q rfl (op_assign (av := .exact (.bool false)) rfl ?_)
      refine G_nil ?_
      refine kI_normal ⟨_, h, ?_⟩
      exact Sub.of_le (AF.le_put (AV.le_eq rfl) (AF.le_top _))
  · refine k_ret ?_
    obtain rfl := Option.some.inj h
    refine kP_any (endN (af' := (AF.put AF0 (some 0) (.exact (.bool x0_j6)))) (σ' := []) _ rfl ?_ ⟨rfl, rfl⟩)
    exact Sub.of_le (AF.le_put (AV.le_eq rfl) (AF.le_top _))
set_option maxHeartbeats 4000000 in
theorem m_help_Equal_api_Need_ok (a0 : List (Int × Int)) (a1 : List (Int × Int)) (r : Bool) (h : m_help_Equal_api_Need a0 a1 = some r) : Pure Tryd.prog 28 [(.row 2 c_api_Need a0), (.row 2 c_api_Need a1)] (.exact (.bool r)) := by
  unfold m_help_Equal_api_Need at h
  refine Pure.ofFun (fun_of_awp Tryd.func28 rfl Tryd.ntmps28 (by simp) rfl (res1 rfl) fun E hE => k_end ?_)
  refine k_seq ?_
  refine k_reg .free hmixP (by kernel_rfl) ?_
  refine G_q rfl (op_assign (av := .exact (.bool false)) rfl ?_)
  refine G_nil ?_
  refine kC_normal ?_
  refine k_seq ?_
  refine k_seq ?_
  refine k_reg .free hmixP (by kernel_rfl) ?_
  refine G_q rfl (op_move (av := .row 2 c_api_Need a0) rfl ?_)
  refine G_q rfl (op_len_row (by kernel_rfl) rfl ?_)
  refine G_q rfl (op_move (av := .row 2 c_api_Need a1) rfl ?_)
  refine G_q rfl (op_len_row (by kernel_rfl) rfl ?_)
  refine G_q rfl (op_neq rfl rfl ?_)
  refine G_nil ?_
  refine kC_normal ?_
  refine k_cond_d (p := ¬ (List.length a0 : Int) = (List.length a1 : Int)) rfl (fun hc => ?_) (fun hc => ?_)
  · replace h := ite_t h hc
    refine k_seq ?_
    refine k_reg .free hmixP (by kernel_rfl) ?_
    refine G_q rfl (op_assign (av := .exact (.bool false)) rfl ?_)
    refine G_nil ?_
    refine kC_normal ?_
    refine k_ret ?_
    refine kC_ret ?_
    obtain rfl := Option.some.inj h
    refine kP_any (endN (af' := (AF.put AF0 (some 4) (.exact (.bool false)))) (σ' := []) _ rfl ?_ ⟨rfl, rfl⟩)
    exact Sub.of_le (AF.le_put (AV.le_eq rfl) (AF.le_top _))
  · replace h := ite_f h hc
    refine k_skip ?_
    refine kC_normal ?_
    refine k_join0_0 h (AF0) ([]) (fun k1 h => ?_) (fun  h => ?_)
    · refine k_seq ?_
      refine k_reg .free hmixP (by kernel_rfl) ?_
      refine G_q rfl (op_assign (av := .exact (.int .i64 0)) rfl ?_)
      refine G_nil ?_
      refine kC_normal ?_
      refine k_block ?_
      refine k_loop1_0 (m_help_Equal_api_Need_L2 a0 a1 k1) (m_help_Equal_api_Need_B2 a0 a1 k1) (fun _ => rfl) (fun m _ => rfl) h (fun (x5_l2 : Int) => (AF.put (AF.put (AF.put AF0 (some 0) (.row 2 c_api_Need a0)) (some 1) (.row 2 c_api_Need a1)) (some 5) (.exact (.int .i64 x5_l2)))) (fun (x5_l2 : Int) => []) ?_ (fun rec2 x5_l2 h => ?_)
      · exact Sub.of_le (AF.le_put (AV.le_eq rfl) (AF.le_put (AV.le_eq rfl) (AF.le_put (AV.le_eq rfl) (AF.le_top _))))
      · unfold m_help_Equal_api_Need_B2 at h
        refine k_seq ?_
        refine k_seq ?_
        refine k_reg .free hmixP (by kernel_rfl) ?_
        refine G_q rfl (op_move (av := .exact (.int .i64 x5_l2)) rfl ?_)
        refine G_q rfl (op_move (av := .row 2 c_api_Need a0) rfl ?_)
        refine G_q rfl (op_len_row (by kernel_rfl) rfl ?_)
        refine G_q rfl (op_lss rfl rfl ?_)
        refine G_nil ?_
        refine kC_normal ?_
        refine k_cond_d (p := x5_l2 < (List.length a0 : Int)) rfl (fun hc => ?_) (fun hc => ?_)
        · replace h := ite_t h hc
          refine k_skip ?_
          refine kC_normal ?_
          refine k_seq ?_
          refine k_block ?_
          refine k_seq ?_
          refine k_plan [] [(0, 0), (0, 1), (0, 2), (0, 3), (0, 4), (0, 5), (0, 6), (0, 7), (0, 8)] hmixP (by kernel_rfl) ?_
          refine P_q no34_0 rfl (op_move (av := .row 2 c_api_Need a0) rfl ?_)
          refine P_q no34_0 rfl (op_move (av := .exact (.int .i64 x5_l2)) rfl ?_)
          obtain ⟨n13, h⟩ := need_some h
          refine P_q no34_0 rfl (op_index_row (by kernel_rfl) rfl rfl n13.1 n13.2 ?_)
          refine P_q no34_0 rfl (op_loadNp (m := 2) (c' := c_api_Need (gi a0 x5_l2)) (by kernel_rfl) rfl rfl rfl ?_)
          refine P_q no34_0 rfl (op_move (av := .row 2 c_api_Need a1) rfl ?_)
          refine P_q no34_0 rfl (op_move (av := .exact (.int .i64 x5_l2)) rfl ?_)
          obtain ⟨n14, h⟩ := need_some h
          refine P_q no34_0 rfl (op_index_row (by kernel_rfl) rfl rfl n14.1 n14.2 ?_)
          refine P_q no34_0 rfl (op_loadNp (m := 2) (c' := c_api_Need (gi a1 x5_l2)) (by kernel_rfl) rfl rfl rfl ?_)
          refine P_q no34_0 rfl (op_neqA (a := (gi a0 x5_l2)) (b := (gi a1 x5_l2)) (by kernel_rfl) (eq_c_api_Need _ _) rfl rfl ?_)
          refine P_nil ?_
          refine kC_normal ?_
          refine k_cond_d (p := ¬ (gi a0 x5_l2) = (gi a1 x5_l2)) rfl (fun hc => ?_) (fun hc => ?_)
          · replace h := ite_t h hc
            refine k_seq ?_
            refine k_reg .free hmixP (by kernel_rfl) ?_
            refine G_q rfl (op_assign (av := .exact (.bool false)) rfl ?_)
            refine G_nil ?_
            refine kC_normal ?_
            refine k_ret ?_
            refine kB_ret ?_
            refine kC_ret ?_
            refine kI_ret ?_
            refine kB_ret ?_
            refine kI_ret ?_
            obtain rfl := Option.some.inj h
            refine kP_any (endN (af' := (AF.put AF0 (some 4) (.exact (.bool false)))) (σ' := []) _ rfl ?_ ⟨rfl, rfl⟩)
            exact Sub.of_le (AF.le_put (AV.le_eq rfl) (AF.le_top _))
          · replace h := ite_f h hc
            refine k_skip ?_
            refine kB_normal ?_
            refine kC_normal ?_
            refine k_reg .free hmixP (by kernel_rfl) ?_
            refine G_q rfl (op_move (av := .exact (.int .i64 x5_l2)) rfl ?_)
            refine G_q rfl (op_add rfl rfl rfl ?_)
            refine G_q rfl (op_assign (av := .exact (.int .i64 (i64 (x5_l2 + 1)))) rfl ?_)
            refine G_nil ?_
            refine kI_normal ⟨_, h, ?_⟩
            exact Sub.of_le (AF.le_put (AV.le_eq rfl) (AF.le_put (AV.le_eq rfl) (AF.le_put (AV.le_eq rfl) (AF.le_top _))))
        · replace h := ite_f h hc
          refine k_exit ?_
          refine kC_exit ?_
          refine kI_exit ?_
          refine kB_exit ?_
          refine kI_normal ⟨h, ?_⟩
          exact Sub.of_le (AF.le_top _)
    · refine k_seq ?_
      refine k_reg .free hmixP (by kernel_rfl) ?_
      refine G_q rfl (op_assign (av := .exact (.bool true)) rfl ?_)
      refine G_nil ?_
      refine kC_normal ?_
      refine k_ret ?_
      obtain rfl := Option.some.inj h
      refine kP_any (endN (af' := (AF.put AF0 (some 4) (.exact (.bool true)))) (σ' := []) _ rfl ?_ ⟨rfl, rfl⟩)
      exact Sub.of_le (AF.le_put (AV.le_eq rfl) (AF.le_top _))
end Go.Proofs.YtdfdjgolijckfaaDoor
/- The functions compute their models, by program. -/
namespace Go.Proofs.YtdfdjgolijckfaaDoor
open Go.RowKit
attribute [local irreducible] AV.exact AV.top AV.row AV.ptr AV.agg AV.tup AV.eptr AV.fn AV.nilq AV.nilqn opA opB opM opR Quiet Loud Reads wpG awp den Sub SubU Pure Fun vecI vecT boxI CellsAll CellsOf OneC LEs LEss
set_option maxRecDepth 100000

set_option maxHeartbeats 4000000 in
theorem m_law7_TypesNeeds_ok (a0 : List (Int × Int × Int)) (a1 : List Int) (a2 : Int) (r : Bool) (h : m_law7_TypesNeeds a0 a1 a2 = some r) : Pure Tryd.prog 8 [(.row 3 c_api_TypeNode a0), (.row 1 c_int a1), (.exact (.int .i64 a2))] (.exact (.bool r)) := by
  unfold m_law7_TypesNeeds at h
  refine Pure.ofFun (fun_of_awp Tryd.func8 rfl Tryd.ntmps8 (by simp) rfl (res1 rfl) fun E hE => k_end ?_)
  refine k_seq ?_
  refine k_reg .free hmixP (by kernel_rfl) ?_
  refine G_q rfl (op_assign (av := .exact (.bool false)) rfl ?_)
  refine G_nil ?_
  refine kC_normal ?_
  refine k_seq ?_
  refine k_reg .free hmixP (by kernel_rfl) ?_
  refine G_q rfl (op_move (av := .row 1 c_int a1) rfl ?_)
  obtain ⟨y1, hy1, h⟩ := bnd1_some h
  refine G_l rfl (op_fun_0_1_1 (m_gen_New_ok _ _ hy1) Tryd.func15 (by kernel_rfl) (LEs.cons (AV.le_eq rfl) LEs.nil) (fun b2 => ?_))
  obtain ⟨y3, hy3, h⟩ := bnd1_some h
  refine G_l rfl (op_fun_1_1_2 (m_law7_typ_ok _ _ _ _ hy3) Tryd.func14 (by kernel_rfl) (LEs.cons (AV.le_eq rfl) (LEs.cons (AV.le_eq rfl) (LEs.cons (AV.le_eq rfl) LEs.nil))) (fun v4 => ?_))
  refine G_q rfl (op_assign (av := .exact v4) rfl ?_)
  refine G_nil ?_
  refine kC_normal ?_
  refine k_seq ?_
  refine k_reg .free hmixP (by kernel_rfl) ?_
  refine G_q rfl (op_move (av := .row 3 c_api_TypeNode a0) rfl ?_)
  refine G_q rfl (op_move (av := .exact (.int .i64 a2)) rfl ?_)
  obtain ⟨y5, hy5, h⟩ := bnd1_some h
  refine G_q rfl (op_pure (m_types_Needs_ok _ _ _ hy5) Tryd.func26 (by kernel_rfl) (LEs.cons (AV.le_eq rfl) (LEs.cons (AV.le_eq rfl) LEs.nil)) ?_)
  refine G_q rfl (op_move (av := .tup [.row 2 c_api_Need y5.1, .exact (.bool y5.2)]) rfl ?_)
  refine G_q rfl (op_extract (av := .row 2 c_api_Need y5.1) rfl rfl ?_)
  refine G_q rfl (op_extract (av := .exact (.bool y5.2)) rfl rfl ?_)
  refine G_q rfl (op_assign (av := .row 2 c_api_Need y5.1) rfl ?_)
  refine G_q rfl (op_assign (av := .exact (.bool y5.2)) rfl ?_)
  refine G_nil ?_
  refine kC_normal ?_
  refine k_seq ?_
  refine k_reg .free hmixP (by kernel_rfl) ?_
  refine G_q rfl (op_move (av := .row 3 c_api_TypeNode a0) rfl ?_)
  refine G_q rfl (op_move (av := .exact (.int .i64 a2)) rfl ?_)
  obtain ⟨y6, hy6, h⟩ := bnd1_some h
  refine G_q rfl (op_pure (m_ref6_Needs_ok _ _ _ hy6) Tryd.func27 (by kernel_rfl) (LEs.cons (AV.le_eq rfl) (LEs.cons (AV.le_eq rfl) LEs.nil)) ?_)
  refine G_q rfl (op_move (av := .tup [.row 2 c_api_Need y6.1, .exact (.bool y6.2)]) rfl ?_)
  refine G_q rfl (op_extract (av := .row 2 c_api_Need y6.1) rfl rfl ?_)
  refine G_q rfl (op_extract (av := .exact (.bool y6.2)) rfl rfl ?_)
  refine G_q rfl (op_assign (av := .row 2 c_api_Need y6.1) rfl ?_)
  refine G_q rfl (op_assign (av := .exact (.bool y6.2)) rfl ?_)
  refine G_nil ?_
  refine kC_normal ?_
  refine k_seq ?_
  refine k_join1_0 h (fun (x44_j13 : Bool) => (AF.put (AF.put AF0 (some 7) (.exact v4)) (some 44) (.exact (.bool x44_j13)))) (fun (x44_j13 : Bool) => [vecT Tryd.prog 22 3 c_api_TypeNode v4 y3.1]) (fun k13 h => ?_) (fun x44_j13 h => ?_)
  · refine k_reg .free hmixP (by kernel_rfl) ?_
    obtain ⟨y16, hy16, h⟩ := bnd1_some h
    refine G_q rfl (op_pure (m_law7_awake_ok _ hy16) Tryd.func16 (by kernel_rfl) LEs.nil ?_)
    refine G_q rfl (op_not rfl ?_)
    refine G_q rfl (op_move (av := .exact (.bool (!y16))) rfl ?_)
    refine G_splitB (c := !y16) 34 rfl (fun hc => ?_) (fun hc => ?_)
    · replace h := ite_t h hc
      refine G_n rfl rfl ?_
      refine G_n rfl rfl ?_
      refine G_n rfl rfl ?_
      refine G_q rfl (op_pick_t rfl (av := .exact (.bool true)) rfl ?_)
      refine G_q rfl (op_move (av := .exact (.bool true)) rfl ?_)
      refine G_n rfl rfl ?_
      refine G_n rfl rfl ?_
      refine G_n rfl rfl ?_
      refine G_n rfl rfl ?_
      refine G_q rfl (op_pick_t rfl (av := .exact (.bool true)) rfl ?_)
      refine G_nil ?_
      refine kI_normal ⟨_, h, ?_⟩
      refine Sub.trans (SubU.to SubU.f1) ?_
      refine Sub.trans (SubU.to SubU.drop) ?_
      exact Sub.of_le (AF.le_put (AV.le_eq rfl) (AF.le_put (AV.le_eq rfl) (AF.le_top _)))
    · replace h := ite_f h hc
      refine Gy_q rfl rfl rfl (op_move (av := .exact (.bool y5.2)) rfl ?_)
      refine Gy_q rfl rfl rfl (op_move (av := .exact (.bool y6.2)) rfl ?_)
      refine Gy_q rfl rfl rfl (op_neqB (a := y5.2) (b := y6.2) (by kernel_rfl) rfl rfl ?_)
      refine G_q rfl (op_pick_f rfl (av := .exact (.bool (decide (¬ y5.2 = y6.2)))) rfl ?_)
      refine G_q rfl (op_move (av := .exact (.bool (decide (¬ y5.2 = y6.2)))) rfl ?_)
      refine G_split (p := ¬ y5.2 = y6.2) 39 rfl (fun hc => ?_) (fun hc => ?_)
      · replace h := ite_t h hc
        refine G_n rfl rfl ?_
        refine G_n rfl rfl ?_
        refine G_n rfl rfl ?_
        refine G_n rfl rfl ?_
        refine G_q rfl (op_pick_t rfl (av := .exact (.bool true)) rfl ?_)
        refine G_nil ?_
        refine kI_normal ⟨_, h, ?_⟩
        refine Sub.trans (SubU.to SubU.f1) ?_
        refine Sub.trans (SubU.to SubU.drop) ?_
        exact Sub.of_le (AF.le_put (AV.le_eq rfl) (AF.le_put (AV.le_eq rfl) (AF.le_top _)))
      · replace h := ite_f h hc
        refine Gy_q rfl rfl rfl (op_move (av := .row 2 c_api_Need y5.1) rfl ?_)
        refine Gy_q rfl rfl rfl (op_move (av := .row 2 c_api_Need y6.1) rfl ?_)
        obtain ⟨y17, hy17, h⟩ := bnd1_some h
        refine Gy_q rfl rfl rfl (op_pure (m_help_Equal_api_Need_ok _ _ _ hy17) Tryd.func28 (by kernel_rfl) (LEs.cons (AV.le_eq rfl) (LEs.cons (AV.le_eq rfl) LEs.nil)) ?_)
        refine Gy_q rfl rfl rfl (op_not rfl ?_)
        refine G_q rfl (op_pick_f rfl (av := .exact (.bool (!y17))) rfl ?_)
        refine G_nil ?_
        refine kI_normal ⟨_, h, ?_⟩
        refine Sub.trans (SubU.to SubU.f1) ?_
        refine Sub.trans (SubU.to SubU.drop) ?_
        exact Sub.of_le (AF.le_put (AV.le_eq rfl) (AF.le_put (AV.le_eq rfl) (AF.le_top _)))
  · refine k_cond_b (c := x44_j13) rfl (fun hc => ?_) (fun hc => ?_)
    · replace h := ite_t h hc
      refine k_seq ?_
      refine k_reg .free hmixP (by kernel_rfl) ?_
      refine G_q rfl (op_assign (av := .exact (.bool false)) rfl ?_)
      refine G_nil ?_
      refine kC_normal ?_
      refine k_ret ?_
      refine kC_ret ?_
      obtain rfl := Option.some.inj h
      refine kP_any (endN (af' := (AF.put AF0 (some 6) (.exact (.bool false)))) (σ' := []) _ rfl ?_ ⟨rfl, rfl⟩)
      refine Sub.trans (SubU.to SubU.drop) ?_
      exact Sub.of_le (AF.le_put (AV.le_eq rfl) (AF.le_top _))
    · replace h := ite_f h hc
      refine k_skip ?_
      refine kC_normal ?_
      refine k_join0_0 h (AF0) ([]) (fun k18 h => ?_) (fun  h => ?_)
      · refine k_seq ?_
        refine k_reg .free hmixP (by kernel_rfl) ?_
        refine G_q rfl (op_assign (av := .exact (.int .i64 (-1))) rfl ?_)
        refine G_nil ?_
        refine kC_normal ?_
        refine k_block ?_
        refine k_loop2_0 (m_law7_TypesNeeds_L2 k18) (m_law7_TypesNeeds_B2 k18) (fun _ _ => rfl) (fun m _ _ => rfl) h (fun (x7_l2 : List (Int × Int × Int)) (x12_l2 : Int) => (AF.put (AF.put AF0 (some 7) (.row 3 c_api_TypeNode x7_l2)) (some 12) (.exact (.int .i64 x12_l2)))) (fun (x7_l2 : List (Int × Int × Int)) (x12_l2 : Int) => []) ?_ (fun rec2 x7_l2 x12_l2 h => ?_)
        · refine Sub.trans (SubU.to (SubU.freezeT (s := 7) rfl len_c_api_TypeNode)) ?_
          exact Sub.of_le (AF.le_put (AV.le_eq rfl) (AF.le_put (AV.le_eq rfl) (AF.le_top _)))
        · unfold m_law7_TypesNeeds_B2 at h
          refine k_seq ?_
          refine k_seq ?_
          refine k_reg .free hmixP (by kernel_rfl) ?_
          refine G_q rfl (op_move (av := .exact (.int .i64 x12_l2)) rfl ?_)
          refine G_q rfl (op_lss rfl rfl ?_)
          refine G_nil ?_
          refine kC_normal ?_
          refine k_cond_d (p := x12_l2 < 9) rfl (fun hc => ?_) (fun hc => ?_)
          · replace h := ite_t h hc
            refine k_skip ?_
            refine kC_normal ?_
            refine k_seq ?_
            refine k_block ?_
            refine k_seq ?_
            refine k_reg .free hmixP (by kernel_rfl) ?_
            refine G_q rfl (op_move (av := .row 3 c_api_TypeNode x7_l2) rfl ?_)
            refine G_q rfl (op_move (av := .exact (.int .i64 x12_l2)) rfl ?_)
            obtain ⟨y81, hy81, h⟩ := bnd1_some h
            refine G_q rfl (op_pure (m_types_Needs_ok _ _ _ hy81) Tryd.func26 (by kernel_rfl) (LEs.cons (AV.le_eq rfl) (LEs.cons (AV.le_eq rfl) LEs.nil)) ?_)
            refine G_q rfl (op_move (av := .tup [.row 2 c_api_Need y81.1, .exact (.bool y81.2)]) rfl ?_)
            refine G_q rfl (op_extract (av := .row 2 c_api_Need y81.1) rfl rfl ?_)
            refine G_q rfl (op_extract (av := .exact (.bool y81.2)) rfl rfl ?_)
            refine G_q rfl (op_assign (av := .row 2 c_api_Need y81.1) rfl ?_)
            refine G_q rfl (op_assign (av := .exact (.bool y81.2)) rfl ?_)
            refine G_nil ?_
            refine kC_normal ?_
            refine k_seq ?_
            refine k_reg .free hmixP (by kernel_rfl) ?_
            refine G_q rfl (op_move (av := .row 3 c_api_TypeNode x7_l2) rfl ?_)
            refine G_q rfl (op_move (av := .exact (.int .i64 x12_l2)) rfl ?_)
            obtain ⟨y82, hy82, h⟩ := bnd1_some h
            refine G_q rfl (op_pure (m_ref6_Needs_ok _ _ _ hy82) Tryd.func27 (by kernel_rfl) (LEs.cons (AV.le_eq rfl) (LEs.cons (AV.le_eq rfl) LEs.nil)) ?_)
            refine G_q rfl (op_move (av := .tup [.row 2 c_api_Need y82.1, .exact (.bool y82.2)]) rfl ?_)
            refine G_q rfl (op_extract (av := .row 2 c_api_Need y82.1) rfl rfl ?_)
            refine G_q rfl (op_extract (av := .exact (.bool y82.2)) rfl rfl ?_)
            refine G_q rfl (op_assign (av := .row 2 c_api_Need y82.1) rfl ?_)
            refine G_q rfl (op_assign (av := .exact (.bool y82.2)) rfl ?_)
            refine G_nil ?_
            refine kC_normal ?_
            refine k_join1_0 h (fun (x69_j83 : Bool) => (AF.put (AF.put (AF.put AF0 (some 7) (.row 3 c_api_TypeNode x7_l2)) (some 12) (.exact (.int .i64 x12_l2))) (some 69) (.exact (.bool x69_j83)))) (fun (x69_j83 : Bool) => []) (fun k83 h => ?_) (fun x69_j83 h => ?_)
            · refine k_reg .free hmixP (by kernel_rfl) ?_
              refine G_q rfl (op_move (av := .exact (.bool y81.2)) rfl ?_)
              refine G_q rfl (op_move (av := .exact (.bool y82.2)) rfl ?_)
              refine G_q rfl (op_neqB (a := y81.2) (b := y82.2) (by kernel_rfl) rfl rfl ?_)
              refine G_q rfl (op_move (av := .exact (.bool (decide (¬ y81.2 = y82.2)))) rfl ?_)
              refine G_split (p := ¬ y81.2 = y82.2) 64 rfl (fun hc => ?_) (fun hc => ?_)
              · replace h := ite_t h hc
                refine G_n rfl rfl ?_
                refine G_n rfl rfl ?_
                refine G_n rfl rfl ?_
                refine G_n rfl rfl ?_
                refine G_q rfl (op_pick_t rfl (av := .exact (.bool true)) rfl ?_)
                refine G_nil ?_
                refine kI_normal ⟨_, h, ?_⟩
                exact Sub.of_le (AF.le_put (AV.le_eq rfl) (AF.le_put (AV.le_eq rfl) (AF.le_put (AV.le_eq rfl) (AF.le_top _))))
              · replace h := ite_f h hc
                refine Gy_q rfl rfl rfl (op_move (av := .row 2 c_api_Need y81.1) rfl ?_)
                refine Gy_q rfl rfl rfl (op_move (av := .row 2 c_api_Need y82.1) rfl ?_)
                obtain ⟨y85, hy85, h⟩ := bnd1_some h
                refine Gy_q rfl rfl rfl (op_pure (m_help_Equal_api_Need_ok _ _ _ hy85) Tryd.func28 (by kernel_rfl) (LEs.cons (AV.le_eq rfl) (LEs.cons (AV.le_eq rfl) LEs.nil)) ?_)
                refine Gy_q rfl rfl rfl (op_not rfl ?_)
                refine G_q rfl (op_pick_f rfl (av := .exact (.bool (!y85))) rfl ?_)
                refine G_nil ?_
                refine kI_normal ⟨_, h, ?_⟩
                exact Sub.of_le (AF.le_put (AV.le_eq rfl) (AF.le_put (AV.le_eq rfl) (AF.le_put (AV.le_eq rfl) (AF.le_top _))))
            · refine k_cond_b (c := x69_j83) rfl (fun hc => ?_) (fun hc => ?_)
              · replace h := ite_t h hc
                refine k_seq ?_
                refine k_reg .free hmixP (by kernel_rfl) ?_
                refine G_q rfl (op_assign (av := .exact (.bool false)) rfl ?_)
                refine G_nil ?_
                refine kC_normal ?_
                refine k_ret ?_
                refine kB_ret ?_
                refine kC_ret ?_
                refine kI_ret ?_
                refine kB_ret ?_
                refine kI_ret ?_
                obtain rfl := Option.some.inj h
                refine kP_any (endN (af' := (AF.put AF0 (some 6) (.exact (.bool false)))) (σ' := []) _ rfl ?_ ⟨rfl, rfl⟩)
                exact Sub.of_le (AF.le_put (AV.le_eq rfl) (AF.le_top _))
              · replace h := ite_f h hc
                refine k_skip ?_
                refine kB_normal ?_
                refine kC_normal ?_
                refine k_reg .free hmixP (by kernel_rfl) ?_
                refine G_q rfl (op_move (av := .exact (.int .i64 x12_l2)) rfl ?_)
                refine G_q rfl (op_add rfl rfl rfl ?_)
                refine G_q rfl (op_assign (av := .exact (.int .i64 (i64 (x12_l2 + 1)))) rfl ?_)
                refine G_nil ?_
                refine kI_normal ⟨_, _, h, ?_⟩
                exact Sub.of_le (AF.le_put (AV.le_eq rfl) (AF.le_put (AV.le_eq rfl) (AF.le_top _)))
          · replace h := ite_f h hc
            refine k_exit ?_
            refine kC_exit ?_
            refine kI_exit ?_
            refine kB_exit ?_
            refine kI_normal ⟨h, ?_⟩
            exact Sub.of_le (AF.le_top _)
      · refine k_seq ?_
        refine k_reg .free hmixP (by kernel_rfl) ?_
        refine G_q rfl (op_assign (av := .exact (.bool true)) rfl ?_)
        refine G_nil ?_
        refine kC_normal ?_
        refine k_ret ?_
        obtain rfl := Option.some.inj h
        refine kP_any (endN (af' := (AF.put AF0 (some 6) (.exact (.bool true)))) (σ' := []) _ rfl ?_ ⟨rfl, rfl⟩)
        exact Sub.of_le (AF.le_put (AV.le_eq rfl) (AF.le_top _))
end Go.Proofs.YtdfdjgolijckfaaDoor
