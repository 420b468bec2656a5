/- The functions compute their models, by program. -/
import Derived.Test.YtpfdeahcjlfijaaGreatQD7
namespace Go.Proofs.YtpfdeahcjlfijaaGreat
open Go.RowKit
attribute [local irreducible] AV.exact AV.top AV.row AV.ptr AV.agg AV.tup AV.eptr AV.fn AV.nilq AV.nilqn opA opB opM opR Quiet Loud Reads wpG awp den Sub SubU Pure Fun vecI vecT boxI CellsAll CellsOf OneC LEs LEss
set_option maxRecDepth 100000

set_option maxHeartbeats 4000000 in
theorem m_ref11_match_S_ok : ∀ n : Nat, (∀ (a0 : List (Int × Int × Int)) (a1 : Int) (a2 : List UInt8) (r : (List (List UInt8)) × Bool), m_ref11_match_S n a0 a1 a2 = some r → Fun Tryz.prog 77 [(.row 3 zae a0), (.exact (.int .i64 a1)), (.exact (.string (bs a2)))] [] (fun a s => ∃ z0, a = .tup [.exact z0, .exact (.bool r.2)] ∧ s = [vecT Tryz.prog 27 1 zab z0 r.1]))
  | 0 => (fun _ _ _ _ h => by have h' : (none : Option _) = some _ := h; cases h')
  | n + 1 => by
    have ih := m_ref11_match_S_ok n
    exact fun a0 a1 a2 r h => m_ref11_match_F_ok (m_ref11_match_S n) ih a0 a1 a2 r h
theorem m_ref11_match_ok (a0 : List (Int × Int × Int)) (a1 : Int) (a2 : List UInt8) (r : (List (List UInt8)) × Bool) (h : m_ref11_match a0 a1 a2 = some r) : Fun Tryz.prog 77 [(.row 3 zae a0), (.exact (.int .i64 a1)), (.exact (.string (bs a2)))] [] (fun a s => ∃ z0, a = .tup [.exact z0, .exact (.bool r.2)] ∧ s = [vecT Tryz.prog 27 1 zab z0 r.1]) := (m_ref11_match_S_ok FU) a0 a1 a2 r h
set_option maxHeartbeats 4000000 in
theorem m_ref11_Match_ok (a0 : List (Int × Int × Int)) (a1 : List UInt8) (r : (List (List UInt8)) × Bool) (h : m_ref11_Match a0 a1 = some r) : Pure Tryz.prog 47 [(.row 3 zae a0), (.exact (.string (bs a1)))] (.tup [.row 1 zab r.1, .exact (.bool r.2)]) := by
 unfold m_ref11_Match at h
 refine Pure.ofFun (fun_of_awp Tryz.func47 rfl Tryz.ntmps47 (by simp) rfl (res2 rfl) fun E hE => k_end ?_)
 refine zad (kr ?_)
 refine qa (.exact (.slice none 0 0)) rfl ?_
 refine qa (.xb false) rfl ?_
 refine G_nil (zaa (zad ?_))
 refine k_join1_0 h (fun (x15_j7 : Bool) => (pt (pt (pt AF0 0 (.row 3 zae a0)) 1 (.xs a1)) 15 (.xb x15_j7))) (fun (x15_j7 : Bool) => []) (fun k7 h => ?_) (fun x15_j7 h => ?_)
 ·refine kr ?_
  refine qm (.row 3 zae a0) rfl ?_
  obtain ⟨y10, hy10, h⟩ := bnd1_some h
  refine G_q rfl (zaj (m_ref11_Pattern_ok _ _ hy10) Tryz.func39 (by kernel_rfl) (LEs.cons (AV.le_eq rfl) LEs.nil) ?_)
  refine G_q rfl (op_not rfl ?_)
  refine qm (.xb (!y10)) rfl ?_
  refine G_splitB (c := !y10) 11 rfl (fun hc => ?_) (fun hc => ?_)
  ·replace h := ite_t h hc
   refine G_n rfl rfl (G_n rfl rfl (G_n rfl rfl ?_))
   refine G_q rfl (zak rfl (av := .xb true) rfl ?_)
   refine G_nil ?_
   refine zac ⟨_, h, ?_⟩
   exact so (lq rfl (lq rfl (lq rfl lt0)))
  ·replace h := ite_f h hc
   refine Gy_q rfl rfl rfl (zaf (av := .xs a1) rfl ?_)
   obtain ⟨y11, hy11, h⟩ := bnd1_some h
   refine Gy_q rfl rfl rfl (zaj (m_ref9_Valid_ok _ _ hy11) Tryz.func21 (by kernel_rfl) (LEs.cons (AV.le_eq rfl) LEs.nil) ?_)
   refine Gy_q rfl rfl rfl (op_not rfl ?_)
   refine G_q rfl (zah rfl (av := .xb (!y11)) rfl ?_)
   refine G_nil ?_
   refine zac ⟨_, h, ?_⟩
   exact so (lq rfl (lq rfl (lq rfl lt0)))
 ·refine kb (p := x15_j7) rfl h (fun hc h => ?_) (fun hc h => ?_)
  ·refine zad (kr ?_)
   refine qa (.exact (.slice none 0 0)) rfl ?_
   refine qa (.xb false) rfl ?_
   refine G_nil (zaa (k_ret (kC_ret ?_)))
   obtain rfl := Option.some.inj h
   refine ke (pt (pt AF0 4 (.row 1 zab [])) 5 (.xb false)) [] rfl ?_ ⟨rfl, rfl⟩
   exact so (lq rfl (AF.le_put (row_nil (by decide)) lt0))
  ·refine k_skip (zaa (zad (kr ?_)))
   refine qm (.row 3 zae a0) rfl ?_
   refine qm (.xs a1) rfl ?_
   obtain ⟨y12, hy12, h⟩ := bnd1_some h
   refine G_l rfl (op_fun_0_1_1 (m_ref11_match_ok _ _ _ _ hy12) Tryz.func77 (by kernel_rfl) (LEs.cons (AV.le_eq rfl) (LEs.cons (AV.le_eq rfl) (LEs.cons (AV.le_eq rfl) LEs.nil))) (fun v13 => ?_))
   refine qm (.tup [.exact v13, .xb y12.2]) rfl ?_
   refine G_q rfl (op_extract (av := .exact v13) rfl rfl ?_)
   refine G_q rfl (op_extract (av := .xb y12.2) rfl rfl ?_)
   refine qa (.exact v13) rfl ?_
   refine qa (.xb y12.2) rfl ?_
   refine G_nil (zaa (zad (zad (kr ?_))))
   refine qm (.xb y12.2) rfl ?_
   refine G_q rfl (op_not rfl ?_)
   refine G_nil (zaa ?_)
   refine kb (p := !y12.2) rfl h (fun hc h => ?_) (fun hc h => ?_)
   ·refine zad (kr ?_)
    refine qa (.exact (.slice none 0 0)) rfl ?_
    refine qa (.xb false) rfl ?_
    refine G_nil (zaa (k_ret (kC_ret ?_)))
    obtain rfl := Option.some.inj h
    refine ke (pt (pt AF0 4 (.row 1 zab [])) 5 (.xb false)) [] rfl ?_ ⟨rfl, rfl⟩
    refine Sub.trans (SubU.to SubU.drop) ?_
    exact so (lq rfl (AF.le_put (row_nil (by decide)) lt0))
   ·refine k_skip (zaa (zad (kr ?_)))
    refine qm (.exact v13) rfl ?_
    refine qa (.exact v13) rfl ?_
    refine qa (.xb true) rfl ?_
    refine G_nil (zaa (k_ret ?_))
    obtain rfl := Option.some.inj h
    refine ke (pt (pt AF0 4 (.row 1 zab y12.1)) 5 (.xb true)) [] rfl ?_ ⟨rfl, rfl⟩
    refine Sub.trans (SubU.to (SubU.freezeT (s := 4) rfl len_c_api_Value)) ?_
    exact so (lq rfl (lq rfl lt0))
set_option maxHeartbeats 4000000 in
theorem m_pattern_Valid_1_ok (a0 : Nd) (a1 : List ((List UInt8) × Int × (List Int) × (List (List UInt8)))) (r : Bool) (h : m_pattern_Valid_1 a0 a1 = some r) : Pure Tryz.prog 78 [(ndA a0), (.ptr [.row 4 c_api_Info a1])] (.exact (.bool r)) := by
 unfold m_pattern_Valid_1 at h
 refine Pure.ofFun (fun_of_awp Tryz.func78 rfl Tryz.ntmps78 (by simp) rfl (res1 rfl) fun E hE => k_end ?_)
 refine zad (kr ?_)
 refine qa (.xb false) rfl ?_
 refine G_nil (zaa ?_)
 refine k_join1_0 h (fun (x3_j1 : Bool) => (pt AF0 3 (.xb x3_j1))) (fun (x3_j1 : Bool) => []) (fun k1 h => ?_) (fun x3_j1 h => ?_)
 ·refine k_plan [] [(0, 0), (0, 1), (0, 2), (0, 3), (0, 4), (0, 5), (0, 6), (0, 7), (0, 8), (0, 9), (0, 10), (0, 11), (0, 12), (0, 13), (0, 14), (0, 15), (0, 16), (0, 17), (0, 18), (0, 19), (0, 20), (0, 21), (0, 22), (0, 23), (0, 24), (0, 25), (0, 26), (0, 27), (0, 28), (0, 29), (0, 30), (0, 31), (0, 32), (0, 33), (0, 34), (0, 35), (0, 36), (0, 37), (0, 38)] hmixP (by kernel_rfl) ?_
  refine P_q no34_0 rfl (zaf (av := ndA a0) rfl ?_)
  obtain ⟨y8, hy8, h⟩ := bnd1_some h
  refine P_q no34_0 rfl (zao (c := zag y8) (ndA_un hy8) ?_)
  refine P_q no34_0 rfl (zai (o := 0) (c' := (List.drop 0 (zag y8))) (by kernel_rfl) rfl rfl ?_)
  refine P_q no34_0 rfl (zal (a := .xi y8.1) (by kernel_rfl) rfl rfl ?_)
  refine P_q no34_0 rfl (op_neq rfl rfl ?_)
  refine P_q no34_0 rfl (zaf (av := .xb (decide (¬ y8.1 = 38))) rfl ?_)
  refine P_split (p := ¬ y8.1 = 38) 9 rfl (fun hc => ?_) (fun hc => ?_)
  ·replace h := ite_t h hc
   refine P_n no34_0 rfl rfl rfl ?_
   refine P_n no34_0 rfl rfl rfl ?_
   refine P_n no34_0 rfl rfl rfl ?_
   refine P_n no34_0 rfl rfl rfl ?_
   refine P_n no34_0 rfl rfl rfl ?_
   refine P_n no34_0 rfl rfl rfl ?_
   refine P_u no34_0 rfl rfl rfl ?_
   refine P_u no34_0 rfl rfl rfl ?_
   refine P_u no34_0 rfl rfl rfl ?_
   refine P_u no34_0 rfl rfl rfl ?_
   refine P_u no34_0 rfl rfl rfl ?_
   refine P_u no34_0 rfl rfl rfl ?_
   refine P_u no34_0 rfl rfl rfl ?_
   refine P_n no34_0 rfl rfl rfl ?_
   refine P_n no34_0 rfl rfl rfl ?_
   refine P_u no34_0 rfl rfl rfl ?_
   refine P_u no34_0 rfl rfl rfl ?_
   refine P_u no34_0 rfl rfl rfl ?_
   refine P_u no34_0 rfl rfl rfl ?_
   refine P_u no34_0 rfl rfl rfl ?_
   refine P_u no34_0 rfl rfl rfl ?_
   refine P_u no34_0 rfl rfl rfl ?_
   refine P_u no34_0 rfl rfl rfl ?_
   refine P_u no34_0 rfl rfl rfl ?_
   refine P_u no34_0 rfl rfl rfl ?_
   refine P_u no34_0 rfl rfl rfl ?_
   refine P_u no34_0 rfl rfl rfl ?_
   refine P_u no34_0 rfl rfl rfl ?_
   refine P_u no34_0 rfl rfl rfl ?_
   refine P_u no34_0 rfl rfl rfl ?_
   refine P_n no34_0 rfl rfl rfl ?_
   refine P_q no34_0 rfl (zak rfl (av := .xb true) rfl ?_)
   refine P_q no34_0 rfl (op_assign (av := .xb true) rfl ?_)
   refine P_nil ?_
   refine zac ⟨_, h, ?_⟩
   exact so (lq rfl lt0)
  ·replace h := ite_f h hc
   refine Py_q no34_0 rfl rfl rfl (zaf (av := ndA a0) rfl ?_)
   obtain ⟨y9, hy9, h⟩ := bnd1_some h
   refine Py_q no34_0 rfl rfl rfl (zao (c := zag y9) (ndA_un hy9) ?_)
   refine Py_q no34_0 rfl rfl rfl (zai (o := 1) (c' := (List.drop 1 (zag y9))) (by kernel_rfl) rfl rfl ?_)
   refine Py_q no34_0 rfl rfl rfl (zal (a := .xi y9.2.1) (by kernel_rfl) rfl rfl ?_)
   refine Py_q no34_0 rfl rfl rfl (op_geq rfl rfl ?_)
   refine Py_q no34_0 rfl rfl rfl (zaf (av := .xb (decide (0 ≤ y9.2.1))) rfl ?_)
   refine P_split (p := 0 ≤ y9.2.1) 15 rfl (fun hc => ?_) (fun hc => ?_)
   ·replace h := ite_t h hc
    refine Py_q no34_0 rfl rfl rfl (zaf (av := ndA a0) rfl ?_)
    obtain ⟨y10, hy10, h⟩ := bnd1_some h
    refine Py_q no34_0 rfl rfl rfl (zao (c := zag y10) (ndA_un hy10) ?_)
    refine Py_q no34_0 rfl rfl rfl (zai (o := 1) (c' := (List.drop 1 (zag y10))) (by kernel_rfl) rfl rfl ?_)
    refine Py_q no34_0 rfl rfl rfl (zal (a := .xi y10.2.1) (by kernel_rfl) rfl rfl ?_)
    refine Py_q no34_0 rfl rfl rfl (zal (a := .row 4 c_api_Info a1) (by kernel_rfl) rfl rfl ?_)
    refine Py_q no34_0 rfl rfl rfl (zan (by kernel_rfl) rfl ?_)
    refine Py_q no34_0 rfl rfl rfl (op_lss rfl rfl ?_)
    refine Py_q no34_0 rfl rfl rfl (zak rfl (av := .xb (decide (y10.2.1 < (List.length a1 : Int)))) rfl ?_)
    refine Py_q no34_0 rfl rfl rfl (zaf (av := .xb (decide (y10.2.1 < (List.length a1 : Int)))) rfl ?_)
    refine P_split (p := y10.2.1 < (List.length a1 : Int)) 24 rfl (fun hc => ?_) (fun hc => ?_)
    ·replace h := ite_t h hc
     refine Py_q no34_0 rfl rfl rfl (zaf (av := ndA a0) rfl ?_)
     obtain ⟨y11, hy11, h⟩ := bnd1_some h
     refine Py_q no34_0 rfl rfl rfl (zao (c := zag y11) (ndA_un hy11) ?_)
     refine Py_q no34_0 rfl rfl rfl (zai (o := 2) (c' := (List.drop 2 (zag y11))) (by kernel_rfl) rfl rfl ?_)
     refine Py_q no34_0 rfl rfl rfl (zal (a := .row 1 c_P_pattern_node y11.2.2) (by kernel_rfl) rfl rfl ?_)
     refine Py_q no34_0 rfl rfl rfl (zan (by kernel_rfl) rfl ?_)
     refine Py_q no34_0 rfl rfl rfl (zal (a := .row 4 c_api_Info a1) (by kernel_rfl) rfl rfl ?_)
     refine Py_q no34_0 rfl rfl rfl (zaf (av := ndA a0) rfl ?_)
     obtain ⟨y12, hy12, h⟩ := bnd1_some h
     refine Py_q no34_0 rfl rfl rfl (zao (c := zag y12) (ndA_un hy12) ?_)
     refine Py_q no34_0 rfl rfl rfl (zai (o := 1) (c' := (List.drop 1 (zag y12))) (by kernel_rfl) rfl rfl ?_)
     refine Py_q no34_0 rfl rfl rfl (zal (a := .xi y12.2.1) (by kernel_rfl) rfl rfl ?_)
     obtain ⟨n13, h⟩ := need_some h
     refine Py_q no34_0 rfl rfl rfl (zam (by kernel_rfl) rfl rfl n13.1 n13.2 ?_)
     refine Py_q no34_0 rfl rfl rfl (zai (o := 2) (c' := (List.drop 2 (c_api_Info (gi a1 y12.2.1)))) (by kernel_rfl) rfl rfl ?_)
     refine Py_q no34_0 rfl rfl rfl (zal (a := .row 1 c_int ((gi a1 y12.2.1).2.2.1)) (by kernel_rfl) rfl rfl ?_)
     refine Py_q no34_0 rfl rfl rfl (zan (by kernel_rfl) rfl ?_)
     refine Py_q no34_0 rfl rfl rfl (op_leq rfl rfl ?_)
     refine Py_q no34_0 rfl rfl rfl (zak rfl (av := .xb (decide ((List.length y11.2.2 : Int) ≤ (List.length ((gi a1 y12.2.1).2.2.1) : Int)))) rfl ?_)
     refine P_q no34_0 rfl (zah rfl (av := .xb (decide ((List.length y11.2.2 : Int) ≤ (List.length ((gi a1 y12.2.1).2.2.1) : Int)))) rfl ?_)
     refine P_q no34_0 rfl (op_assign (av := .xb (decide ((List.length y11.2.2 : Int) ≤ (List.length ((gi a1 y12.2.1).2.2.1) : Int)))) rfl ?_)
     refine P_nil ?_
     refine zac ⟨_, h, ?_⟩
     exact so (lq rfl lt0)
    ·replace h := ite_f h hc
     refine P_n no34_0 rfl rfl rfl ?_
     refine P_n no34_0 rfl rfl rfl ?_
     refine P_n no34_0 rfl rfl rfl ?_
     refine P_n no34_0 rfl rfl rfl ?_
     refine P_n no34_0 rfl rfl rfl ?_
     refine P_n no34_0 rfl rfl rfl ?_
     refine P_n no34_0 rfl rfl rfl ?_
     refine P_n no34_0 rfl rfl rfl ?_
     refine P_n no34_0 rfl rfl rfl ?_
     refine P_n no34_0 rfl rfl rfl ?_
     refine P_n no34_0 rfl rfl rfl ?_
     refine P_n no34_0 rfl rfl rfl ?_
     refine P_n no34_0 rfl rfl rfl ?_
     refine P_n no34_0 rfl rfl rfl ?_
     refine P_n no34_0 rfl rfl rfl ?_
     refine Py_q no34_0 rfl rfl rfl (zah rfl (av := .xb false) rfl ?_)
     refine P_q no34_0 rfl (zah rfl (av := .xb false) rfl ?_)
     refine P_q no34_0 rfl (op_assign (av := .xb false) rfl ?_)
     refine P_nil ?_
     refine zac ⟨_, h, ?_⟩
     exact so (lq rfl lt0)
   ·replace h := ite_f h hc
    refine P_n no34_0 rfl rfl rfl ?_
    refine P_n no34_0 rfl rfl rfl ?_
    refine P_n no34_0 rfl rfl rfl ?_
    refine P_n no34_0 rfl rfl rfl ?_
    refine P_n no34_0 rfl rfl rfl ?_
    refine P_n no34_0 rfl rfl rfl ?_
    refine P_n no34_0 rfl rfl rfl ?_
    refine Py_q no34_0 rfl rfl rfl (zah rfl (av := .xb false) rfl ?_)
    refine Py_q no34_0 rfl rfl rfl (zaf (av := .xb false) rfl ?_)
    refine P_n no34_0 rfl rfl rfl ?_
    refine P_n no34_0 rfl rfl rfl ?_
    refine P_n no34_0 rfl rfl rfl ?_
    refine P_n no34_0 rfl rfl rfl ?_
    refine P_n no34_0 rfl rfl rfl ?_
    refine P_n no34_0 rfl rfl rfl ?_
    refine P_n no34_0 rfl rfl rfl ?_
    refine P_n no34_0 rfl rfl rfl ?_
    refine P_n no34_0 rfl rfl rfl ?_
    refine P_n no34_0 rfl rfl rfl ?_
    refine P_n no34_0 rfl rfl rfl ?_
    refine P_n no34_0 rfl rfl rfl ?_
    refine P_n no34_0 rfl rfl rfl ?_
    refine P_n no34_0 rfl rfl rfl ?_
    refine P_n no34_0 rfl rfl rfl ?_
    refine Py_q no34_0 rfl rfl rfl (zah rfl (av := .xb false) rfl ?_)
    refine P_q no34_0 rfl (zah rfl (av := .xb false) rfl ?_)
    refine P_q no34_0 rfl (op_assign (av := .xb false) rfl ?_)
    refine P_nil ?_
    refine zac ⟨_, h, ?_⟩
    exact so (lq rfl lt0)
 ·refine k_ret ?_
  obtain rfl := Option.some.inj h
  refine ke (pt AF0 3 (.xb x3_j1)) [] rfl ?_ ⟨rfl, rfl⟩
  exact so (lq rfl lt0)
set_option maxHeartbeats 4000000 in
theorem m_pattern_Valid_ok (a0 : List (Int × Int × Int)) (a1 : List ((List UInt8) × Int × (List Int) × (List (List UInt8)))) (r : Bool) (h : m_pattern_Valid a0 a1 = some r) : Pure Tryz.prog 48 [(.row 3 zae a0), (.row 4 c_api_Info a1)] (.exact (.bool r)) := by
 unfold m_pattern_Valid at h
 refine Pure.ofFun (fun_of_awp Tryz.func48 rfl Tryz.ntmps48 (by simp) rfl (res1 rfl) fun E hE => k_end ?_)
 refine zad (kr ?_)
 refine G_l rfl (op_boxI (c := [.row 4 c_api_Info a1]) rfl CellsOf.row (LEs.cons (AV.le_eq rfl) LEs.nil) (fun b1 => ?_))
 refine qa (.xb false) rfl ?_
 refine G_nil (zaa (zad (kr ?_)))
 refine qm (.row 3 zae a0) rfl ?_
 obtain ⟨y2, hy2, h⟩ := bnd1_some h
 refine G_q rfl (zaj (m_pattern_whole_ok _ _ hy2) Tryz.func34 (by kernel_rfl) (LEs.cons (AV.le_eq rfl) LEs.nil) ?_)
 refine qm (.tup [ndA y2.1, .xb y2.2]) rfl ?_
 refine G_q rfl (op_extract (av := ndA y2.1) rfl rfl ?_)
 refine G_q rfl (op_extract (av := .xb y2.2) rfl rfl ?_)
 refine qa (ndA y2.1) rfl ?_
 refine qa (.xb y2.2) rfl ?_
 refine G_nil (zaa ?_)
 refine k_join1_0 h (fun (x4_j3 : Bool) => (pt AF0 4 (.xb x4_j3))) (fun (x4_j3 : Bool) => []) (fun k3 h => ?_) (fun x4_j3 h => ?_)
 ·refine kr ?_
  refine qm (.xb y2.2) rfl ?_
  refine qm (.xb y2.2) rfl ?_
  refine G_splitB (c := y2.2) 13 rfl (fun hc => ?_) (fun hc => ?_)
  ·replace h := ite_t h hc
   refine Gy_q rfl rfl rfl (zaf (av := ndA y2.1) rfl ?_)
   refine G_sub rfl (SubU.freezeBox (s := 3) rfl) ?_
   refine Gy_q rfl rfl rfl (op_makeFunc (args := (fun (i : Nd) => [ndA i])) (f := (fun (i : Nd) => (fun (x0 : Nd) => m_pattern_Valid_1 x0 a1) i)) (res := (fun (r : Bool) => .xb r)) Tryz.func78 (by kernel_rfl) [.ptr [.row 4 c_api_Info a1]] (LEs.cons (AV.le_eq rfl) LEs.nil) (fun i r h => m_pattern_Valid_1_ok i a1 r h) ?_)
   obtain ⟨y5, hy5, h⟩ := bnd1_some h
   refine Gy_q rfl rfl rfl (zaj (m_pattern_node_all_ok _ _ _ hy5) Tryz.func35 (by kernel_rfl) (LEs.cons (AV.le_eq rfl) (LEs.cons (AV.le_eq rfl) LEs.nil)) ?_)
   refine G_q rfl (zak rfl (av := .xb y5) rfl ?_)
   refine qa (.xb y5) rfl ?_
   refine G_nil ?_
   refine zac ⟨_, h, ?_⟩
   exact so (lq rfl lt0)
  ·replace h := ite_f h hc
   refine G_n rfl rfl (G_n rfl rfl (G_n rfl rfl ?_))
   refine G_q rfl (zah rfl (av := .xb false) rfl ?_)
   refine qa (.xb false) rfl ?_
   refine G_nil ?_
   refine zac ⟨_, h, ?_⟩
   refine Sub.trans (SubU.to SubU.drop) ?_
   exact so (lq rfl lt0)
 ·refine k_ret ?_
  obtain rfl := Option.some.inj h
  refine ke (pt AF0 4 (.xb x4_j3)) [] rfl ?_ ⟨rfl, rfl⟩
  exact so (lq rfl lt0)
set_option maxHeartbeats 4000000 in
theorem m_ref11_ValidPattern_ok (a0 : List (Int × Int × Int)) (a1 : List ((List UInt8) × Int × (List Int) × (List (List UInt8)))) (r : Bool) (h : m_ref11_ValidPattern a0 a1 = some r) : Pure Tryz.prog 49 [(.row 3 zae a0), (.row 4 c_api_Info a1)] (.exact (.bool r)) := by
 unfold m_ref11_ValidPattern at h
 refine Pure.ofFun (fun_of_awp Tryz.func49 rfl Tryz.ntmps49 (by simp) rfl (res1 rfl) fun E hE => k_end ?_)
 refine zad (kr ?_)
 refine qa (.xb false) rfl ?_
 refine G_nil (zaa (zad (zad (kr ?_))))
 refine qm (.row 3 zae a0) rfl ?_
 obtain ⟨y1, hy1, h⟩ := bnd1_some h
 refine G_q rfl (zaj (m_ref11_Pattern_ok _ _ hy1) Tryz.func39 (by kernel_rfl) (LEs.cons (AV.le_eq rfl) LEs.nil) ?_)
 refine G_q rfl (op_not rfl ?_)
 refine G_nil (zaa ?_)
 refine kb (p := !y1) rfl h (fun hc h => ?_) (fun hc h => ?_)
 ·refine zad (kr ?_)
  refine qa (.xb false) rfl ?_
  refine G_nil (zaa (k_ret (kC_ret ?_)))
  obtain rfl := Option.some.inj h
  refine ke (pt AF0 4 (.xb false)) [] rfl ?_ ⟨rfl, rfl⟩
  exact so (lq rfl lt0)
 ·refine k_skip (zaa ?_)
  refine k_join0_0 h (AF0) ([]) (fun k2 h => ?_) (fun  h => ?_)
  ·refine zad (kr ?_)
   refine qa (.xi 0) rfl ?_
   refine G_nil (zaa (k_block ?_))
   refine k_loop1_0 (m_ref11_ValidPattern_L2 a0 a1 k2) (m_ref11_ValidPattern_B2 a0 a1 k2) (fun _ => rfl) (fun m _ => rfl) h (fun (x5_l2 : Int) => (pt (pt (pt AF0 0 (.row 3 zae a0)) 1 (.row 4 c_api_Info a1)) 5 (.xi x5_l2))) (fun (x5_l2 : Int) => []) ?_ (fun rec2 x5_l2 h => ?_)
   ·exact so (lq rfl (lq rfl (lq rfl lt0)))
   ·unfold m_ref11_ValidPattern_B2 at h
    refine zad (zad (kr ?_))
    refine qm (.xi x5_l2) rfl ?_
    refine qm (.row 3 zae a0) rfl ?_
    refine G_q rfl (zan (by kernel_rfl) rfl ?_)
    refine G_q rfl (op_lss rfl rfl ?_)
    refine G_nil (zaa ?_)
    refine kd (p := x5_l2 < (List.length a0 : Int)) rfl h (fun hc h => ?_) (fun hc h => ?_)
    ·refine k_skip (zaa (zad (k_block ?_)))
     refine k_join1_0 h (fun (x56_j153 : Bool) => (pt (pt (pt (pt AF0 0 (.row 3 zae a0)) 1 (.row 4 c_api_Info a1)) 5 (.xi x5_l2)) 56 (.xb x56_j153))) (fun (x56_j153 : Bool) => []) (fun k153 h => ?_) (fun x56_j153 h => ?_)
     ·refine k_plan [] [(0, 0), (0, 1), (0, 2), (0, 3), (0, 4), (0, 5), (0, 6), (0, 7), (0, 8), (0, 9), (0, 10), (0, 11), (0, 12), (0, 13), (0, 14), (0, 15), (0, 16), (0, 17), (0, 18), (0, 19), (0, 20), (0, 21), (0, 22), (0, 23), (0, 24), (0, 25), (0, 26), (0, 27), (0, 28), (0, 29), (0, 30), (0, 31), (0, 32), (0, 33), (0, 34), (0, 35), (0, 36), (0, 37), (0, 38), (0, 39), (0, 40), (0, 41)] hmixP (by kernel_rfl) ?_
      refine P_q no34_0 rfl (zaf (av := .row 3 zae a0) rfl ?_)
      refine P_q no34_0 rfl (zaf (av := .xi x5_l2) rfl ?_)
      obtain ⟨n160, h⟩ := need_some h
      refine P_q no34_0 rfl (zam (by kernel_rfl) rfl rfl n160.1 n160.2 ?_)
      refine P_q no34_0 rfl (zai (o := 0) (c' := (List.drop 0 (zae (gi a0 x5_l2)))) (by kernel_rfl) rfl rfl ?_)
      refine P_q no34_0 rfl (zal (a := .xi ((gi a0 x5_l2).1)) (by kernel_rfl) rfl rfl ?_)
      refine P_q no34_0 rfl (op_eql rfl rfl ?_)
      refine P_q no34_0 rfl (zaf (av := .xb (decide (((gi a0 x5_l2).1) = 38))) rfl ?_)
      refine P_split (p := ((gi a0 x5_l2).1) = 38) 21 rfl (fun hc => ?_) (fun hc => ?_)
      ·replace h := ite_t h hc
       refine Py_q no34_0 rfl rfl rfl (zaf (av := .row 3 zae a0) rfl ?_)
       refine Py_q no34_0 rfl rfl rfl (zaf (av := .xi x5_l2) rfl ?_)
       obtain ⟨n161, h⟩ := need_some h
       refine Py_q no34_0 rfl rfl rfl (zam (by kernel_rfl) rfl rfl n161.1 n161.2 ?_)
       refine Py_q no34_0 rfl rfl rfl (zai (o := 1) (c' := (List.drop 1 (zae (gi a0 x5_l2)))) (by kernel_rfl) rfl rfl ?_)
       refine Py_q no34_0 rfl rfl rfl (zal (a := .xi ((gi a0 x5_l2).2.1)) (by kernel_rfl) rfl rfl ?_)
       refine Py_q no34_0 rfl rfl rfl (op_lss rfl rfl ?_)
       refine Py_q no34_0 rfl rfl rfl (zaf (av := .xb (decide (((gi a0 x5_l2).2.1) < 0))) rfl ?_)
       refine P_split (p := ((gi a0 x5_l2).2.1) < 0) 28 rfl (fun hc => ?_) (fun hc => ?_)
       ·replace h := ite_t h hc
        refine P_n no34_0 rfl rfl rfl ?_
        refine P_n no34_0 rfl rfl rfl ?_
        refine P_n no34_0 rfl rfl rfl ?_
        refine P_n no34_0 rfl rfl rfl ?_
        refine P_n no34_0 rfl rfl rfl ?_
        refine P_n no34_0 rfl rfl rfl ?_
        refine P_n no34_0 rfl rfl rfl ?_
        refine P_n no34_0 rfl rfl rfl ?_
        refine Py_q no34_0 rfl rfl rfl (zak rfl (av := .xb true) rfl ?_)
        refine Py_q no34_0 rfl rfl rfl (zaf (av := .xb true) rfl ?_)
        refine P_n no34_0 rfl rfl rfl ?_
        refine P_n no34_0 rfl rfl rfl ?_
        refine P_n no34_0 rfl rfl rfl ?_
        refine P_n no34_0 rfl rfl rfl ?_
        refine P_n no34_0 rfl rfl rfl ?_
        refine P_n no34_0 rfl rfl rfl ?_
        refine P_n no34_0 rfl rfl rfl ?_
        refine P_n no34_0 rfl rfl rfl ?_
        refine P_n no34_0 rfl rfl rfl ?_
        refine P_n no34_0 rfl rfl rfl ?_
        refine P_n no34_0 rfl rfl rfl ?_
        refine P_n no34_0 rfl rfl rfl ?_
        refine P_n no34_0 rfl rfl rfl ?_
        refine P_n no34_0 rfl rfl rfl ?_
        refine P_n no34_0 rfl rfl rfl ?_
        refine P_n no34_0 rfl rfl rfl ?_
        refine Py_q no34_0 rfl rfl rfl (zak rfl (av := .xb true) rfl ?_)
        refine P_q no34_0 rfl (zak rfl (av := .xb true) rfl ?_)
        refine P_nil ?_
        refine zac ⟨_, h, ?_⟩
        exact so (l4 rfl rfl rfl rfl lt0)
       ·replace h := ite_f h hc
        refine Py_q no34_0 rfl rfl rfl (zaf (av := .row 3 zae a0) rfl ?_)
        refine Py_q no34_0 rfl rfl rfl (zaf (av := .xi x5_l2) rfl ?_)
        obtain ⟨n162, h⟩ := need_some h
        refine Py_q no34_0 rfl rfl rfl (zam (by kernel_rfl) rfl rfl n162.1 n162.2 ?_)
        refine Py_q no34_0 rfl rfl rfl (zai (o := 1) (c' := (List.drop 1 (zae (gi a0 x5_l2)))) (by kernel_rfl) rfl rfl ?_)
        refine Py_q no34_0 rfl rfl rfl (zal (a := .xi ((gi a0 x5_l2).2.1)) (by kernel_rfl) rfl rfl ?_)
        refine Py_q no34_0 rfl rfl rfl (zaf (av := .row 4 c_api_Info a1) rfl ?_)
        refine Py_q no34_0 rfl rfl rfl (zan (by kernel_rfl) rfl ?_)
        refine Py_q no34_0 rfl rfl rfl (op_geq rfl rfl ?_)
        refine Py_q no34_0 rfl rfl rfl (zah rfl (av := .xb (decide ((List.length a1 : Int) ≤ ((gi a0 x5_l2).2.1)))) rfl ?_)
        refine Py_q no34_0 rfl rfl rfl (zaf (av := .xb (decide ((List.length a1 : Int) ≤ ((gi a0 x5_l2).2.1)))) rfl ?_)
        refine P_split (p := (List.length a1 : Int) ≤ ((gi a0 x5_l2).2.1)) 38 rfl (fun hc => ?_) (fun hc => ?_)
        ·replace h := ite_t h hc
         refine P_n no34_0 rfl rfl rfl ?_
         refine P_n no34_0 rfl rfl rfl ?_
         refine P_n no34_0 rfl rfl rfl ?_
         refine P_n no34_0 rfl rfl rfl ?_
         refine P_n no34_0 rfl rfl rfl ?_
         refine P_n no34_0 rfl rfl rfl ?_
         refine P_n no34_0 rfl rfl rfl ?_
         refine P_n no34_0 rfl rfl rfl ?_
         refine P_n no34_0 rfl rfl rfl ?_
         refine P_n no34_0 rfl rfl rfl ?_
         refine P_n no34_0 rfl rfl rfl ?_
         refine P_n no34_0 rfl rfl rfl ?_
         refine P_n no34_0 rfl rfl rfl ?_
         refine P_n no34_0 rfl rfl rfl ?_
         refine P_n no34_0 rfl rfl rfl ?_
         refine P_n no34_0 rfl rfl rfl ?_
         refine Py_q no34_0 rfl rfl rfl (zak rfl (av := .xb true) rfl ?_)
         refine P_q no34_0 rfl (zak rfl (av := .xb true) rfl ?_)
         refine P_nil ?_
         refine zac ⟨_, h, ?_⟩
         exact so (l4 rfl rfl rfl rfl lt0)
        ·replace h := ite_f h hc
         refine Py_q no34_0 rfl rfl rfl (zaf (av := .row 3 zae a0) rfl ?_)
         refine Py_q no34_0 rfl rfl rfl (zaf (av := .xi x5_l2) rfl ?_)
         obtain ⟨n163, h⟩ := need_some h
         refine Py_q no34_0 rfl rfl rfl (zam (by kernel_rfl) rfl rfl n163.1 n163.2 ?_)
         refine Py_q no34_0 rfl rfl rfl (zai (o := 2) (c' := (List.drop 2 (zae (gi a0 x5_l2)))) (by kernel_rfl) rfl rfl ?_)
         refine Py_q no34_0 rfl rfl rfl (zal (a := .xi ((gi a0 x5_l2).2.2)) (by kernel_rfl) rfl rfl ?_)
         refine Py_q no34_0 rfl rfl rfl (zaf (av := .row 4 c_api_Info a1) rfl ?_)
         refine Py_q no34_0 rfl rfl rfl (zaf (av := .row 3 zae a0) rfl ?_)
         refine Py_q no34_0 rfl rfl rfl (zaf (av := .xi x5_l2) rfl ?_)
         obtain ⟨n164, h⟩ := need_some h
         refine Py_q no34_0 rfl rfl rfl (zam (by kernel_rfl) rfl rfl n164.1 n164.2 ?_)
         refine Py_q no34_0 rfl rfl rfl (zai (o := 1) (c' := (List.drop 1 (zae (gi a0 x5_l2)))) (by kernel_rfl) rfl rfl ?_)
         refine Py_q no34_0 rfl rfl rfl (zal (a := .xi ((gi a0 x5_l2).2.1)) (by kernel_rfl) rfl rfl ?_)
         obtain ⟨n165, h⟩ := need_some h
         refine Py_q no34_0 rfl rfl rfl (zam (by kernel_rfl) rfl rfl n165.1 n165.2 ?_)
         refine Py_q no34_0 rfl rfl rfl (zai (o := 2) (c' := (List.drop 2 (c_api_Info (gi a1 ((gi a0 x5_l2).2.1))))) (by kernel_rfl) rfl rfl ?_)
         refine Py_q no34_0 rfl rfl rfl (zal (a := .row 1 c_int ((gi a1 ((gi a0 x5_l2).2.1)).2.2.1)) (by kernel_rfl) rfl rfl ?_)
         refine Py_q no34_0 rfl rfl rfl (zan (by kernel_rfl) rfl ?_)
         refine Py_q no34_0 rfl rfl rfl (op_gtr rfl rfl ?_)
         refine Py_q no34_0 rfl rfl rfl (zah rfl (av := .xb (decide ((List.length ((gi a1 ((gi a0 x5_l2).2.1)).2.2.1) : Int) < ((gi a0 x5_l2).2.2)))) rfl ?_)
         refine P_q no34_0 rfl (zak rfl (av := .xb (decide ((List.length ((gi a1 ((gi a0 x5_l2).2.1)).2.2.1) : Int) < ((gi a0 x5_l2).2.2)))) rfl ?_)
         refine P_nil ?_
         refine zac ⟨_, h, ?_⟩
         exact so (l4 rfl rfl rfl rfl lt0)
      ·replace h := ite_f h hc
       refine P_n no34_0 rfl rfl rfl ?_
       refine P_n no34_0 rfl rfl rfl ?_
       refine P_n no34_0 rfl rfl rfl ?_
       refine P_n no34_0 rfl rfl rfl ?_
       refine P_n no34_0 rfl rfl rfl ?_
       refine P_n no34_0 rfl rfl rfl ?_
       refine P_n no34_0 rfl rfl rfl ?_
       refine P_u no34_0 rfl rfl rfl ?_
       refine P_u no34_0 rfl rfl rfl ?_
       refine P_u no34_0 rfl rfl rfl ?_
       refine P_u no34_0 rfl rfl rfl ?_
       refine P_u no34_0 rfl rfl rfl ?_
       refine P_u no34_0 rfl rfl rfl ?_
       refine P_u no34_0 rfl rfl rfl ?_
       refine P_u no34_0 rfl rfl rfl ?_
       refine P_n no34_0 rfl rfl rfl ?_
       refine P_n no34_0 rfl rfl rfl ?_
       refine P_u no34_0 rfl rfl rfl ?_
       refine P_u no34_0 rfl rfl rfl ?_
       refine P_u no34_0 rfl rfl rfl ?_
       refine P_u no34_0 rfl rfl rfl ?_
       refine P_u no34_0 rfl rfl rfl ?_
       refine P_u no34_0 rfl rfl rfl ?_
       refine P_u no34_0 rfl rfl rfl ?_
       refine P_u no34_0 rfl rfl rfl ?_
       refine P_u no34_0 rfl rfl rfl ?_
       refine P_u no34_0 rfl rfl rfl ?_
       refine P_u no34_0 rfl rfl rfl ?_
       refine P_u no34_0 rfl rfl rfl ?_
       refine P_u no34_0 rfl rfl rfl ?_
       refine P_u no34_0 rfl rfl rfl ?_
       refine P_u no34_0 rfl rfl rfl ?_
       refine P_u no34_0 rfl rfl rfl ?_
       refine P_n no34_0 rfl rfl rfl ?_
       refine P_q no34_0 rfl (zah rfl (av := .xb false) rfl ?_)
       refine P_nil ?_
       refine zac ⟨_, h, ?_⟩
       exact so (l4 rfl rfl rfl rfl lt0)
     ·refine kb (p := x56_j153) rfl h (fun hc h => ?_) (fun hc h => ?_)
      ·refine zad (kr ?_)
       refine qa (.xb false) rfl ?_
       refine G_nil (zaa (k_ret (kB_ret (kC_ret (kI_ret (kB_ret (kI_ret ?_)))))))
       obtain rfl := Option.some.inj h
       refine ke (pt AF0 4 (.xb false)) [] rfl ?_ ⟨rfl, rfl⟩
       exact so (lq rfl lt0)
      ·refine k_skip (zap (zaa (kr ?_)))
       refine qm (.xi x5_l2) rfl ?_
       refine G_q rfl (op_add rfl rfl rfl ?_)
       refine qa (.xi (i64 (x5_l2 + 1))) rfl ?_
       refine G_nil ?_
       refine zac ⟨_, h, ?_⟩
       exact so (lq rfl (lq rfl (lq rfl lt0)))
    ·refine k_exit (kC_exit (kI_exit (kB_exit ?_)))
     refine zac ⟨h, ?_⟩
     exact Sub.of_le lt0
  ·refine zad (kr ?_)
   refine qa (.xb true) rfl ?_
   refine G_nil (zaa (k_ret ?_))
   obtain rfl := Option.some.inj h
   refine ke (pt AF0 4 (.xb true)) [] rfl ?_ ⟨rfl, rfl⟩
   exact so (lq rfl lt0)
set_option maxHeartbeats 4000000 in
theorem m_ref11_Irrefutable_ok (a0 : List (Int × Int × Int)) (r : Bool) (h : m_ref11_Irrefutable a0 = some r) : Pure Tryz.prog 50 [(.row 3 zae a0)] (.exact (.bool r)) := by
 unfold m_ref11_Irrefutable at h
 refine Pure.ofFun (fun_of_awp Tryz.func50 rfl Tryz.ntmps50 (by simp) rfl (res1 rfl) fun E hE => k_end ?_)
 refine zad (kr ?_)
 refine qa (.xb false) rfl ?_
 refine G_nil (zaa ?_)
 refine k_join0_0 h ((pt AF0 0 (.row 3 zae a0))) ([]) (fun k1 h => ?_) (fun  h => ?_)
 ·refine zad (kr ?_)
  refine qa (.xi 0) rfl ?_
  refine G_nil (zaa (k_block ?_))
  refine k_loop1_0 (m_ref11_Irrefutable_L2 a0 k1) (m_ref11_Irrefutable_B2 a0 k1) (fun _ => rfl) (fun m _ => rfl) h (fun (x3_l2 : Int) => (pt (pt AF0 0 (.row 3 zae a0)) 3 (.xi x3_l2))) (fun (x3_l2 : Int) => []) ?_ (fun rec2 x3_l2 h => ?_)
  ·exact so (lq rfl (lq rfl lt0))
  ·unfold m_ref11_Irrefutable_B2 at h
   refine zad (zad (kr ?_))
   refine qm (.xi x3_l2) rfl ?_
   refine qm (.row 3 zae a0) rfl ?_
   refine G_q rfl (zan (by kernel_rfl) rfl ?_)
   refine G_q rfl (op_lss rfl rfl ?_)
   refine G_nil (zaa ?_)
   refine kd (p := x3_l2 < (List.length a0 : Int)) rfl h (fun hc h => ?_) (fun hc h => ?_)
   ·refine k_skip (zaa (zad (k_block (zad (kr ?_)))))
    refine qm (.row 3 zae a0) rfl ?_
    refine qm (.xi x3_l2) rfl ?_
    obtain ⟨n31, h⟩ := need_some h
    refine G_q rfl (zam (by kernel_rfl) rfl rfl n31.1 n31.2 ?_)
    refine G_q rfl (zai (o := 0) (c' := (List.drop 0 (zae (gi a0 x3_l2)))) (by kernel_rfl) rfl rfl ?_)
    refine G_q rfl (zal (a := .xi ((gi a0 x3_l2).1)) (by kernel_rfl) rfl rfl ?_)
    refine G_nil (zaa (k_block ?_))
    refine k_join1_0 h (fun (x15_j32 : Bool) => (pt (pt (pt AF0 0 (.row 3 zae a0)) 3 (.xi x3_l2)) 15 (.xb x15_j32))) (fun (x15_j32 : Bool) => []) (fun k32 h => ?_) (fun x15_j32 h => ?_)
    ·refine zad (kr ?_)
     refine G_q rfl (op_eql rfl rfl ?_)
     refine qa (.xb (decide (((gi a0 x3_l2).1) = 30))) rfl ?_
     refine G_nil (zaa ?_)
     refine kd (p := ((gi a0 x3_l2).1) = 30) rfl h (fun hc h => ?_) (fun hc h => ?_)
     ·refine k_skip ?_
      refine zac ⟨_, h, ?_⟩
      exact so (lq rfl (lq rfl (lq rfl lt0)))
     ·refine zad (kr ?_)
      refine G_q rfl (op_eql rfl rfl ?_)
      refine qa (.xb (decide (((gi a0 x3_l2).1) = 31))) rfl ?_
      refine G_nil (zaa ?_)
      refine kd (p := ((gi a0 x3_l2).1) = 31) rfl h (fun hc h => ?_) (fun hc h => ?_)
      ·refine k_skip ?_
       refine zac ⟨_, h, ?_⟩
       exact so (lq rfl (lq rfl (lq rfl lt0)))
      ·refine zad (kr ?_)
       refine G_q rfl (op_eql rfl rfl ?_)
       refine qa (.xb (decide (((gi a0 x3_l2).1) = 34))) rfl ?_
       refine G_nil (zaa ?_)
       refine kd (p := ((gi a0 x3_l2).1) = 34) rfl h (fun hc h => ?_) (fun hc h => ?_)
       ·refine k_skip ?_
        refine zac ⟨_, h, ?_⟩
        exact so (lq rfl (lq rfl (lq rfl lt0)))
       ·refine kr ?_
        refine G_q rfl (op_eql rfl rfl ?_)
        refine qa (.xb (decide (((gi a0 x3_l2).1) = 40))) rfl ?_
        refine G_nil ?_
        refine zac ⟨_, h, ?_⟩
        exact so (lq rfl (lq rfl (lq rfl lt0)))
    ·refine kb (p := x15_j32) rfl h (fun hc h => ?_) (fun hc h => ?_)
     ·refine k_skip (zap (zap (zaa (kr ?_))))
      refine qm (.xi x3_l2) rfl ?_
      refine G_q rfl (op_add rfl rfl rfl ?_)
      refine qa (.xi (i64 (x3_l2 + 1))) rfl ?_
      refine G_nil ?_
      refine zac ⟨_, h, ?_⟩
      exact so (lq rfl (lq rfl lt0))
     ·refine zad (kr ?_)
      refine qa (.xb false) rfl ?_
      refine G_nil (zaa (k_ret (kB_ret (kB_ret (kC_ret (kI_ret (kB_ret (kI_ret ?_))))))))
      obtain rfl := Option.some.inj h
      refine ke (pt AF0 2 (.xb false)) [] rfl ?_ ⟨rfl, rfl⟩
      exact so (lq rfl lt0)
   ·refine k_exit (kC_exit (kI_exit (kB_exit ?_)))
    refine zac ⟨h, ?_⟩
    exact so (lq rfl lt0)
 ·refine zad (kr ?_)
  refine qm (.row 3 zae a0) rfl ?_
  obtain ⟨y33, hy33, h⟩ := bnd1_some h
  refine G_q rfl (zaj (m_ref11_Pattern_ok _ _ hy33) Tryz.func39 (by kernel_rfl) (LEs.cons (AV.le_eq rfl) LEs.nil) ?_)
  refine qa (.xb y33) rfl ?_
  refine G_nil (zaa (k_ret ?_))
  obtain rfl := Option.some.inj h
  refine ke (pt AF0 2 (.xb y33)) [] rfl ?_ ⟨rfl, rfl⟩
  exact so (lq rfl lt0)
set_option maxHeartbeats 4000000 in
theorem m_law12_agrees_ok (a0 : List (Int × Int × Int)) (a1 : List UInt8) (a2 : List (List UInt8)) (a3 : List ((List UInt8) × Int × (List Int) × (List (List UInt8)))) (r : Bool) (h : m_law12_agrees a0 a1 a2 a3 = some r) : Pure Tryz.prog 23 [(.row 3 zae a0), (.exact (.string (bs a1))), (.row 1 zab a2), (.row 4 c_api_Info a3)] (.exact (.bool r)) := by
 unfold m_law12_agrees at h
 refine Pure.ofFun (fun_of_awp Tryz.func23 rfl Tryz.ntmps23 (by simp) rfl (res1 rfl) fun E hE => k_end ?_)
 refine zad (kr ?_)
 refine qa (.xb false) rfl ?_
 refine G_nil (zaa (zad (kr ?_)))
 refine qm (.row 3 zae a0) rfl ?_
 refine qm (.xs a1) rfl ?_
 obtain ⟨y1, hy1, h⟩ := bnd1_some h
 refine G_q rfl (zaj (m_pattern_Match_ok _ _ _ hy1) Tryz.func13 (by kernel_rfl) (LEs.cons (AV.le_eq rfl) (LEs.cons (AV.le_eq rfl) LEs.nil)) ?_)
 refine qm (.tup [.row 1 zab y1.1, .xb y1.2]) rfl ?_
 refine G_q rfl (op_extract (av := .row 1 zab y1.1) rfl rfl ?_)
 refine G_q rfl (op_extract (av := .xb y1.2) rfl rfl ?_)
 refine qa (.row 1 zab y1.1) rfl ?_
 refine qa (.xb y1.2) rfl ?_
 refine G_nil (zaa (zad (kr ?_)))
 refine qm (.row 3 zae a0) rfl ?_
 refine qm (.xs a1) rfl ?_
 obtain ⟨y2, hy2, h⟩ := bnd1_some h
 refine G_q rfl (zaj (m_ref11_Match_ok _ _ _ hy2) Tryz.func47 (by kernel_rfl) (LEs.cons (AV.le_eq rfl) (LEs.cons (AV.le_eq rfl) LEs.nil)) ?_)
 refine qm (.tup [.row 1 zab y2.1, .xb y2.2]) rfl ?_
 refine G_q rfl (op_extract (av := .row 1 zab y2.1) rfl rfl ?_)
 refine G_q rfl (op_extract (av := .xb y2.2) rfl rfl ?_)
 refine qa (.row 1 zab y2.1) rfl ?_
 refine qa (.xb y2.2) rfl ?_
 refine G_nil (zaa (zad (kr ?_)))
 refine qm (.row 3 zae a0) rfl ?_
 refine qm (.row 1 zab a2) rfl ?_
 obtain ⟨y3, hy3, h⟩ := bnd1_some h
 refine G_q rfl (zaj (m_pattern_Build_ok _ _ _ hy3) Tryz.func10 (by kernel_rfl) (LEs.cons (AV.le_eq rfl) (LEs.cons (AV.le_eq rfl) LEs.nil)) ?_)
 refine qm (.tup [.xs y3.1, .xb y3.2]) rfl ?_
 refine G_q rfl (op_extract (av := .xs y3.1) rfl rfl ?_)
 refine G_q rfl (op_extract (av := .xb y3.2) rfl rfl ?_)
 refine qa (.xs y3.1) rfl ?_
 refine qa (.xb y3.2) rfl ?_
 refine G_nil (zaa (zad (kr ?_)))
 refine qm (.row 3 zae a0) rfl ?_
 refine qm (.row 1 zab a2) rfl ?_
 obtain ⟨y4, hy4, h⟩ := bnd1_some h
 refine G_q rfl (zaj (m_ref11_Build_ok _ _ _ hy4) Tryz.func11 (by kernel_rfl) (LEs.cons (AV.le_eq rfl) (LEs.cons (AV.le_eq rfl) LEs.nil)) ?_)
 refine qm (.tup [.xs y4.1, .xb y4.2]) rfl ?_
 refine G_q rfl (op_extract (av := .xs y4.1) rfl rfl ?_)
 refine G_q rfl (op_extract (av := .xb y4.2) rfl rfl ?_)
 refine qa (.xs y4.1) rfl ?_
 refine qa (.xb y4.2) rfl ?_
 refine G_nil (zaa ?_)
 refine k_join1_0 h (fun (x8_j5 : Bool) => (pt AF0 8 (.xb x8_j5))) (fun (x8_j5 : Bool) => []) (fun k5 h => ?_) (fun x8_j5 h => ?_)
 ·refine kr ?_
  refine qm (.row 1 zab y1.1) rfl ?_
  refine qm (.row 1 zab y2.1) rfl ?_
  obtain ⟨y13, hy13, h⟩ := bnd1_some h
  refine G_q rfl (zaj (m_help_Equal_api_Value_ok _ _ _ hy13) Tryz.func14 (by kernel_rfl) (LEs.cons (AV.le_eq rfl) (LEs.cons (AV.le_eq rfl) LEs.nil)) ?_)
  refine qm (.xb y13) rfl ?_
  refine G_splitB (c := y13) 44 rfl (fun hc => ?_) (fun hc => ?_)
  ·replace h := ite_t h hc
   refine Gy_q rfl rfl rfl (zaf (av := .xb y1.2) rfl ?_)
   refine Gy_q rfl rfl rfl (zaf (av := .xb y2.2) rfl ?_)
   refine Gy_q rfl rfl rfl (op_eqlB (a := y1.2) (b := y2.2) (by kernel_rfl) rfl rfl ?_)
   refine G_q rfl (zak rfl (av := .xb (decide (y1.2 = y2.2))) rfl ?_)
   refine qm (.xb (decide (y1.2 = y2.2))) rfl ?_
   refine G_split (p := y1.2 = y2.2) 49 rfl (fun hc => ?_) (fun hc => ?_)
   ·replace h := ite_t h hc
    refine Gy_q rfl rfl rfl (zaf (av := .xs y3.1) rfl ?_)
    refine Gy_q rfl rfl rfl (zaf (av := .xs y4.1) rfl ?_)
    refine Gy_q rfl rfl rfl (op_eqlS rfl rfl ?_)
    refine G_q rfl (zak rfl (av := .xb (decide (y3.1 = y4.1))) rfl ?_)
    refine qm (.xb (decide (y3.1 = y4.1))) rfl ?_
    refine G_split (p := y3.1 = y4.1) 54 rfl (fun hc => ?_) (fun hc => ?_)
    ·replace h := ite_t h hc
     refine Gy_q rfl rfl rfl (zaf (av := .xb y3.2) rfl ?_)
     refine Gy_q rfl rfl rfl (zaf (av := .xb y4.2) rfl ?_)
     refine Gy_q rfl rfl rfl (op_eqlB (a := y3.2) (b := y4.2) (by kernel_rfl) rfl rfl ?_)
     refine G_q rfl (zak rfl (av := .xb (decide (y3.2 = y4.2))) rfl ?_)
     refine qm (.xb (decide (y3.2 = y4.2))) rfl ?_
     refine G_split (p := y3.2 = y4.2) 59 rfl (fun hc => ?_) (fun hc => ?_)
     ·replace h := ite_t h hc
      refine Gy_q rfl rfl rfl (zaf (av := .row 3 zae a0) rfl ?_)
      refine Gy_q rfl rfl rfl (zaf (av := .row 4 c_api_Info a3) rfl ?_)
      obtain ⟨y14, hy14, h⟩ := bnd1_some h
      refine Gy_q rfl rfl rfl (zaj (m_pattern_Valid_ok _ _ _ hy14) Tryz.func48 (by kernel_rfl) (LEs.cons (AV.le_eq rfl) (LEs.cons (AV.le_eq rfl) LEs.nil)) ?_)
      refine Gy_q rfl rfl rfl (zaf (av := .row 3 zae a0) rfl ?_)
      refine Gy_q rfl rfl rfl (zaf (av := .row 4 c_api_Info a3) rfl ?_)
      obtain ⟨y15, hy15, h⟩ := bnd1_some h
      refine Gy_q rfl rfl rfl (zaj (m_ref11_ValidPattern_ok _ _ _ hy15) Tryz.func49 (by kernel_rfl) (LEs.cons (AV.le_eq rfl) (LEs.cons (AV.le_eq rfl) LEs.nil)) ?_)
      refine Gy_q rfl rfl rfl (op_eqlB (a := y14) (b := y15) (by kernel_rfl) rfl rfl ?_)
      refine G_q rfl (zak rfl (av := .xb (decide (y14 = y15))) rfl ?_)
      refine qm (.xb (decide (y14 = y15))) rfl ?_
      refine G_split (p := y14 = y15) 68 rfl (fun hc => ?_) (fun hc => ?_)
      ·replace h := ite_t h hc
       refine Gy_q rfl rfl rfl (zaf (av := .row 3 zae a0) rfl ?_)
       obtain ⟨y16, hy16, h⟩ := bnd1_some h
       refine Gy_q rfl rfl rfl (zaj (m_pattern_Vars_ok _ _ hy16) Tryz.func16 (by kernel_rfl) (LEs.cons (AV.le_eq rfl) LEs.nil) ?_)
       refine Gy_q rfl rfl rfl (zaf (av := .row 3 zae a0) rfl ?_)
       obtain ⟨y17, hy17, h⟩ := bnd1_some h
       refine Gy_q rfl rfl rfl (zaj (m_ref11_Vars_ok _ _ hy17) Tryz.func15 (by kernel_rfl) (LEs.cons (AV.le_eq rfl) LEs.nil) ?_)
       refine Gy_q rfl rfl rfl (op_eql rfl rfl ?_)
       refine G_q rfl (zak rfl (av := .xb (decide (y16 = y17))) rfl ?_)
       refine qm (.xb (decide (y16 = y17))) rfl ?_
       refine G_split (p := y16 = y17) 75 rfl (fun hc => ?_) (fun hc => ?_)
       ·replace h := ite_t h hc
        refine Gy_q rfl rfl rfl (zaf (av := .row 3 zae a0) rfl ?_)
        obtain ⟨y18, hy18, h⟩ := bnd1_some h
        refine Gy_q rfl rfl rfl (zaj (m_pattern_Irrefutable_ok _ _ hy18) Tryz.func20 (by kernel_rfl) (LEs.cons (AV.le_eq rfl) LEs.nil) ?_)
        refine Gy_q rfl rfl rfl (zaf (av := .row 3 zae a0) rfl ?_)
        obtain ⟨y19, hy19, h⟩ := bnd1_some h
        refine Gy_q rfl rfl rfl (zaj (m_ref11_Irrefutable_ok _ _ hy19) Tryz.func50 (by kernel_rfl) (LEs.cons (AV.le_eq rfl) LEs.nil) ?_)
        refine Gy_q rfl rfl rfl (op_eqlB (a := y18) (b := y19) (by kernel_rfl) rfl rfl ?_)
        refine G_q rfl (zak rfl (av := .xb (decide (y18 = y19))) rfl ?_)
        refine qa (.xb (decide (y18 = y19))) rfl ?_
        refine G_nil ?_
        refine zac ⟨_, h, ?_⟩
        exact so (lq rfl lt0)
       ·replace h := ite_f h hc
        refine G_n rfl rfl (G_n rfl rfl (G_n rfl rfl (G_n rfl rfl (G_n rfl rfl ?_))))
        refine G_q rfl (zah rfl (av := .xb false) rfl ?_)
        refine qa (.xb false) rfl ?_
        refine G_nil ?_
        refine zac ⟨_, h, ?_⟩
        exact so (lq rfl lt0)
      ·replace h := ite_f h hc
       refine G_n rfl rfl (G_n rfl rfl (G_n rfl rfl (G_n rfl rfl (G_n rfl rfl ?_))))
       refine G_q rfl (zah rfl (av := .xb false) rfl ?_)
       refine qm (.xb false) rfl ?_
       refine G_n rfl rfl (G_n rfl rfl (G_n rfl rfl (G_n rfl rfl (G_n rfl rfl ?_))))
       refine G_q rfl (zah rfl (av := .xb false) rfl ?_)
       refine qa (.xb false) rfl ?_
       refine G_nil ?_
       refine zac ⟨_, h, ?_⟩
       exact so (lq rfl lt0)
     ·replace h := ite_f h hc
      refine G_n rfl rfl (G_n rfl rfl (G_n rfl rfl (G_n rfl rfl (G_n rfl rfl (G_n rfl rfl (G_n rfl rfl ?_))))))
      refine G_q rfl (zah rfl (av := .xb false) rfl ?_)
      refine qm (.xb false) rfl ?_
      refine G_n rfl rfl (G_n rfl rfl (G_n rfl rfl (G_n rfl rfl (G_n rfl rfl ?_))))
      refine G_q rfl (zah rfl (av := .xb false) rfl ?_)
      refine qm (.xb false) rfl ?_
      refine G_n rfl rfl (G_n rfl rfl (G_n rfl rfl (G_n rfl rfl (G_n rfl rfl ?_))))
      refine G_q rfl (zah rfl (av := .xb false) rfl ?_)
      refine qa (.xb false) rfl ?_
      refine G_nil ?_
      refine zac ⟨_, h, ?_⟩
      exact so (lq rfl lt0)
    ·replace h := ite_f h hc
     refine G_n rfl rfl (G_n rfl rfl (G_n rfl rfl ?_))
     refine G_q rfl (zah rfl (av := .xb false) rfl ?_)
     refine qm (.xb false) rfl ?_
     refine G_n rfl rfl (G_n rfl rfl (G_n rfl rfl (G_n rfl rfl (G_n rfl rfl (G_n rfl rfl (G_n rfl rfl ?_))))))
     refine G_q rfl (zah rfl (av := .xb false) rfl ?_)
     refine qm (.xb false) rfl ?_
     refine G_n rfl rfl (G_n rfl rfl (G_n rfl rfl (G_n rfl rfl (G_n rfl rfl ?_))))
     refine G_q rfl (zah rfl (av := .xb false) rfl ?_)
     refine qm (.xb false) rfl ?_
     refine G_n rfl rfl (G_n rfl rfl (G_n rfl rfl (G_n rfl rfl (G_n rfl rfl ?_))))
     refine G_q rfl (zah rfl (av := .xb false) rfl ?_)
     refine qa (.xb false) rfl ?_
     refine G_nil ?_
     refine zac ⟨_, h, ?_⟩
     exact so (lq rfl lt0)
   ·replace h := ite_f h hc
    refine G_n rfl rfl (G_n rfl rfl (G_n rfl rfl ?_))
    refine G_q rfl (zah rfl (av := .xb false) rfl ?_)
    refine qm (.xb false) rfl ?_
    refine G_n rfl rfl (G_n rfl rfl (G_n rfl rfl ?_))
    refine G_q rfl (zah rfl (av := .xb false) rfl ?_)
    refine qm (.xb false) rfl ?_
    refine G_n rfl rfl (G_n rfl rfl (G_n rfl rfl (G_n rfl rfl (G_n rfl rfl (G_n rfl rfl (G_n rfl rfl ?_))))))
    refine G_q rfl (zah rfl (av := .xb false) rfl ?_)
    refine qm (.xb false) rfl ?_
    refine G_n rfl rfl (G_n rfl rfl (G_n rfl rfl (G_n rfl rfl (G_n rfl rfl ?_))))
    refine G_q rfl (zah rfl (av := .xb false) rfl ?_)
    refine qm (.xb false) rfl ?_
    refine G_n rfl rfl (G_n rfl rfl (G_n rfl rfl (G_n rfl rfl (G_n rfl rfl ?_))))
    refine G_q rfl (zah rfl (av := .xb false) rfl ?_)
    refine qa (.xb false) rfl ?_
    refine G_nil ?_
    refine zac ⟨_, h, ?_⟩
    exact so (lq rfl lt0)
  ·replace h := ite_f h hc
   refine G_n rfl rfl (G_n rfl rfl (G_n rfl rfl ?_))
   refine G_q rfl (zah rfl (av := .xb false) rfl ?_)
   refine qm (.xb false) rfl ?_
   refine G_n rfl rfl (G_n rfl rfl (G_n rfl rfl ?_))
   refine G_q rfl (zah rfl (av := .xb false) rfl ?_)
   refine qm (.xb false) rfl ?_
   refine G_n rfl rfl (G_n rfl rfl (G_n rfl rfl ?_))
   refine G_q rfl (zah rfl (av := .xb false) rfl ?_)
   refine qm (.xb false) rfl ?_
   refine G_n rfl rfl (G_n rfl rfl (G_n rfl rfl (G_n rfl rfl (G_n rfl rfl (G_n rfl rfl (G_n rfl rfl ?_))))))
   refine G_q rfl (zah rfl (av := .xb false) rfl ?_)
   refine qm (.xb false) rfl ?_
   refine G_n rfl rfl (G_n rfl rfl (G_n rfl rfl (G_n rfl rfl (G_n rfl rfl ?_))))
   refine G_q rfl (zah rfl (av := .xb false) rfl ?_)
   refine qm (.xb false) rfl ?_
   refine G_n rfl rfl (G_n rfl rfl (G_n rfl rfl (G_n rfl rfl (G_n rfl rfl ?_))))
   refine G_q rfl (zah rfl (av := .xb false) rfl ?_)
   refine qa (.xb false) rfl ?_
   refine G_nil ?_
   refine zac ⟨_, h, ?_⟩
   exact so (lq rfl lt0)
 ·refine k_ret ?_
  obtain rfl := Option.some.inj h
  refine ke (pt AF0 8 (.xb x8_j5)) [] rfl ?_ ⟨rfl, rfl⟩
  exact so (lq rfl lt0)
set_option maxHeartbeats 4000000 in
theorem m_law12_PatternAgrees_ok (a0 : List (Int × Int × Int)) (a1 : List UInt8) (a2 : List (List UInt8)) (a3 : List Int) (a4 : Int) (a5 : Int × Int × Int) (r : Bool) (h : m_law12_PatternAgrees a0 a1 a2 a3 a4 a5 = some r) : Pure Tryz.prog 6 [(.row 3 zae a0), (.exact (.string (bs a1))), (.row 1 zab a2), (.row 1 c_int a3), (.exact (.int .i64 a4)), (.agg (zae a5))] (.exact (.bool r)) := by
 unfold m_law12_PatternAgrees at h
 refine Pure.ofFun (fun_of_awp Tryz.func6 rfl Tryz.ntmps6 (by simp) rfl (res1 rfl) fun E hE => k_end ?_)
 refine zad (kr ?_)
 refine G_q rfl (op_box (c := zae a5) rfl CellsOf.agg ?_)
 refine qa (.xb false) rfl ?_
 refine G_nil (zaa (zad (kr ?_)))
 refine qm (.row 1 c_int a3) rfl ?_
 obtain ⟨y1, hy1, h⟩ := bnd1_some h
 refine G_l rfl (op_fun_0_1_1 (m_gen_New_ok _ _ hy1) Tryz.func7 (by kernel_rfl) (LEs.cons (AV.le_eq rfl) LEs.nil) (fun b2 => ?_))
 refine qa (pA b2 0) rfl ?_
 refine G_nil (zaa (zad (kr ?_)))
 refine qm (pA b2 0) rfl ?_
 obtain ⟨y3, hy3, h⟩ := bnd1_some h
 refine G_l rfl (op_fun_1_0_1 (m_law12_pat_ok _ _ _ hy3) Tryz.func8 (by kernel_rfl) (LEs.cons (AV.le_eq rfl) (LEs.cons (AV.le_eq rfl) LEs.nil)) ?_)
 refine qa (.row 3 zae y3.1) rfl ?_
 refine G_nil (zaa (zad (kr ?_)))
 refine G_q rfl (op_bld (c' := c_api_Info ([], 0, [], [])) CellsAll.nil rfl (LEs.cons (AV.le_eq rfl) (LEs.cons (AV.le_eq rfl) (LEs.cons (row_nil (by decide)) (LEs.cons (row_nil (by decide)) LEs.nil)))) ?_)
 refine G_q rfl (op_litT (n := 1) (enc := c_int) [0, 0] (CellsAll.cons rfl CellsOf.int (CellsAll.cons rfl CellsOf.int CellsAll.nil)) rfl (by kernel_rfl) (LEss.cons (LEs.cons (AV.le_eq rfl) LEs.nil) (LEss.cons (LEs.cons (AV.le_eq rfl) LEs.nil) LEss.nil)) ?_)
 refine G_q rfl (op_bld (c' := c_api_Info ([], 0, [0, 0], [])) (CellsAll.cons rfl CellsOf.row CellsAll.nil) rfl (LEs.cons (AV.le_eq rfl) (LEs.cons (AV.le_eq rfl) (LEs.cons (AV.le_eq rfl) (LEs.cons (row_nil (by decide)) LEs.nil)))) ?_)
 refine G_q rfl (op_litT (n := 1) (enc := c_int) [0] (CellsAll.cons rfl CellsOf.int CellsAll.nil) rfl (by kernel_rfl) (LEss.cons (LEs.cons (AV.le_eq rfl) LEs.nil) LEss.nil) ?_)
 refine G_q rfl (op_bld (c' := c_api_Info ([], 0, [0], [])) (CellsAll.cons rfl CellsOf.row CellsAll.nil) rfl (LEs.cons (AV.le_eq rfl) (LEs.cons (AV.le_eq rfl) (LEs.cons (AV.le_eq rfl) (LEs.cons (row_nil (by decide)) LEs.nil)))) ?_)
 refine G_q rfl (op_litT (n := 4) (enc := c_api_Info) [([], 0, [], []), ([], 0, [0, 0], []), ([], 0, [0], [])] (CellsAll.cons rfl CellsOf.agg (CellsAll.cons rfl CellsOf.agg (CellsAll.cons rfl CellsOf.agg CellsAll.nil))) rfl (by kernel_rfl) (LEss.cons (LEs.cons (AV.le_eq rfl) (LEs.cons (AV.le_eq rfl) (LEs.cons (AV.le_eq rfl) (LEs.cons (AV.le_eq rfl) LEs.nil)))) (LEss.cons (LEs.cons (AV.le_eq rfl) (LEs.cons (AV.le_eq rfl) (LEs.cons (AV.le_eq rfl) (LEs.cons (AV.le_eq rfl) LEs.nil)))) (LEss.cons (LEs.cons (AV.le_eq rfl) (LEs.cons (AV.le_eq rfl) (LEs.cons (AV.le_eq rfl) (LEs.cons (AV.le_eq rfl) LEs.nil)))) LEss.nil))) ?_)
 refine qa (.row 4 c_api_Info ([([], 0, [], []), ([], 0, [0, 0], []), ([], 0, [0], [])])) rfl ?_
 refine G_nil (zaa (zad (kr ?_)))
 refine qa (.exact (.slice none 0 0)) rfl ?_
 refine G_nil (zaa ?_)
 refine k_join3_1 h (fun (x13_0_j4 : List Int) (x13_1_j4 : Int) (x16_j4 : List (List UInt8)) (v16_j4 : Value) => (pt (pt (pt (pt (pt (pt (pt (pt (pt AF0 0 (.row 3 zae a0)) 1 (.xs a1)) 2 (.row 1 zab a2)) 4 (.xi a4)) 11 (.ptr (zae a5))) 13 (pA b2 0)) 14 (.row 3 zae y3.1)) 15 (.row 4 c_api_Info ([([], 0, [], []), ([], 0, [0, 0], []), ([], 0, [0], [])]))) 16 (.exact v16_j4))) (fun (x13_0_j4 : List Int) (x13_1_j4 : Int) (x16_j4 : List (List UInt8)) (v16_j4 : Value) => [boxI 53 b2 [.row 1 c_int x13_0_j4, .xi x13_1_j4], vecT Tryz.prog 27 1 zab v16_j4 x16_j4]) (fun k4 h => ?_) (fun x13_0_j4 x13_1_j4 x16_j4 v16_j4 h => ?_)
 ·refine zad (kr ?_)
  refine qa (.xi 0) rfl ?_
  refine G_nil (zaa (k_block ?_))
  refine k_loop4_1 (m_law12_PatternAgrees_L2 y3 k4) (m_law12_PatternAgrees_B2 y3 k4) (fun _ _ _ _ => rfl) (fun m _ _ _ _ => rfl) h (fun (x13_0_l2 : List Int) (x13_1_l2 : Int) (x16_l2 : List (List UInt8)) (x17_l2 : Int) (v16_l2 : Value) => (pt (pt (pt (pt (pt (pt (pt (pt (pt (pt AF0 0 (.row 3 zae a0)) 1 (.xs a1)) 2 (.row 1 zab a2)) 4 (.xi a4)) 11 (.ptr (zae a5))) 13 (pA b2 0)) 14 (.row 3 zae y3.1)) 15 (.row 4 c_api_Info ([([], 0, [], []), ([], 0, [0, 0], []), ([], 0, [0], [])]))) 16 (.exact v16_l2)) 17 (.xi x17_l2))) (fun (x13_0_l2 : List Int) (x13_1_l2 : Int) (x16_l2 : List (List UInt8)) (x17_l2 : Int) (v16_l2 : Value) => [boxI 53 b2 [.row 1 c_int x13_0_l2, .xi x13_1_l2], vecT Tryz.prog 27 1 zab v16_l2 x16_l2]) (.slice none 0 0) ?_ (fun rec2 x13_0_l2 x13_1_l2 x16_l2 x17_l2 v16_l2 h => ?_)
  ·refine Sub.trans (SubU.to (SubU.nilT (P := Tryz.prog) (t := 27) (n := 1) (enc := zab))) ?_
   refine Sub.trans (SubU.to SubU.f1) ?_
   exact so (l4 rfl rfl rfl rfl (l4 rfl rfl rfl rfl (lq rfl (lq rfl lt0))))
  ·unfold m_law12_PatternAgrees_B2 at h
   refine zad (zad (kr ?_))
   refine qm (.xi x17_l2) rfl ?_
   refine qm (.row 3 zae y3.1) rfl ?_
   obtain ⟨y26, hy26, h⟩ := bnd1_some h
   refine G_q rfl (zaj (m_ref11_Vars_ok _ _ hy26) Tryz.func15 (by kernel_rfl) (LEs.cons (AV.le_eq rfl) LEs.nil) ?_)
   refine G_q rfl (op_lss rfl rfl ?_)
   refine G_nil (zaa ?_)
   refine kd (p := x17_l2 < y26) rfl h (fun hc h => ?_) (fun hc h => ?_)
   ·refine k_skip (zaa (zad (k_block (kr ?_))))
    refine qm (.exact v16_l2) rfl ?_
    refine qm (pA b2 0) rfl ?_
    obtain ⟨y27, hy27, h⟩ := bnd1_some h
    refine G_l rfl (op_fun_1_0_1 (m_gen_Choices_Value_ok _ _ _ hy27) Tryz.func9 (by kernel_rfl) (LEs.cons (AV.le_eq rfl) (LEs.cons (AV.le_eq rfl) LEs.nil)) ?_)
    refine G_q rfl (op_litT (n := 1) (enc := zab) [y27.1] (CellsAll.cons rfl CellsOf.str CellsAll.nil) rfl (by kernel_rfl) (LEss.cons (LEs.cons (AV.le_eq rfl) LEs.nil) LEss.nil) ?_)
    obtain ⟨n28, h⟩ := need_some h
    refine G_l rfl (opB_f1 (op_appT (by kernel_rfl) rfl rfl oc_c_api_Value n28 (fun v29 => ?_)))
    refine qa (.exact v29) rfl ?_
    refine G_nil (zap (zaa (kr ?_)))
    refine qm (.xi x17_l2) rfl ?_
    refine G_q rfl (op_add rfl rfl rfl ?_)
    refine qa (.xi (i64 (x17_l2 + 1))) rfl ?_
    refine G_nil ?_
    refine zac ⟨_, _, _, _, v29, h, ?_⟩
    refine Sub.trans (SubU.to SubU.f1) ?_
    exact so (l4 rfl rfl rfl rfl (l4 rfl rfl rfl rfl (lq rfl (lq rfl lt0))))
   ·refine k_exit (kC_exit (kI_exit (kB_exit ?_)))
    refine zac ⟨_, _, _, v16_l2, h, ?_⟩
    exact so (l4 rfl rfl rfl rfl (l4 rfl rfl rfl rfl (lq rfl lt0)))
 ·refine zad (kr ?_)
  refine qm (pA b2 0) rfl ?_
  obtain ⟨y30, hy30, h⟩ := bnd1_some h
  refine G_l rfl (op_fun_1_0_1 (m_gen_Choices_Value_ok _ _ _ hy30) Tryz.func9 (by kernel_rfl) (LEs.cons (AV.le_eq rfl) (LEs.cons (AV.le_eq rfl) LEs.nil)) ?_)
  refine qa (.xs y30.1) rfl ?_
  refine G_nil (zaa (zad (kr ?_)))
  refine qm (.row 3 zae y3.1) rfl ?_
  obtain ⟨n31, h⟩ := need_some h
  refine G_l rfl (op_appN (enc := zae) (by kernel_rfl) rfl rfl oc_c_api_Code n31 (fun v32 => ?_))
  refine qa (.exact v32) rfl ?_
  refine G_nil (zaa (zad (kr ?_)))
  refine qm (.xi a4) rfl ?_
  refine qm (.exact v32) rfl ?_
  refine G_r rfl (op_len_vec (by kernel_rfl) rfl ?_)
  obtain ⟨y33, hy33, h⟩ := bnd1_some h
  refine G_q rfl (zaj (m_help_Mod_ok _ _ _ hy33) Tryz.func22 (by kernel_rfl) (LEs.cons (AV.le_eq rfl) (LEs.cons (AV.le_eq rfl) LEs.nil)) ?_)
  refine qa (.xi y33) rfl ?_
  refine G_nil (zaa ?_)
  refine k_join1_0 h (fun (x19_j34 : List (Int × Int × Int)) => (pt (pt (pt (pt (pt (pt (pt (pt AF0 0 (.row 3 zae a0)) 1 (.xs a1)) 2 (.row 1 zab a2)) 14 (.row 3 zae y3.1)) 15 (.row 4 c_api_Info ([([], 0, [], []), ([], 0, [0, 0], []), ([], 0, [0], [])]))) 16 (.exact v16_j4)) 18 (.xs y30.1)) 19 (.exact v32))) (fun (x19_j34 : List (Int × Int × Int)) => [vecT Tryz.prog 27 1 zab v16_j4 x16_j4, vecT Tryz.prog 25 3 zae v32 x19_j34]) (fun k34 h => ?_) (fun x19_j34 h => ?_)
  ·refine zad (kr ?_)
   refine qm (.xi a4) rfl ?_
   refine G_q rfl (op_quo rfl rfl (by decide) rfl ?_)
   obtain ⟨y42, hy42, h⟩ := bnd1_some h
   refine G_q rfl (zaj (m_help_Mod_ok _ _ _ hy42) Tryz.func22 (by kernel_rfl) (LEs.cons (AV.le_eq rfl) (LEs.cons (AV.le_eq rfl) LEs.nil)) ?_)
   refine G_nil (zaa (k_block (zad (kr ?_))))
   refine G_q rfl (op_eql rfl rfl ?_)
   refine qa (.xb (decide (y42 = 0))) rfl ?_
   refine G_nil (zaa ?_)
   refine kd (p := y42 = 0) rfl h (fun hc h => ?_) (fun hc h => ?_)
   ·refine kr ?_
    refine qm (.exact v32) rfl ?_
    refine qm (.xi y33) rfl ?_
    refine G_q rfl (zai (o := 1) (c' := (List.drop 1 (zae a5))) (by kernel_rfl) rfl rfl ?_)
    refine G_q rfl (zal (a := .xi a5.2.1) (by kernel_rfl) rfl rfl ?_)
    obtain ⟨n43, h⟩ := need_some h
    refine G_r rfl (op_index_vec (by kernel_rfl) rfl rfl n43.1 n43.2 ?_)
    refine G_q rfl (op_field_eptr (o := 1) (by kernel_rfl) rfl ?_)
    refine G_l rfl (op_store_vec (i := y33) (o := 1) (z := ((gi y3.1 y33).1, a5.2.1, (gi y3.1 y33).2.2)) (c' := [.xi a5.2.1]) (by kernel_rfl) len_c_api_Code rfl n43.1 n43.2 rfl CellsOf.int (LEs.cons (AV.le_eq rfl) LEs.nil) (OneC.int OneC.nil) (by kernel_rfl) (Nat.le_of_ble_eq_true rfl) rfl ?_)
    refine G_nil (zap ?_)
    refine zac ⟨_, h, ?_⟩
    refine Sub.trans (SubU.to SubU.f1) ?_
    refine Sub.trans (SubU.to SubU.drop) ?_
    refine Sub.trans (SubU.to SubU.f1) ?_
    exact so (l4 rfl rfl rfl rfl (l4 rfl rfl rfl rfl lt0))
   ·refine zad (kr ?_)
    refine G_q rfl (op_eql rfl rfl ?_)
    refine qa (.xb (decide (y42 = 1))) rfl ?_
    refine G_nil (zaa ?_)
    refine kd (p := y42 = 1) rfl h (fun hc h => ?_) (fun hc h => ?_)
    ·refine kr ?_
     refine qm (.exact v32) rfl ?_
     refine qm (.xi y33) rfl ?_
     refine G_q rfl (zai (o := 0) (c' := (List.drop 0 (zae a5))) (by kernel_rfl) rfl rfl ?_)
     refine G_q rfl (zal (a := .xi a5.1) (by kernel_rfl) rfl rfl ?_)
     obtain ⟨y44, hy44, h⟩ := bnd1_some h
     refine G_q rfl (zaj (m_help_Mod_ok _ _ _ hy44) Tryz.func22 (by kernel_rfl) (LEs.cons (AV.le_eq rfl) (LEs.cons (AV.le_eq rfl) LEs.nil)) ?_)
     refine G_q rfl (op_add rfl rfl rfl ?_)
     obtain ⟨n45, h⟩ := need_some h
     refine G_r rfl (op_index_vec (by kernel_rfl) rfl rfl n45.1 n45.2 ?_)
     refine G_q rfl (op_field_eptr (o := 0) (by kernel_rfl) rfl ?_)
     refine G_l rfl (op_store_vec (i := y33) (o := 0) (z := (i64 (28 + y44), (gi y3.1 y33).2.1, (gi y3.1 y33).2.2)) (c' := [.xi (i64 (28 + y44))]) (by kernel_rfl) len_c_api_Code rfl n45.1 n45.2 rfl CellsOf.int (LEs.cons (AV.le_eq rfl) LEs.nil) (OneC.int OneC.nil) (by kernel_rfl) (Nat.le_of_ble_eq_true rfl) rfl ?_)
     refine G_nil (zap ?_)
     refine zac ⟨_, h, ?_⟩
     refine Sub.trans (SubU.to SubU.f1) ?_
     refine Sub.trans (SubU.to SubU.drop) ?_
     refine Sub.trans (SubU.to SubU.f1) ?_
     exact so (l4 rfl rfl rfl rfl (l4 rfl rfl rfl rfl lt0))
    ·refine k_plan [] [(0, 0), (0, 1), (0, 5), (0, 6), (0, 7), (0, 8), (1, 2), (0, 3), (1, 4), (0, 9), (1, 10), (0, 11), (2, 12)] hmixP (by kernel_rfl) ?_
     refine P_q no34_0 rfl (zaf (av := .exact v32) rfl ?_)
     refine P_q no34_0 rfl (zaf (av := .xi y33) rfl ?_)
     refine P_q no34_0 rfl (zai (o := 2) (c' := (List.drop 2 (zae a5))) (by kernel_rfl) rfl rfl ?_)
     refine P_q no34_0 rfl (zal (a := .xi a5.2.2) (by kernel_rfl) rfl rfl ?_)
     obtain ⟨y46, hy46, h⟩ := bnd1_some h
     refine P_q no34_0 rfl (zaj (m_help_Mod_ok _ _ _ hy46) Tryz.func22 (by kernel_rfl) (LEs.cons (AV.le_eq rfl) (LEs.cons (AV.le_eq rfl) LEs.nil)) ?_)
     refine P_q no34_0 rfl (op_sub rfl rfl rfl ?_)
     obtain ⟨n47, h⟩ := need_some h
     refine P_r rfl (op_index_vec (by kernel_rfl) rfl rfl n47.1 n47.2 ?_)
     refine P_q no34_0 rfl (op_field_eptr (o := 2) (by kernel_rfl) rfl ?_)
     refine P_r rfl (op_load_vec1 (i := y33) (o := 2) (a := .xi ((gi y3.1 y33).2.2)) (by kernel_rfl) len_c_api_Code rfl n47.1 n47.2 rfl ?_)
     refine P_q no34_0 rfl (op_add rfl rfl rfl ?_)
     obtain ⟨n48, h⟩ := need_some h
     refine P_r rfl (op_index_vec (by kernel_rfl) rfl rfl n48.1 n48.2 ?_)
     refine P_q no34_0 rfl (op_field_eptr (o := 2) (by kernel_rfl) rfl ?_)
     refine P_l rfl (op_store_vec (i := y33) (o := 2) (z := ((gi y3.1 y33).1, (gi y3.1 y33).2.1, i64 (((gi y3.1 y33).2.2) + (i64 (y46 - 1))))) (c' := [.xi (i64 (((gi y3.1 y33).2.2) + (i64 (y46 - 1))))]) (by kernel_rfl) len_c_api_Code rfl n48.1 n48.2 rfl CellsOf.int (LEs.cons (AV.le_eq rfl) LEs.nil) (OneC.int OneC.nil) (by kernel_rfl) (Nat.le_of_ble_eq_true rfl) rfl ?_)
     refine P_nil (zap ?_)
     refine zac ⟨_, h, ?_⟩
     refine Sub.trans (SubU.to SubU.f1) ?_
     refine Sub.trans (SubU.to SubU.drop) ?_
     refine Sub.trans (SubU.to SubU.f1) ?_
     exact so (l4 rfl rfl rfl rfl (l4 rfl rfl rfl rfl lt0))
  ·refine k_join1_0 h (fun (x12_j49 : Bool) => (pt AF0 12 (.xb x12_j49))) (fun (x12_j49 : Bool) => []) (fun k49 h => ?_) (fun x12_j49 h => ?_)
   ·refine kr ?_
    obtain ⟨y55, hy55, h⟩ := bnd1_some h
    refine G_q rfl (zaj (m_law12_awake_ok _ hy55) Tryz.func12 (by kernel_rfl) LEs.nil ?_)
    refine qm (.xb y55) rfl ?_
    refine G_splitB (c := y55) 84 rfl (fun hc => ?_) (fun hc => ?_)
    ·replace h := ite_t h hc
     refine Gy_q rfl rfl rfl (zaf (av := .row 3 zae a0) rfl ?_)
     refine Gy_q rfl rfl rfl (zaf (av := .xs a1) rfl ?_)
     refine Gy_q rfl rfl rfl (zaf (av := .row 1 zab a2) rfl ?_)
     refine Gy_q rfl rfl rfl (zaf (av := .row 4 c_api_Info ([([], 0, [], []), ([], 0, [0, 0], []), ([], 0, [0], [])])) rfl ?_)
     obtain ⟨y56, hy56, h⟩ := bnd1_some h
     refine Gy_q rfl rfl rfl (zaj (m_law12_agrees_ok _ _ _ _ _ hy56) Tryz.func23 (by kernel_rfl) (LEs.cons (AV.le_eq rfl) (LEs.cons (AV.le_eq rfl) (LEs.cons (AV.le_eq rfl) (LEs.cons (AV.le_eq rfl) LEs.nil)))) ?_)
     refine G_q rfl (zak rfl (av := .xb y56) rfl ?_)
     refine qm (.xb y56) rfl ?_
     refine G_splitB (c := y56) 91 rfl (fun hc => ?_) (fun hc => ?_)
     ·replace h := ite_t h hc
      refine Gy_q rfl rfl rfl (zaf (av := .row 3 zae y3.1) rfl ?_)
      refine Gy_q rfl rfl rfl (zaf (av := .xs y30.1) rfl ?_)
      refine Gy_q rfl rfl rfl (zaf (av := .exact v16_j4) rfl ?_)
      refine Gy_q rfl rfl rfl (zaf (av := .row 4 c_api_Info ([([], 0, [], []), ([], 0, [0, 0], []), ([], 0, [0], [])])) rfl ?_)
      refine G_sub rfl (SubU.freezeT2 (s1 := 16) (s2 := 94) rfl rfl len_c_api_Value) ?_
      obtain ⟨y57, hy57, h⟩ := bnd1_some h
      refine Gy_q rfl rfl rfl (zaj (m_law12_agrees_ok _ _ _ _ _ hy57) Tryz.func23 (by kernel_rfl) (LEs.cons (AV.le_eq rfl) (LEs.cons (AV.le_eq rfl) (LEs.cons (AV.le_eq rfl) (LEs.cons (AV.le_eq rfl) LEs.nil)))) ?_)
      refine G_q rfl (zak rfl (av := .xb y57) rfl ?_)
      refine qm (.xb y57) rfl ?_
      refine G_splitB (c := y57) 98 rfl (fun hc => ?_) (fun hc => ?_)
      ·replace h := ite_t h hc
       refine Gy_q rfl rfl rfl (zaf (av := .row 3 zae y3.1) rfl ?_)
       refine Gy_q rfl rfl rfl (zaf (av := .xs a1) rfl ?_)
       refine Gy_q rfl rfl rfl (zaf (av := .row 1 zab a2) rfl ?_)
       obtain ⟨y58, hy58, h⟩ := bnd1_some h
       refine Gy_q rfl rfl rfl (zaj (m_law12_agrees_ok _ _ _ _ _ hy58) Tryz.func23 (by kernel_rfl) (LEs.cons (AV.le_eq rfl) (LEs.cons (AV.le_eq rfl) (LEs.cons (AV.le_eq rfl) (LEs.cons (row_nil (by decide)) LEs.nil)))) ?_)
       refine G_q rfl (zak rfl (av := .xb y58) rfl ?_)
       refine qm (.xb y58) rfl ?_
       refine G_splitB (c := y58) 104 rfl (fun hc => ?_) (fun hc => ?_)
       ·replace h := ite_t h hc
        refine Gy_q rfl rfl rfl (zaf (av := .exact v32) rfl ?_)
        refine Gy_q rfl rfl rfl (zaf (av := .xs y30.1) rfl ?_)
        refine Gy_q rfl rfl rfl (zaf (av := .row 1 zab x16_j4) rfl ?_)
        refine Gy_q rfl rfl rfl (zaf (av := .row 4 c_api_Info ([([], 0, [], []), ([], 0, [0, 0], []), ([], 0, [0], [])])) rfl ?_)
        refine G_sub rfl (SubU.freezeT2 (s1 := 19) (s2 := 105) rfl rfl len_c_api_Code) ?_
        obtain ⟨y59, hy59, h⟩ := bnd1_some h
        refine Gy_q rfl rfl rfl (zaj (m_law12_agrees_ok _ _ _ _ _ hy59) Tryz.func23 (by kernel_rfl) (LEs.cons (AV.le_eq rfl) (LEs.cons (AV.le_eq rfl) (LEs.cons (AV.le_eq rfl) (LEs.cons (AV.le_eq rfl) LEs.nil)))) ?_)
        refine G_q rfl (zak rfl (av := .xb y59) rfl ?_)
        refine qa (.xb y59) rfl ?_
        refine G_nil ?_
        refine zac ⟨_, h, ?_⟩
        exact so (lq rfl lt0)
       ·replace h := ite_f h hc
        refine G_n rfl rfl (G_n rfl rfl (G_n rfl rfl (G_n rfl rfl (G_n rfl rfl ?_))))
        refine G_q rfl (zah rfl (av := .xb false) rfl ?_)
        refine qa (.xb false) rfl ?_
        refine G_nil ?_
        refine zac ⟨_, h, ?_⟩
        refine Sub.trans (SubU.to SubU.drop) ?_
        exact so (lq rfl lt0)
      ·replace h := ite_f h hc
       refine G_n rfl rfl (G_n rfl rfl (G_n rfl rfl (G_n rfl rfl ?_)))
       refine G_q rfl (zah rfl (av := .xb false) rfl ?_)
       refine qm (.xb false) rfl ?_
       refine G_n rfl rfl (G_n rfl rfl (G_n rfl rfl (G_n rfl rfl (G_n rfl rfl ?_))))
       refine G_q rfl (zah rfl (av := .xb false) rfl ?_)
       refine qa (.xb false) rfl ?_
       refine G_nil ?_
       refine zac ⟨_, h, ?_⟩
       refine Sub.trans (SubU.to SubU.drop) ?_
       exact so (lq rfl lt0)
     ·replace h := ite_f h hc
      refine G_n rfl rfl (G_n rfl rfl (G_n rfl rfl (G_n rfl rfl (G_n rfl rfl ?_))))
      refine G_q rfl (zah rfl (av := .xb false) rfl ?_)
      refine qm (.xb false) rfl ?_
      refine G_n rfl rfl (G_n rfl rfl (G_n rfl rfl (G_n rfl rfl ?_)))
      refine G_q rfl (zah rfl (av := .xb false) rfl ?_)
      refine qm (.xb false) rfl ?_
      refine G_n rfl rfl (G_n rfl rfl (G_n rfl rfl (G_n rfl rfl (G_n rfl rfl ?_))))
      refine G_q rfl (zah rfl (av := .xb false) rfl ?_)
      refine qa (.xb false) rfl ?_
      refine G_nil ?_
      refine zac ⟨_, h, ?_⟩
      refine Sub.trans (SubU.to SubU.drop) ?_
      refine Sub.trans (SubU.to SubU.drop) ?_
      exact so (lq rfl lt0)
    ·replace h := ite_f h hc
     refine G_n rfl rfl (G_n rfl rfl (G_n rfl rfl (G_n rfl rfl (G_n rfl rfl ?_))))
     refine G_q rfl (zah rfl (av := .xb false) rfl ?_)
     refine qm (.xb false) rfl ?_
     refine G_n rfl rfl (G_n rfl rfl (G_n rfl rfl (G_n rfl rfl (G_n rfl rfl ?_))))
     refine G_q rfl (zah rfl (av := .xb false) rfl ?_)
     refine qm (.xb false) rfl ?_
     refine G_n rfl rfl (G_n rfl rfl (G_n rfl rfl (G_n rfl rfl ?_)))
     refine G_q rfl (zah rfl (av := .xb false) rfl ?_)
     refine qm (.xb false) rfl ?_
     refine G_n rfl rfl (G_n rfl rfl (G_n rfl rfl (G_n rfl rfl (G_n rfl rfl ?_))))
     refine G_q rfl (zah rfl (av := .xb false) rfl ?_)
     refine qa (.xb false) rfl ?_
     refine G_nil ?_
     refine zac ⟨_, h, ?_⟩
     refine Sub.trans (SubU.to SubU.drop) ?_
     refine Sub.trans (SubU.to SubU.drop) ?_
     exact so (lq rfl lt0)
   ·refine k_ret ?_
    obtain rfl := Option.some.inj h
    refine ke (pt AF0 12 (.xb x12_j49)) [] rfl ?_ ⟨rfl, rfl⟩
    exact so (lq rfl lt0)
end Go.Proofs.YtpfdeahcjlfijaaGreat
