/- Models, by program: what the functions compute. -/
import Derived.Test.YtkbbeeeoogjknaaQA0
namespace Go.Proofs.Ytkbbeeeoogjknaa

/- cspcheck.cspcheckgen.New -/
noncomputable def m_gen_New (a0 : List Int) : Option ((List Int) × Int) :=
  some ((a0, 0).1, (a0, 0).2)
/- cspcheck.cspcheckhelp.Mod -/
noncomputable def m_help_Mod (a0 : Int) (a1 : Int) : Option Int :=
  need ((IntKind.u64.wrap (a1)) ≠ 0) (some (i64 (Int.tmod (IntKind.u64.wrap (a0)) (IntKind.u64.wrap (a1)))))
/- (*cspcheck.cspcheckgen.Choices).Next -/
noncomputable def m_gen_Choices_Next (a0 : (List Int) × Int) (a1 : Int) : Option (Int × ((List Int) × Int)) :=
  if (List.length a0.1 : Int) ≤ a0.2 then (some (0, (a0.1, a0.2))) else (need ((0 : Int) ≤ i64 ((i64 (a0.2 + 1)) - 1) ∧ (i64 ((i64 (a0.2 + 1)) - 1)) < (List.length a0.1 : Int)) (bnd1 (m_help_Mod (gi a0.1 (i64 ((i64 (a0.2 + 1)) - 1))) a1) (fun y2 => some (y2, (a0.1, i64 (a0.2 + 1))))))
/- (*cspcheck.cspcheckgen.Choices).Event -/
noncomputable def m_gen_Choices_Event (a0 : (List Int) × Int) : Option (Int × ((List Int) × Int)) :=
  bnd1 (m_gen_Choices_Next (a0.1, a0.2) 4) (fun y1 => some (i64 (2 + y1.1), (y1.2.1, y1.2.2)))
/- cspcheck.alphabet.visible -/
noncomputable def m_alphabet_visible (a0 : Int) : Option Bool :=
  jn (fun (x2_j1 : Bool) => some x2_j1) (fun k1 => if 2 ≤ a0 then (k1 (decide (a0 < 1026))) else (k1 false))
/- cmp.isNaN(int) -/
noncomputable def m_cmp_isNaN_int (a0 : Int) : Option Bool :=
  some (decide (¬ a0 = a0))
/- cmp.Compare(int) -/
noncomputable def m_cmp_Compare_int (a0 : Int) (a1 : Int) : Option Int :=
  bnd1 (m_cmp_isNaN_int a0) (fun y1 => bnd1 (m_cmp_isNaN_int a1) (fun y2 => if y1 then (if y2 then (some 0) else (some (-1))) else (if y2 then (some 1) else (if a0 < a1 then (some (-1)) else (if a1 < a0 then (some 1) else (some 0))))))
/- cmp.Or(int) -/
noncomputable def m_cmp_Or_int_B2 (a0 : List Int) (k1 : Unit → Option Int) (rec2 : Int → Option Int) (x8_l2 : Int) : Option Int :=
  if x8_l2 < (List.length a0 : Int) then (need ((0 : Int) ≤ x8_l2 ∧ x8_l2 < (List.length a0 : Int)) (if ¬ (gi a0 x8_l2) = 0 then (some (gi a0 x8_l2)) else (rec2 (i64 (x8_l2 + 1))))) else (k1 ())
noncomputable def m_cmp_Or_int_L2 (a0 : List Int) (k1 : Unit → Option Int) : Nat → Int → Option Int
  | 0, _ => none
  | n + 1, x8_l2 => m_cmp_Or_int_B2 a0 k1 (m_cmp_Or_int_L2 a0 k1 n) x8_l2
noncomputable def m_cmp_Or_int (a0 : List Int) : Option Int :=
  jn (fun (_ : Unit) => some 0) (fun k1 => m_cmp_Or_int_L2 a0 k1 FU 0)
/- cspcheck.alphabet.compareAbove -/
noncomputable def m_alphabet_compareAbove (a0 : Int × Int) (a1 : Int × Int) : Option Int :=
  bnd1 (m_cmp_Compare_int a0.1 a1.1) (fun y1 => bnd1 (m_cmp_Compare_int a0.2 a1.2) (fun y2 => bnd1 (m_cmp_Or_int [y1, y2]) (fun y3 => some y3)))
/- slices.Clip(()cspcheck.api.Above,cspcheck.api.Above) -/
noncomputable def m_slices_Clip_L_api_Above_api_Above (a0 : List (Int × Int)) : Option (List (Int × Int)) :=
  need (0 ≤ (List.length a0 : Int)) (some (List.take (Int.toNat (List.length a0 : Int)) a0))
/- slices.Clone(()int,int) -/
noncomputable def m_slices_Clone_L_int_int (a0 : List Int) : Option (List Int) :=
  nilc (a0 = []) (some []) (need (List.length ([] : List Int) + List.length a0 ≤ 137438953472) (some (([] : List Int) ++ a0)))
/- cspcheck.cspcheckref16.Visible -/
noncomputable def m_ref16_Visible (a0 : Int) : Option Bool :=
  jn (fun (x2_j1 : Bool) => some x2_j1) (fun k1 => if 2 ≤ a0 then (k1 (decide (a0 < 1026))) else (k1 false))
/- cspcheck.cspcheckref16.before -/
noncomputable def m_ref16_before (a0 : Int × Int) (a1 : Int × Int) : Option Bool :=
  jn (fun (x4_j1 : Bool) => some x4_j1) (fun k1 => if a0.1 < a1.1 then (k1 true) else (if a0.1 = a1.1 then (k1 (decide (a0.2 < a1.2))) else (k1 false)))
/- cspcheck.cspcheckref16.Relation -/
noncomputable def m_ref16_Relation_B26 (a0 : List (Int × Int)) (x3_l14 : List (Int × Int)) (x4_l14 : Int) (k1183 : Int → Option (List (Int × Int))) (rec26 : Int → Option (List (Int × Int))) (x5_l26 : Int) : Option (List (Int × Int)) :=
  jn (fun (x42_j1268 : Bool) => if x42_j1268 then (rec26 (i64 (x5_l26 + 1))) else (k1183 x5_l26)) (fun k1268 => if x5_l26 < (List.length x3_l14 : Int) then (need ((0 : Int) ≤ x4_l14 ∧ x4_l14 < (List.length a0 : Int)) (need ((0 : Int) ≤ x5_l26 ∧ x5_l26 < (List.length x3_l14 : Int)) (bnd1 (m_ref16_before (gi x3_l14 x5_l26) (gi a0 x4_l14)) (fun y1274 => k1268 y1274)))) else (k1268 false))
noncomputable def m_ref16_Relation_L26 (a0 : List (Int × Int)) (x3_l14 : List (Int × Int)) (x4_l14 : Int) (k1183 : Int → Option (List (Int × Int))) : Nat → Int → Option (List (Int × Int))
  | 0, _ => none
  | n + 1, x5_l26 => m_ref16_Relation_B26 a0 x3_l14 x4_l14 k1183 (m_ref16_Relation_L26 a0 x3_l14 x4_l14 k1183 n) x5_l26
noncomputable def m_ref16_Relation_B14 (a0 : List (Int × Int)) (k1 : (List (Int × Int)) → Option (List (Int × Int))) (rec14 : (List (Int × Int)) → Int → Option (List (Int × Int))) (x3_l14 : List (Int × Int)) (x4_l14 : Int) : Option (List (Int × Int)) :=
  if x4_l14 < (List.length a0 : Int) then (jn (fun (x3_j1034 : List (Int × Int)) => rec14 x3_j1034 (i64 (x4_l14 + 1))) (fun k1034 => jn (fun (x27_j1174 : Bool) => if x27_j1174 then (k1034 x3_l14) else (jn (fun (x5_j1183 : Int) => jn (fun (x59_j1281 : Bool) => if x59_j1281 then (k1034 x3_l14) else (need (List.length x3_l14 + List.length [(0, 0)] ≤ 137438953472) (need ((0 : Int) ≤ i64 (x5_j1183 + 1) ∧ (i64 (x5_j1183 + 1)) ≤ (List.length (x3_l14 ++ [(0, 0)]) : Int) ∧ (List.length (x3_l14 ++ [(0, 0)]) : Int) ≤ (List.length (x3_l14 ++ [(0, 0)]) : Int)) (need ((0 : Int) ≤ x5_j1183 ∧ x5_j1183 ≤ (List.length (x3_l14 ++ [(0, 0)]) : Int) ∧ (List.length (x3_l14 ++ [(0, 0)]) : Int) ≤ (List.length (x3_l14 ++ [(0, 0)]) : Int)) (need ((0 : Int) ≤ x4_l14 ∧ x4_l14 < (List.length a0 : Int)) (need ((0 : Int) ≤ x5_j1183 ∧ x5_j1183 < (List.length (List.take (Int.toNat (i64 (x5_j1183 + 1))) (x3_l14 ++ [(0, 0)]) ++ List.take (Nat.min (Int.toNat (List.length (x3_l14 ++ [(0, 0)]) : Int) - Int.toNat x5_j1183) (Int.toNat (List.length (x3_l14 ++ [(0, 0)]) : Int) - Int.toNat (i64 (x5_j1183 + 1)))) (List.drop (Int.toNat x5_j1183) (x3_l14 ++ [(0, 0)])) ++ List.drop (Int.toNat (i64 (x5_j1183 + 1)) + (Nat.min (Int.toNat (List.length (x3_l14 ++ [(0, 0)]) : Int) - Int.toNat x5_j1183) (Int.toNat (List.length (x3_l14 ++ [(0, 0)]) : Int) - Int.toNat (i64 (x5_j1183 + 1))))) (x3_l14 ++ [(0, 0)])) : Int)) (k1034 (List.set (List.take (Int.toNat (i64 (x5_j1183 + 1))) (x3_l14 ++ [(0, 0)]) ++ List.take (Nat.min (Int.toNat (List.length (x3_l14 ++ [(0, 0)]) : Int) - Int.toNat x5_j1183) (Int.toNat (List.length (x3_l14 ++ [(0, 0)]) : Int) - Int.toNat (i64 (x5_j1183 + 1)))) (List.drop (Int.toNat x5_j1183) (x3_l14 ++ [(0, 0)])) ++ List.drop (Int.toNat (i64 (x5_j1183 + 1)) + (Nat.min (Int.toNat (List.length (x3_l14 ++ [(0, 0)]) : Int) - Int.toNat x5_j1183) (Int.toNat (List.length (x3_l14 ++ [(0, 0)]) : Int) - Int.toNat (i64 (x5_j1183 + 1))))) (x3_l14 ++ [(0, 0)])) (Int.toNat x5_j1183) (gi a0 x4_l14))))))))) (fun k1281 => if x5_j1183 < (List.length x3_l14 : Int) then (need ((0 : Int) ≤ x4_l14 ∧ x4_l14 < (List.length a0 : Int)) (need ((0 : Int) ≤ x5_j1183 ∧ x5_j1183 < (List.length x3_l14 : Int)) (k1281 (decide ((gi x3_l14 x5_j1183) = (gi a0 x4_l14)))))) else (k1281 false))) (fun k1183 => m_ref16_Relation_L26 a0 x3_l14 x4_l14 k1183 FU 0))) (fun k1174 => need ((0 : Int) ≤ x4_l14 ∧ x4_l14 < (List.length a0 : Int)) (bnd1 (m_ref16_Visible ((gi a0 x4_l14).1)) (fun y1180 => if !y1180 then (k1174 true) else (need ((0 : Int) ≤ x4_l14 ∧ x4_l14 < (List.length a0 : Int)) (bnd1 (m_ref16_Visible ((gi a0 x4_l14).2)) (fun y1182 => k1174 (!y1182))))))))) else (k1 x3_l14)
noncomputable def m_ref16_Relation_L14 (a0 : List (Int × Int)) (k1 : (List (Int × Int)) → Option (List (Int × Int))) : Nat → (List (Int × Int)) → Int → Option (List (Int × Int))
  | 0, _, _ => none
  | n + 1, x3_l14, x4_l14 => m_ref16_Relation_B14 a0 k1 (m_ref16_Relation_L14 a0 k1 n) x3_l14 x4_l14
noncomputable def m_ref16_Relation (a0 : List (Int × Int)) : Option (List (Int × Int)) :=
  jn (fun (x3_j1 : List (Int × Int)) => some x3_j1) (fun k1 => m_ref16_Relation_L14 a0 k1 FU [] 0)
/- cspcheck.cspcheckhelp.Equal(cspcheck.api.Above) -/
noncomputable def m_help_Equal_api_Above_B2 (a0 : List (Int × Int)) (a1 : List (Int × Int)) (k1 : Unit → Option Bool) (rec2 : Int → Option Bool) (x5_l2 : Int) : Option Bool :=
  if x5_l2 < (List.length a0 : Int) then (need ((0 : Int) ≤ x5_l2 ∧ x5_l2 < (List.length a0 : Int)) (need ((0 : Int) ≤ x5_l2 ∧ x5_l2 < (List.length a1 : Int)) (if ¬ (gi a0 x5_l2) = (gi a1 x5_l2) then (some false) else (rec2 (i64 (x5_l2 + 1)))))) else (k1 ())
noncomputable def m_help_Equal_api_Above_L2 (a0 : List (Int × Int)) (a1 : List (Int × Int)) (k1 : Unit → Option Bool) : Nat → Int → Option Bool
  | 0, _ => none
  | n + 1, x5_l2 => m_help_Equal_api_Above_B2 a0 a1 k1 (m_help_Equal_api_Above_L2 a0 a1 k1 n) x5_l2
noncomputable def m_help_Equal_api_Above (a0 : List (Int × Int)) (a1 : List (Int × Int)) : Option Bool :=
  if ¬ (List.length a0 : Int) = (List.length a1 : Int) then (some false) else (jn (fun (_ : Unit) => some true) (fun k1 => m_help_Equal_api_Above_L2 a0 a1 k1 FU 0))
/- slices.Equal(()cspcheck.api.Above,cspcheck.api.Above) -/
noncomputable def m_slices_Equal_L_api_Above_api_Above_B2 (a0 : List (Int × Int)) (a1 : List (Int × Int)) (k1 : Unit → Option Bool) (rec2 : Int → Option Bool) (x13_l2 : Int) : Option Bool :=
  if x13_l2 < (List.length a0 : Int) then (need ((0 : Int) ≤ x13_l2 ∧ x13_l2 < (List.length a0 : Int)) (need ((0 : Int) ≤ x13_l2 ∧ x13_l2 < (List.length a1 : Int)) (if ¬ (gi a0 x13_l2) = (gi a1 x13_l2) then (some false) else (rec2 (i64 (x13_l2 + 1)))))) else (k1 ())
noncomputable def m_slices_Equal_L_api_Above_api_Above_L2 (a0 : List (Int × Int)) (a1 : List (Int × Int)) (k1 : Unit → Option Bool) : Nat → Int → Option Bool
  | 0, _ => none
  | n + 1, x13_l2 => m_slices_Equal_L_api_Above_api_Above_B2 a0 a1 k1 (m_slices_Equal_L_api_Above_api_Above_L2 a0 a1 k1 n) x13_l2
noncomputable def m_slices_Equal_L_api_Above_api_Above (a0 : List (Int × Int)) (a1 : List (Int × Int)) : Option Bool :=
  if ¬ (List.length a0 : Int) = (List.length a1 : Int) then (some false) else (jn (fun (_ : Unit) => some true) (fun k1 => m_slices_Equal_L_api_Above_api_Above_L2 a0 a1 k1 FU 0))
/- cspcheck.alphabet.ValidOrder -/
noncomputable def m_alphabet_ValidOrder (a0 : List (Int × Int)) : Option Bool :=
  bnd1 (m_close a0) (fun y1 => jn (fun (x2_j2 : Bool) => some x2_j2) (fun k2 => if y1.2 = 0 then (bnd1 (m_slices_Equal_L_api_Above_api_Above a0 y1.1) (fun y4 => k2 y4)) else (k2 false)))
/- cspcheck.cspcheckref16.greater -/
noncomputable def m_ref16_greater_B2 (a0 : List (Int × Int)) (a1 : Int) (a2 : Int) (k1 : Unit → Option Bool) (rec2 : Int → Option Bool) (x7_l2 : Int) : Option Bool :=
  if x7_l2 < (List.length a0 : Int) then (jn (fun (x29_j64 : Bool) => if x29_j64 then (some true) else (rec2 (i64 (x7_l2 + 1)))) (fun k64 => need ((0 : Int) ≤ x7_l2 ∧ x7_l2 < (List.length a0 : Int)) (if ((gi a0 x7_l2).1) = a1 then (need ((0 : Int) ≤ x7_l2 ∧ x7_l2 < (List.length a0 : Int)) (k64 (decide (((gi a0 x7_l2).2) = a2)))) else (k64 false)))) else (k1 ())
noncomputable def m_ref16_greater_L2 (a0 : List (Int × Int)) (a1 : Int) (a2 : Int) (k1 : Unit → Option Bool) : Nat → Int → Option Bool
  | 0, _ => none
  | n + 1, x7_l2 => m_ref16_greater_B2 a0 a1 a2 k1 (m_ref16_greater_L2 a0 a1 a2 k1 n) x7_l2
noncomputable def m_ref16_greater (a0 : List (Int × Int)) (a1 : Int) (a2 : Int) : Option Bool :=
  jn (fun (_ : Unit) => some false) (fun k1 => m_ref16_greater_L2 a0 a1 a2 k1 FU 0)
/- cspcheck.cspcheckref16.ValidOrder -/
noncomputable def m_ref16_ValidOrder_B2 (a0 : List (Int × Int)) (k1 : Unit → Option Bool) (rec2 : Int → Option Bool) (x3_l2 : Int) : Option Bool :=
  if x3_l2 < (List.length a0 : Int) then (need ((0 : Int) ≤ x3_l2 ∧ x3_l2 < (List.length a0 : Int)) (jn (fun (x59_j154 : Bool) => if x59_j154 then (some false) else (rec2 (i64 (x3_l2 + 1)))) (fun k154 => bnd1 (m_ref16_Visible ((gi a0 x3_l2).1)) (fun y160 => if !y160 then (k154 true) else (bnd1 (m_ref16_Visible ((gi a0 x3_l2).2)) (fun y161 => if !y161 then (k154 true) else (if ((gi a0 x3_l2).1) = ((gi a0 x3_l2).2) then (k154 true) else (if 0 < x3_l2 then (need ((0 : Int) ≤ i64 (x3_l2 - 1) ∧ (i64 (x3_l2 - 1)) < (List.length a0 : Int)) (need ((0 : Int) ≤ i64 (x3_l2 - 1) ∧ (i64 (x3_l2 - 1)) < (List.length a0 : Int)) (bnd1 (m_ref16_before ((gi a0 (i64 (x3_l2 - 1))).1, (gi a0 (i64 (x3_l2 - 1))).2) ((gi a0 x3_l2).1, (gi a0 x3_l2).2)) (fun y164 => k154 (!y164))))) else (k154 false))))))))) else (k1 ())
noncomputable def m_ref16_ValidOrder_L2 (a0 : List (Int × Int)) (k1 : Unit → Option Bool) : Nat → Int → Option Bool
  | 0, _ => none
  | n + 1, x3_l2 => m_ref16_ValidOrder_B2 a0 k1 (m_ref16_ValidOrder_L2 a0 k1 n) x3_l2
noncomputable def m_ref16_ValidOrder_B16 (a0 : List (Int × Int)) (x5_l10 : Int) (k872 : Unit → Option Bool) (rec16 : Int → Option Bool) (x6_l16 : Int) : Option Bool :=
  if x6_l16 < (List.length a0 : Int) then (jn (fun (x97_j1001 : Bool) => if x97_j1001 then (some false) else (rec16 (i64 (x6_l16 + 1)))) (fun k1001 => need ((0 : Int) ≤ x5_l10 ∧ x5_l10 < (List.length a0 : Int)) (need ((0 : Int) ≤ x6_l16 ∧ x6_l16 < (List.length a0 : Int)) (if ((gi a0 x5_l10).2) = ((gi a0 x6_l16).1) then (need ((0 : Int) ≤ x5_l10 ∧ x5_l10 < (List.length a0 : Int)) (need ((0 : Int) ≤ x6_l16 ∧ x6_l16 < (List.length a0 : Int)) (bnd1 (m_ref16_greater a0 ((gi a0 x5_l10).1) ((gi a0 x6_l16).2)) (fun y1011 => k1001 (!y1011))))) else (k1001 false))))) else (k872 ())
noncomputable def m_ref16_ValidOrder_L16 (a0 : List (Int × Int)) (x5_l10 : Int) (k872 : Unit → Option Bool) : Nat → Int → Option Bool
  | 0, _ => none
  | n + 1, x6_l16 => m_ref16_ValidOrder_B16 a0 x5_l10 k872 (m_ref16_ValidOrder_L16 a0 x5_l10 k872 n) x6_l16
noncomputable def m_ref16_ValidOrder_B10 (a0 : List (Int × Int)) (k165 : Unit → Option Bool) (rec10 : Int → Option Bool) (x5_l10 : Int) : Option Bool :=
  if x5_l10 < (List.length a0 : Int) then (jn (fun (_ : Unit) => rec10 (i64 (x5_l10 + 1))) (fun k872 => m_ref16_ValidOrder_L16 a0 x5_l10 k872 FU 0)) else (k165 ())
noncomputable def m_ref16_ValidOrder_L10 (a0 : List (Int × Int)) (k165 : Unit → Option Bool) : Nat → Int → Option Bool
  | 0, _ => none
  | n + 1, x5_l10 => m_ref16_ValidOrder_B10 a0 k165 (m_ref16_ValidOrder_L10 a0 k165 n) x5_l10
noncomputable def m_ref16_ValidOrder (a0 : List (Int × Int)) : Option Bool :=
  jn (fun (_ : Unit) => jn (fun (_ : Unit) => some true) (fun k165 => m_ref16_ValidOrder_L10 a0 k165 FU 0)) (fun k1 => m_ref16_ValidOrder_L2 a0 k1 FU 0)
/- slices.Index(()int,int) -/
noncomputable def m_slices_Index_L_int_int_B2 (a0 : List Int) (a1 : Int) (k1 : Unit → Option Int) (rec2 : Int → Option Int) (x8_l2 : Int) : Option Int :=
  if x8_l2 < (List.length a0 : Int) then (need ((0 : Int) ≤ x8_l2 ∧ x8_l2 < (List.length a0 : Int)) (if a1 = (gi a0 x8_l2) then (some x8_l2) else (rec2 (i64 (x8_l2 + 1))))) else (k1 ())
noncomputable def m_slices_Index_L_int_int_L2 (a0 : List Int) (a1 : Int) (k1 : Unit → Option Int) : Nat → Int → Option Int
  | 0, _ => none
  | n + 1, x8_l2 => m_slices_Index_L_int_int_B2 a0 a1 k1 (m_slices_Index_L_int_int_L2 a0 a1 k1 n) x8_l2
noncomputable def m_slices_Index_L_int_int (a0 : List Int) (a1 : Int) : Option Int :=
  jn (fun (_ : Unit) => some (-1)) (fun k1 => m_slices_Index_L_int_int_L2 a0 a1 k1 FU 0)
/- slices.Contains(()int,int) -/
noncomputable def m_slices_Contains_L_int_int (a0 : List Int) (a1 : Int) : Option Bool :=
  bnd1 (m_slices_Index_L_int_int a0 a1) (fun y1 => some (decide (0 ≤ y1)))
/- cspcheck.alphabet.beaten -/
noncomputable def m_alphabet_beaten_B2 (a0 : List (Int × Int)) (a1 : List Int) (a2 : Int) (x7_j1 : Bool) (k6 : Unit → Option Bool) (rec2 : Int → Option Bool) (x18_l2 : Int) : Option Bool :=
  if x18_l2 < (List.length a0 : Int) then (need ((0 : Int) ≤ x18_l2 ∧ x18_l2 < (List.length a0 : Int)) (jn (fun (x34_j71 : Bool) => if x34_j71 then (some true) else (rec2 (i64 (x18_l2 + 1)))) (fun k71 => if ((gi a0 x18_l2).1) = a2 then (if x7_j1 then (k71 true) else (bnd1 (m_slices_Contains_L_int_int a1 ((gi a0 x18_l2).2)) (fun y73 => k71 y73))) else (k71 false)))) else (k6 ())
noncomputable def m_alphabet_beaten_L2 (a0 : List (Int × Int)) (a1 : List Int) (a2 : Int) (x7_j1 : Bool) (k6 : Unit → Option Bool) : Nat → Int → Option Bool
  | 0, _ => none
  | n + 1, x18_l2 => m_alphabet_beaten_B2 a0 a1 a2 x7_j1 k6 (m_alphabet_beaten_L2 a0 a1 a2 x7_j1 k6 n) x18_l2
noncomputable def m_alphabet_beaten (a0 : List (Int × Int)) (a1 : List Int) (a2 : Int) : Option Bool :=
  jn (fun (x7_j1 : Bool) => jn (fun (_ : Unit) => some false) (fun k6 => m_alphabet_beaten_L2 a0 a1 a2 x7_j1 k6 FU 0)) (fun k1 => bnd1 (m_slices_Contains_L_int_int a1 0) (fun y4 => if y4 then (k1 true) else (bnd1 (m_slices_Contains_L_int_int a1 1) (fun y5 => k1 y5))))
/- cspcheck.alphabet.Keep$1 -/
noncomputable def m_alphabet_Keep_1 (a0 : Int) (a1 : List (Int × Int)) (a2 : List Int) : Option Bool :=
  bnd1 (m_alphabet_beaten a1 a2 a0) (fun y1 => some y1)
/- slices.IndexFunc(()int,int) -/
noncomputable def m_slices_IndexFunc_L_int_int_B2 (a0 : List Int) (a1 : Int → Option Bool) (k1 : Unit → Option Int) (rec2 : Int → Option Int) (x8_l2 : Int) : Option Int :=
  if x8_l2 < (List.length a0 : Int) then (need ((0 : Int) ≤ x8_l2 ∧ x8_l2 < (List.length a0 : Int)) (bnd1 (a1 (gi a0 x8_l2)) (fun y14 => if y14 then (some x8_l2) else (rec2 (i64 (x8_l2 + 1)))))) else (k1 ())
noncomputable def m_slices_IndexFunc_L_int_int_L2 (a0 : List Int) (a1 : Int → Option Bool) (k1 : Unit → Option Int) : Nat → Int → Option Int
  | 0, _ => none
  | n + 1, x8_l2 => m_slices_IndexFunc_L_int_int_B2 a0 a1 k1 (m_slices_IndexFunc_L_int_int_L2 a0 a1 k1 n) x8_l2
noncomputable def m_slices_IndexFunc_L_int_int (a0 : List Int) (a1 : Int → Option Bool) : Option Int :=
  jn (fun (_ : Unit) => some (-1)) (fun k1 => m_slices_IndexFunc_L_int_int_L2 a0 a1 k1 FU 0)
/- slices.DeleteFunc(()int,int) -/
noncomputable def m_slices_DeleteFunc_L_int_int_B2 (a1 : Int → Option Bool) (k2 : (List Int) → Int → Option (List Int)) (rec2 : (List Int) → Int → Int → Option (List Int)) (x0_l2 : List Int) (x5_l2 : Int) (x6_l2 : Int) : Option (List Int) :=
  if x6_l2 < (List.length x0_l2 : Int) then (jn (fun (x0_j39 : List Int) (x5_j39 : Int) => rec2 x0_j39 x5_j39 (i64 (x6_l2 + 1))) (fun k39 => need ((0 : Int) ≤ x6_l2 ∧ x6_l2 < (List.length x0_l2 : Int)) (bnd1 (a1 (gi x0_l2 x6_l2)) (fun y44 => if !y44 then (need ((0 : Int) ≤ x5_l2 ∧ x5_l2 < (List.length x0_l2 : Int)) (k39 (List.set x0_l2 (Int.toNat x5_l2) (gi x0_l2 x6_l2)) (i64 (x5_l2 + 1)))) else (k39 x0_l2 x5_l2))))) else (k2 x0_l2 x5_l2)
noncomputable def m_slices_DeleteFunc_L_int_int_L2 (a1 : Int → Option Bool) (k2 : (List Int) → Int → Option (List Int)) : Nat → (List Int) → Int → Int → Option (List Int)
  | 0, _, _, _ => none
  | n + 1, x0_l2, x5_l2, x6_l2 => m_slices_DeleteFunc_L_int_int_B2 a1 k2 (m_slices_DeleteFunc_L_int_int_L2 a1 k2 n) x0_l2 x5_l2 x6_l2
noncomputable def m_slices_DeleteFunc_L_int_int (a0 : List Int) (a1 : Int → Option Bool) : Option (List Int) :=
  bnd1 (m_slices_IndexFunc_L_int_int a0 a1) (fun y1 => if y1 = (-1) then (some a0) else (jn (fun (x0_j2 : List Int) (x5_j2 : Int) => need ((0 : Int) ≤ x5_j2 ∧ x5_j2 ≤ (List.length x0_j2 : Int) ∧ (List.length x0_j2 : Int) ≤ (List.length x0_j2 : Int)) (need ((0 : Int) ≤ x5_j2 ∧ x5_j2 ≤ (List.length (List.take (Int.toNat x5_j2) x0_j2 ++ List.replicate (Int.toNat (List.length x0_j2 : Int) - Int.toNat x5_j2) (0 : Int) ++ List.drop (Int.toNat x5_j2 + (Int.toNat (List.length x0_j2 : Int) - Int.toNat x5_j2)) x0_j2) : Int)) (some (List.take (Int.toNat x5_j2) (List.take (Int.toNat x5_j2) x0_j2 ++ List.replicate (Int.toNat (List.length x0_j2 : Int) - Int.toNat x5_j2) (0 : Int) ++ List.drop (Int.toNat x5_j2 + (Int.toNat (List.length x0_j2 : Int) - Int.toNat x5_j2)) x0_j2))))) (fun k2 => m_slices_DeleteFunc_L_int_int_L2 a1 k2 FU a0 y1 (i64 (y1 + 1)))))
/- slices.Clip(()int,int) -/
noncomputable def m_slices_Clip_L_int_int (a0 : List Int) : Option (List Int) :=
  need (0 ≤ (List.length a0 : Int)) (some (List.take (Int.toNat (List.length a0 : Int)) a0))
/- cspcheck.alphabet.Keep -/
noncomputable def m_alphabet_Keep (a0 : List (Int × Int)) (a1 : List Int) : Option (List Int) :=
  bnd1 (m_slices_Clone_L_int_int a1) (fun y3 => jn (fun (x5_j5 : List Int) => bnd1 (m_slices_Clip_L_int_int x5_j5) (fun y12 => some y12)) (fun k5 => bnd1 (m_alphabet_ValidOrder a0) (fun y9 => if y9 then (bnd1 (m_slices_DeleteFunc_L_int_int y3 (fun (x0 : Int) => m_alphabet_Keep_1 x0 a0 a1)) (fun y10 => k5 y10)) else (k5 y3))))
/- cspcheck.cspcheckref16.Has -/
noncomputable def m_ref16_Has_B2 (a0 : List Int) (a1 : Int) (k1 : Unit → Option Bool) (rec2 : Int → Option Bool) (x5_l2 : Int) : Option Bool :=
  if x5_l2 < (List.length a0 : Int) then (need ((0 : Int) ≤ x5_l2 ∧ x5_l2 < (List.length a0 : Int)) (if (gi a0 x5_l2) = a1 then (some true) else (rec2 (i64 (x5_l2 + 1))))) else (k1 ())
noncomputable def m_ref16_Has_L2 (a0 : List Int) (a1 : Int) (k1 : Unit → Option Bool) : Nat → Int → Option Bool
  | 0, _ => none
  | n + 1, x5_l2 => m_ref16_Has_B2 a0 a1 k1 (m_ref16_Has_L2 a0 a1 k1 n) x5_l2
noncomputable def m_ref16_Has (a0 : List Int) (a1 : Int) : Option Bool :=
  jn (fun (_ : Unit) => some false) (fun k1 => m_ref16_Has_L2 a0 a1 k1 FU 0)
/- cspcheck.cspcheckref16.Keep -/
noncomputable def m_ref16_Keep_B26 (a0 : List (Int × Int)) (a1 : List Int) (x6_l14 : Int) (k1860 : Bool → Option (List Int)) (rec26 : Bool → Int → Option (List Int)) (x7_l26 : Bool) (x8_l26 : Int) : Option (List Int) :=
  if x8_l26 < (List.length a0 : Int) then (jn (fun (x7_j1997 : Bool) => rec26 x7_j1997 (i64 (x8_l26 + 1))) (fun k1997 => jn (fun (x53_j2011 : Bool) => if x53_j2011 then (k1997 false) else (k1997 x7_l26)) (fun k2011 => need ((0 : Int) ≤ x8_l26 ∧ x8_l26 < (List.length a0 : Int)) (need ((0 : Int) ≤ x6_l14 ∧ x6_l14 < (List.length a1 : Int)) (if ((gi a0 x8_l26).1) = (gi a1 x6_l14) then (need ((0 : Int) ≤ x8_l26 ∧ x8_l26 < (List.length a0 : Int)) (bnd1 (m_ref16_Has a1 ((gi a0 x8_l26).2)) (fun y2021 => if y2021 then (k2011 true) else (bnd1 (m_ref16_Has a1 0) (fun y2022 => if y2022 then (k2011 true) else (bnd1 (m_ref16_Has a1 1) (fun y2023 => k2011 y2023))))))) else (k2011 false)))))) else (k1860 x7_l26)
noncomputable def m_ref16_Keep_L26 (a0 : List (Int × Int)) (a1 : List Int) (x6_l14 : Int) (k1860 : Bool → Option (List Int)) : Nat → Bool → Int → Option (List Int)
  | 0, _, _ => none
  | n + 1, x7_l26, x8_l26 => m_ref16_Keep_B26 a0 a1 x6_l14 k1860 (m_ref16_Keep_L26 a0 a1 x6_l14 k1860 n) x7_l26 x8_l26
noncomputable def m_ref16_Keep_B14 (a0 : List (Int × Int)) (a1 : List Int) (k4 : (List Int) → Option (List Int)) (rec14 : (List Int) → Int → Option (List Int)) (x5_l14 : List Int) (x6_l14 : Int) : Option (List Int) :=
  if x6_l14 < (List.length a1 : Int) then (jn (fun (x5_j1691 : List Int) => rec14 x5_j1691 (i64 (x6_l14 + 1))) (fun k1691 => jn (fun (x7_j1860 : Bool) => if x7_j1860 then (need ((0 : Int) ≤ x6_l14 ∧ x6_l14 < (List.length a1 : Int)) (need (List.length x5_l14 + List.length [gi a1 x6_l14] ≤ 137438953472) (k1691 (x5_l14 ++ [gi a1 x6_l14])))) else (k1691 x5_l14)) (fun k1860 => m_ref16_Keep_L26 a0 a1 x6_l14 k1860 FU true 0))) else (k4 x5_l14)
noncomputable def m_ref16_Keep_L14 (a0 : List (Int × Int)) (a1 : List Int) (k4 : (List Int) → Option (List Int)) : Nat → (List Int) → Int → Option (List Int)
  | 0, _, _ => none
  | n + 1, x5_l14, x6_l14 => m_ref16_Keep_B14 a0 a1 k4 (m_ref16_Keep_L14 a0 a1 k4 n) x5_l14 x6_l14
noncomputable def m_ref16_Keep (a0 : List (Int × Int)) (a1 : List Int) : Option (List Int) :=
  bnd1 (m_ref16_ValidOrder a0) (fun y1 => if !y1 then (need (List.length a1 ≤ 137438953472) (some a1)) else (jn (fun (x5_j4 : List Int) => some x5_j4) (fun k4 => m_ref16_Keep_L14 a0 a1 k4 FU [] 0)))
/- cspcheck.cspcheckhelp.Equal(int) -/
noncomputable def m_help_Equal_int_B2 (a0 : List Int) (a1 : List Int) (k1 : Unit → Option Bool) (rec2 : Int → Option Bool) (x5_l2 : Int) : Option Bool :=
  if x5_l2 < (List.length a0 : Int) then (need ((0 : Int) ≤ x5_l2 ∧ x5_l2 < (List.length a0 : Int)) (need ((0 : Int) ≤ x5_l2 ∧ x5_l2 < (List.length a1 : Int)) (if ¬ (gi a0 x5_l2) = (gi a1 x5_l2) then (some false) else (rec2 (i64 (x5_l2 + 1)))))) else (k1 ())
noncomputable def m_help_Equal_int_L2 (a0 : List Int) (a1 : List Int) (k1 : Unit → Option Bool) : Nat → Int → Option Bool
  | 0, _ => none
  | n + 1, x5_l2 => m_help_Equal_int_B2 a0 a1 k1 (m_help_Equal_int_L2 a0 a1 k1 n) x5_l2
noncomputable def m_help_Equal_int (a0 : List Int) (a1 : List Int) : Option Bool :=
  if ¬ (List.length a0 : Int) = (List.length a1 : Int) then (some false) else (jn (fun (_ : Unit) => some true) (fun k1 => m_help_Equal_int_L2 a0 a1 k1 FU 0))
/- (*cspcheck.cspcheckgen.Choices).Order -/
noncomputable def m_gen_Choices_Order_B2 (k1 : (List Int) → Int → (List (Int × Int)) → Option ((List (Int × Int)) × ((List Int) × Int))) (rec2 : (List Int) → Int → (List (Int × Int)) → Int → Option ((List (Int × Int)) × ((List Int) × Int))) (x0_0_l2 : List Int) (x0_1_l2 : Int) (x3_l2 : List (Int × Int)) (x4_l2 : Int) : Option ((List (Int × Int)) × ((List Int) × Int)) :=
  if 0 < x4_l2 then (jn (fun (x0_0_j50 : List Int) (x0_1_j50 : Int) (x3_j50 : List (Int × Int)) => rec2 x0_0_j50 x0_1_j50 x3_j50 (i64 (x4_l2 - 1))) (fun k50 => bnd1 (m_gen_Choices_Event (x0_0_l2, x0_1_l2)) (fun y55 => bnd1 (m_gen_Choices_Event (y55.2.1, y55.2.2)) (fun y56 => if ¬ y55.1 = y56.1 then (need (List.length x3_l2 + List.length [(min y55.1 y56.1, max y55.1 y56.1)] ≤ 137438953472) (k50 y56.2.1 y56.2.2 (x3_l2 ++ [(min y55.1 y56.1, max y55.1 y56.1)]))) else (k50 y56.2.1 y56.2.2 x3_l2))))) else (k1 x0_0_l2 x0_1_l2 x3_l2)
noncomputable def m_gen_Choices_Order_L2 (k1 : (List Int) → Int → (List (Int × Int)) → Option ((List (Int × Int)) × ((List Int) × Int))) : Nat → (List Int) → Int → (List (Int × Int)) → Int → Option ((List (Int × Int)) × ((List Int) × Int))
  | 0, _, _, _, _ => none
  | n + 1, x0_0_l2, x0_1_l2, x3_l2, x4_l2 => m_gen_Choices_Order_B2 k1 (m_gen_Choices_Order_L2 k1 n) x0_0_l2 x0_1_l2 x3_l2 x4_l2
noncomputable def m_gen_Choices_Order (a0 : (List Int) × Int) : Option ((List (Int × Int)) × ((List Int) × Int)) :=
  jn (fun (x0_0_j1 : List Int) (x0_1_j1 : Int) (x3_j1 : List (Int × Int)) => bnd1 (m_rclose m_ref16_Relation x3_j1) (fun y59 => some (y59.1, (x0_0_j1, x0_1_j1)))) (fun k1 => bnd1 (m_gen_Choices_Next (a0.1, a0.2) 4) (fun y31 => m_gen_Choices_Order_L2 k1 FU y31.2.1 y31.2.2 [] y31.1))
/- cspcheck.cspchecklaw15.near -/
noncomputable def m_law15_near_B2 (a0 : List Int) (k1 : (List Int) → Option (List Int)) (rec2 : (List Int) → Int → Option (List Int)) (x3_l2 : List Int) (x4_l2 : Int) : Option (List Int) :=
  jn (fun (x13_j135 : Bool) => if x13_j135 then (jn (fun (x3_j136 : List Int) => rec2 x3_j136 (i64 (x4_l2 + 1))) (fun k136 => need ((0 : Int) ≤ x4_l2 ∧ x4_l2 < (List.length a0 : Int)) (bnd1 (m_help_Mod (gi a0 x4_l2) 12) (fun y149 => if y149 < 9 then (need (List.length x3_l2 + List.length [y149] ≤ 137438953472) (k136 (x3_l2 ++ [y149]))) else (if y149 = 9 then (need (List.length x3_l2 + List.length [1025] ≤ 137438953472) (k136 (x3_l2 ++ [1025]))) else (if y149 = 10 then (need (List.length x3_l2 + List.length [1026] ≤ 137438953472) (k136 (x3_l2 ++ [1026]))) else (need ((0 : Int) ≤ x4_l2 ∧ x4_l2 < (List.length a0 : Int)) (need (List.length x3_l2 + List.length [gi a0 x4_l2] ≤ 137438953472) (k136 (x3_l2 ++ [gi a0 x4_l2])))))))))) else (k1 x3_l2)) (fun k135 => if x4_l2 < (List.length a0 : Int) then (k135 (decide (x4_l2 < 40))) else (k135 false))
noncomputable def m_law15_near_L2 (a0 : List Int) (k1 : (List Int) → Option (List Int)) : Nat → (List Int) → Int → Option (List Int)
  | 0, _, _ => none
  | n + 1, x3_l2, x4_l2 => m_law15_near_B2 a0 k1 (m_law15_near_L2 a0 k1 n) x3_l2 x4_l2
noncomputable def m_law15_near (a0 : List Int) : Option (List Int) :=
  jn (fun (x3_j1 : List Int) => some x3_j1) (fun k1 => m_law15_near_L2 a0 k1 FU [] 0)
/- cspcheck.alphabet.comparePairs -/
noncomputable def m_alphabet_comparePairs (a0 : Int × Int) (a1 : Int × Int) : Option Int :=
  bnd1 (m_cmp_Compare_int a0.1 a1.1) (fun y1 => bnd1 (m_cmp_Compare_int a0.2 a1.2) (fun y2 => bnd1 (m_cmp_Or_int [y1, y2]) (fun y3 => some y3)))
/- slices.Compact(()cspcheck.api.Pair,cspcheck.api.Pair) -/
noncomputable def m_slices_Compact_L_api_Pair_api_Pair_B26 (a0 : List (Int × Int)) (x3_l14 : Int) (k694 : (List (Int × Int)) → Int → Option (List (Int × Int))) (rec26 : (List (Int × Int)) → Int → Int → Option (List (Int × Int))) (x0_l26 : List (Int × Int)) (x3_l26 : Int) (x5_l26 : Int) : Option (List (Int × Int)) :=
  if x5_l26 < ((Int.toNat (List.length a0 : Int) - Int.toNat x3_l14 : Nat) : Int) then (jn (fun (x0_j741 : List (Int × Int)) (x3_j741 : Int) => rec26 x0_j741 x3_j741 (i64 (x5_l26 + 1))) (fun k741 => need ((0 : Int) ≤ x3_l14 ∧ (0 : Int) ≤ x5_l26 ∧ x5_l26 < (List.length a0 : Int) - x3_l14 ∧ (0 : Int) ≤ (x3_l14 + x5_l26) ∧ (x3_l14 + x5_l26) < (List.length x0_l26 : Int)) (need ((0 : Int) ≤ x3_l14 ∧ (0 : Int) ≤ i64 (x5_l26 - 1) ∧ (i64 (x5_l26 - 1)) < (List.length a0 : Int) - x3_l14 ∧ (0 : Int) ≤ (x3_l14 + (i64 (x5_l26 - 1))) ∧ (x3_l14 + (i64 (x5_l26 - 1))) < (List.length x0_l26 : Int)) (if ¬ (gi x0_l26 (x3_l14 + x5_l26)) = (gi x0_l26 (x3_l14 + (i64 (x5_l26 - 1)))) then (need ((0 : Int) ≤ x3_l14 ∧ (0 : Int) ≤ x5_l26 ∧ x5_l26 < (List.length a0 : Int) - x3_l14 ∧ (0 : Int) ≤ (x3_l14 + x5_l26) ∧ (x3_l14 + x5_l26) < (List.length x0_l26 : Int)) (need ((0 : Int) ≤ x3_l26 ∧ x3_l26 < (List.length x0_l26 : Int)) (k741 (List.set x0_l26 (Int.toNat x3_l26) (gi x0_l26 (x3_l14 + x5_l26))) (i64 (x3_l26 + 1))))) else (k741 x0_l26 x3_l26))))) else (k694 x0_l26 x3_l26)
noncomputable def m_slices_Compact_L_api_Pair_api_Pair_L26 (a0 : List (Int × Int)) (x3_l14 : Int) (k694 : (List (Int × Int)) → Int → Option (List (Int × Int))) : Nat → (List (Int × Int)) → Int → Int → Option (List (Int × Int))
  | 0, _, _, _ => none
  | n + 1, x0_l26, x3_l26, x5_l26 => m_slices_Compact_L_api_Pair_api_Pair_B26 a0 x3_l14 k694 (m_slices_Compact_L_api_Pair_api_Pair_L26 a0 x3_l14 k694 n) x0_l26 x3_l26 x5_l26
noncomputable def m_slices_Compact_L_api_Pair_api_Pair_B14 (a0 : List (Int × Int)) (k1 : Unit → Option (List (Int × Int))) (rec14 : Int → Option (List (Int × Int))) (x3_l14 : Int) : Option (List (Int × Int)) :=
  if x3_l14 < (List.length a0 : Int) then (jn (fun (_ : Unit) => rec14 (i64 (x3_l14 + 1))) (fun k628 => need ((0 : Int) ≤ x3_l14 ∧ x3_l14 < (List.length a0 : Int)) (need ((0 : Int) ≤ i64 (x3_l14 - 1) ∧ (i64 (x3_l14 - 1)) < (List.length a0 : Int)) (if (gi a0 x3_l14) = (gi a0 (i64 (x3_l14 - 1))) then (need ((0 : Int) ≤ x3_l14 ∧ x3_l14 ≤ (List.length a0 : Int) ∧ (List.length a0 : Int) ≤ (List.length a0 : Int)) (jn (fun (x0_j694 : List (Int × Int)) (x3_j694 : Int) => need ((0 : Int) ≤ x3_j694 ∧ x3_j694 ≤ (List.length x0_j694 : Int) ∧ (List.length x0_j694 : Int) ≤ (List.length x0_j694 : Int)) (need (0 ≤ x3_j694 ∧ x3_j694 ≤ (List.length (List.take (Int.toNat x3_j694) x0_j694 ++ List.replicate (Int.toNat (List.length x0_j694 : Int) - Int.toNat x3_j694) ((0, 0) : Int × Int) ++ List.drop (Int.toNat x3_j694 + (Int.toNat (List.length x0_j694 : Int) - Int.toNat x3_j694)) x0_j694) : Int)) (some (List.take (Int.toNat x3_j694) (List.take (Int.toNat x3_j694) x0_j694 ++ List.replicate (Int.toNat (List.length x0_j694 : Int) - Int.toNat x3_j694) ((0, 0) : Int × Int) ++ List.drop (Int.toNat x3_j694 + (Int.toNat (List.length x0_j694 : Int) - Int.toNat x3_j694)) x0_j694))))) (fun k694 => m_slices_Compact_L_api_Pair_api_Pair_L26 a0 x3_l14 k694 FU a0 x3_l14 1))) else (k628 ()))))) else (k1 ())
noncomputable def m_slices_Compact_L_api_Pair_api_Pair_L14 (a0 : List (Int × Int)) (k1 : Unit → Option (List (Int × Int))) : Nat → Int → Option (List (Int × Int))
  | 0, _ => none
  | n + 1, x3_l14 => m_slices_Compact_L_api_Pair_api_Pair_B14 a0 k1 (m_slices_Compact_L_api_Pair_api_Pair_L14 a0 k1 n) x3_l14
noncomputable def m_slices_Compact_L_api_Pair_api_Pair (a0 : List (Int × Int)) : Option (List (Int × Int)) :=
  if (List.length a0 : Int) < 2 then (some a0) else (jn (fun (_ : Unit) => some a0) (fun k1 => m_slices_Compact_L_api_Pair_api_Pair_L14 a0 k1 FU 1))
/- slices.Clip(()cspcheck.api.Pair,cspcheck.api.Pair) -/
noncomputable def m_slices_Clip_L_api_Pair_api_Pair (a0 : List (Int × Int)) : Option (List (Int × Int)) :=
  need (0 ≤ (List.length a0 : Int)) (some (List.take (Int.toNat (List.length a0 : Int)) a0))
/- cspcheck.alphabet.Relation -/
noncomputable def m_alphabet_Relation_B2 (a0 : List (Int × Int)) (k1 : (List (Int × Int)) → Option (List (Int × Int))) (rec2 : (List (Int × Int)) → Int → Option (List (Int × Int))) (x3_l2 : List (Int × Int)) (x8_l2 : Int) : Option (List (Int × Int)) :=
  if x8_l2 < (List.length a0 : Int) then (jn (fun (x3_j98 : List (Int × Int)) => rec2 x3_j98 (i64 (x8_l2 + 1))) (fun k98 => need ((0 : Int) ≤ x8_l2 ∧ x8_l2 < (List.length a0 : Int)) (jn (fun (x19_j110 : Bool) => if x19_j110 then (need (List.length x3_l2 + List.length [((gi a0 x8_l2).1, (gi a0 x8_l2).2)] ≤ 137438953472) (k98 (x3_l2 ++ [((gi a0 x8_l2).1, (gi a0 x8_l2).2)]))) else (k98 x3_l2)) (fun k110 => bnd1 (m_alphabet_visible ((gi a0 x8_l2).1)) (fun y113 => if y113 then (bnd1 (m_alphabet_visible ((gi a0 x8_l2).2)) (fun y114 => k110 y114)) else (k110 false)))))) else (k1 x3_l2)
noncomputable def m_alphabet_Relation_L2 (a0 : List (Int × Int)) (k1 : (List (Int × Int)) → Option (List (Int × Int))) : Nat → (List (Int × Int)) → Int → Option (List (Int × Int))
  | 0, _, _ => none
  | n + 1, x3_l2, x8_l2 => m_alphabet_Relation_B2 a0 k1 (m_alphabet_Relation_L2 a0 k1 n) x3_l2 x8_l2
noncomputable def m_alphabet_Relation (a0 : List (Int × Int)) : Option (List (Int × Int)) :=
  jn (fun (x3_j1 : List (Int × Int)) => bnd1 (m_sortby m_alphabet_comparePairs x3_j1) (fun y117 => bnd1 (m_slices_Compact_L_api_Pair_api_Pair y117) (fun y118 => bnd1 (m_slices_Clip_L_api_Pair_api_Pair y118) (fun y119 => some y119)))) (fun k1 => m_alphabet_Relation_L2 a0 k1 FU [] 0)
/- cspcheck.alphabet.Image -/
noncomputable def m_alphabet_Image_B2 (a1 : Int) (k1 : (List Int) → Option (List Int)) (y31 : (List (Int × Int))) (rec2 : (List Int) → Int → Option (List Int)) (x5_l2 : List Int) (x11_l2 : Int) : Option (List Int) :=
  if x11_l2 < (List.length y31 : Int) then (jn (fun (x5_j50 : List Int) => rec2 x5_j50 (i64 (x11_l2 + 1))) (fun k50 => need ((0 : Int) ≤ x11_l2 ∧ x11_l2 < (List.length y31 : Int)) (if ((gi y31 x11_l2).1) = a1 then (need (List.length x5_l2 + List.length [(gi y31 x11_l2).2] ≤ 137438953472) (k50 (x5_l2 ++ [(gi y31 x11_l2).2]))) else (k50 x5_l2)))) else (k1 x5_l2)
noncomputable def m_alphabet_Image_L2 (a1 : Int) (k1 : (List Int) → Option (List Int)) (y31 : (List (Int × Int))) : Nat → (List Int) → Int → Option (List Int)
  | 0, _, _ => none
  | n + 1, x5_l2, x11_l2 => m_alphabet_Image_B2 a1 k1 y31 (m_alphabet_Image_L2 a1 k1 y31 n) x5_l2 x11_l2
noncomputable def m_alphabet_Image (a0 : List (Int × Int)) (a1 : Int) : Option (List Int) :=
  jn (fun (x5_j1 : List Int) => if (List.length x5_j1 : Int) = 0 then (some [a1]) else (bnd1 (m_slices_Clip_L_int_int x5_j1) (fun y59 => some y59))) (fun k1 => bnd1 (m_alphabet_Relation a0) (fun y31 => m_alphabet_Image_L2 a1 k1 y31 FU [] 0))
/- cspcheck.cspchecklaw15.awake -/
noncomputable def m_law15_awake  : Option Bool :=
  bnd1 (m_close [(3, 4), (2, 3)]) (fun y1 => jn (fun (x0_j2 : Bool) => some x0_j2) (fun k2 => bnd1 (m_alphabet_Image [(2, 3), (2, 5)] 2) (fun y9 => bnd1 (m_help_Equal_int y9 [3, 5]) (fun y10 => if y10 then (bnd1 (m_alphabet_Image [(2, 3), (2, 5)] 4) (fun y11 => bnd1 (m_help_Equal_int y11 [4]) (fun y12 => if y12 then (if y1.2 = 0 then (if (List.length y1.1 : Int) = 3 then (bnd1 (m_alphabet_Keep y1.1 [0, 2, 5]) (fun y13 => bnd1 (m_help_Equal_int y13 [0, 5]) (fun y14 => k2 y14))) else (k2 false)) else (k2 false)) else (k2 false)))) else (k2 false)))))
/- cspcheck.cspchecklaw15.AlphabetOrders -/
noncomputable def m_law15_AlphabetOrders_B2 (k3 : (List Int) → Int → (List (Int × Int)) → Option Bool) (rec2 : (List Int) → Int → (List (Int × Int)) → Int → Option Bool) (x7_0_l2 : List Int) (x7_1_l2 : Int) (x8_l2 : List (Int × Int)) (x9_l2 : Int) : Option Bool :=
  if 0 < x9_l2 then (bnd1 (m_gen_Choices_Event (x7_0_l2, x7_1_l2)) (fun y27 => bnd1 (m_gen_Choices_Event (y27.2.1, y27.2.2)) (fun y28 => need (List.length x8_l2 + List.length [(y27.1, y28.1)] ≤ 137438953472) (rec2 y28.2.1 y28.2.2 (x8_l2 ++ [(y27.1, y28.1)]) (i64 (x9_l2 - 1)))))) else (k3 x7_0_l2 x7_1_l2 x8_l2)
noncomputable def m_law15_AlphabetOrders_L2 (k3 : (List Int) → Int → (List (Int × Int)) → Option Bool) : Nat → (List Int) → Int → (List (Int × Int)) → Int → Option Bool
  | 0, _, _, _, _ => none
  | n + 1, x7_0_l2, x7_1_l2, x8_l2, x9_l2 => m_law15_AlphabetOrders_B2 k3 (m_law15_AlphabetOrders_L2 k3 n) x7_0_l2 x7_1_l2 x8_l2 x9_l2
noncomputable def m_law15_AlphabetOrders_B4 (k31 : Unit → Option Bool) (rec4 : (List (Int × Int)) → (List Int) → (List Int) → Int → (List (Int × Int)) → Int → Option Bool) (x0_l4 : List (Int × Int)) (x1_l4 : List Int) (x7_0_l4 : List Int) (x7_1_l4 : Int) (x8_l4 : List (Int × Int)) (x10_l4 : Int) : Option Bool :=
  if x10_l4 < 3 then (bnd1 (m_close x0_l4) (fun y402 => bnd1 (m_rclose m_ref16_Relation x0_l4) (fun y403 => jn (fun (x70_j418 : Bool) => if x70_j418 then (some false) else (jn (fun (x0_j431 : List (Int × Int)) (x7_0_j431 : List Int) (x7_1_j431 : Int) => bnd1 (m_law15_near x1_l4) (fun y434 => rec4 x0_j431 y434 x7_0_j431 x7_1_j431 x8_l4 (i64 (x10_l4 + 1)))) (fun k431 => if x10_l4 = 0 then (k431 x8_l4 x7_0_l4 x7_1_l4) else (bnd1 (m_gen_Choices_Order (x7_0_l4, x7_1_l4)) (fun y433 => k431 y433.1 y433.2.1 y433.2.2))))) (fun k418 => bnd1 (m_help_Equal_api_Above y402.1 y403.1) (fun y425 => if !y425 then (k418 true) else (if ¬ y402.2 = y403.2 then (k418 true) else (bnd1 (m_alphabet_ValidOrder x0_l4) (fun y426 => bnd1 (m_ref16_ValidOrder x0_l4) (fun y427 => if ¬ y426 = y427 then (k418 true) else (bnd1 (m_alphabet_Keep x0_l4 x1_l4) (fun y428 => bnd1 (m_ref16_Keep x0_l4 x1_l4) (fun y429 => bnd1 (m_help_Equal_int y428 y429) (fun y430 => k418 (!y430)))))))))))))) else (k31 ())
noncomputable def m_law15_AlphabetOrders_L4 (k31 : Unit → Option Bool) : Nat → (List (Int × Int)) → (List Int) → (List Int) → Int → (List (Int × Int)) → Int → Option Bool
  | 0, _, _, _, _, _, _ => none
  | n + 1, x0_l4, x1_l4, x7_0_l4, x7_1_l4, x8_l4, x10_l4 => m_law15_AlphabetOrders_B4 k31 (m_law15_AlphabetOrders_L4 k31 n) x0_l4 x1_l4 x7_0_l4 x7_1_l4 x8_l4 x10_l4
noncomputable def m_law15_AlphabetOrders (a0 : List (Int × Int)) (a1 : List Int) (a2 : List Int) : Option Bool :=
  bnd1 (m_gen_New a2) (fun y1 => jn (fun (x7_0_j3 : List Int) (x7_1_j3 : Int) (x8_j3 : List (Int × Int)) => jn (fun (_ : Unit) => bnd1 (m_law15_awake) (fun y435 => some y435)) (fun k31 => m_law15_AlphabetOrders_L4 k31 FU a0 a1 x7_0_j3 x7_1_j3 x8_j3 0)) (fun k3 => bnd1 (m_gen_Choices_Next (y1.1, y1.2) 6) (fun y18 => m_law15_AlphabetOrders_L2 k3 FU y18.2.1 y18.2.2 [] y18.1)))
/- cspcheck.cspcheckhelp.Has(cspcheck.api.Above) -/
/- cspcheck.cspchecklaw15.AlphabetCloses -/
/- cspcheck.cspcheckhelp.Has(int) -/
/- cspcheck.cspchecklaw15.AlphabetKeeps -/
/- slices.Equal(()cspcheck.api.Pair,cspcheck.api.Pair) -/
/- cspcheck.alphabet.ValidRelation -/
/- cspcheck.cspcheckref16.ValidRelation -/
/- cspcheck.cspcheckhelp.Equal(cspcheck.api.Pair) -/
/- cspcheck.cspcheckref16.Set -/
/- cspcheck.cspcheckref16.Image -/
/- cspcheck.alphabet.Compose$1 -/
/- slices.IndexFunc(()cspcheck.api.Pair,cspcheck.api.Pair) -/
/- slices.ContainsFunc(()cspcheck.api.Pair,cspcheck.api.Pair) -/
/- cspcheck.alphabet.Compose -/
/- cspcheck.cspcheckref16.Compose -/
/- cspcheck.alphabet.Inverse -/
/- cspcheck.cspcheckref16.Inverse -/
/- (*cspcheck.cspcheckgen.Choices).Pairs -/
/- cspcheck.cspchecklaw15.AlphabetRelations -/
/- slices.Compact(()int,int) -/
/- cspcheck.alphabet.Set -/
/- cspcheck.alphabet.merge -/
/- cspcheck.alphabet.Union$1 -/
/- cspcheck.alphabet.Union -/
/- cspcheck.alphabet.Inter$1 -/
/- cspcheck.alphabet.Inter -/
/- cspcheck.alphabet.Diff$1 -/
/- cspcheck.alphabet.Diff -/
/- cspcheck.alphabet.Has -/
/- cspcheck.cspchecklaw15.AlphabetSetAlgebra -/
/- cspcheck.cspchecklaw15.AlphabetComposes -/
/- slices.Equal(()int,int) -/
/- cspcheck.alphabet.ValidSet -/
/- cspcheck.cspcheckref16.ValidSet -/
/- cspcheck.cspcheckref16.Union -/
/- cspcheck.cspcheckref16.Inter -/
/- cspcheck.cspcheckref16.Diff -/
/- cspcheck.cspchecklaw15.AlphabetSets -/
end Go.Proofs.Ytkbbeeeoogjknaa
/- Laws of the words of the models, and of bytes: no program in sight. -/
namespace Go.Proofs.Ytkbbeeeoogjknaa

theorem jn_eq {κ ρ : Type} (k : κ) (m : κ → ρ) : jn k m = m k := by
  have h : jn k m = m k := rfl
  exact h
theorem bnd1_mk {α ρ : Type} (a : α) (k : α → Option ρ) : bnd1 (some a) k = k a := by
  have h : bnd1 (some a) k = k a := rfl
  exact h
theorem FU_ge : 4611686018427387904 ≤ FU := Nat.le_refl _
theorem wrap_i64 (x : Int) (h : -9223372036854775808 ≤ x ∧ x ≤ 9223372036854775807) : IntKind.i64.wrap x = x := i64_id h
end Go.Proofs.Ytkbbeeeoogjknaa
/- Loops over lists. -/
namespace Go.Proofs.Ytkbbeeeoogjknaa
attribute [local irreducible] FU

/-- A loop over a list with what goes on behind it. -/
def foldK {σ α ρ : Type} (f : σ → α → (σ → Option ρ) → Option ρ) (K : σ → Option ρ) : List α → σ → Option ρ
  | [], s => K s
  | x :: xs, s => f s x (fun s' => foldK f K xs s')
theorem i64_succ {i : Nat} (h : i < 4611686018427387904) : i64 ((i : Int) + 1) = ((i + 1 : Nat) : Int) := by rw [i64_id (by omega)]; omega
theorem i64_sub1 {i : Nat} (h : i < 4611686018427387904) : i64 ((i : Int) - 1) = (i : Int) - 1 := i64_id (by omega)
theorem loop_fold {σ α ρ : Type} (l : List α) (L : Nat → σ → Int → Option ρ) (f : σ → α → (σ → Option ρ) → Option ρ) (K : σ → Option ρ)
    (hs : ∀ n s (i : Nat) (h : i < l.length), L (n + 1) s (i : Int) = f s l[i] (fun s' => L n s' ((i + 1 : Nat) : Int))) (he : ∀ n s, L (n + 1) s (l.length : Int) = K s) :
    ∀ (m i n : Nat) (s : σ), i + m = l.length → m < n → L n s (i : Int) = foldK f K (l.drop i) s := by
  intro m
  induction m with
  | zero =>
    intro i n s hi h
    obtain ⟨n, rfl⟩ : ∃ k, n = k + 1 := ⟨n - 1, by omega⟩
    obtain rfl : i = l.length := by omega
    rw [he, List.drop_length]; rfl
  | succ m ih =>
    intro i n s hi h
    obtain ⟨n, rfl⟩ : ∃ k, n = k + 1 := ⟨n - 1, by omega⟩
    rw [hs n s i (by omega), List.drop_eq_getElem_cons (show i < l.length by omega), foldK]
    congr 1
    funext s'
    exact ih (i + 1) n s' (by omega) (by omega)
theorem loop_all {σ α ρ : Type} (l : List α) (hl : l.length < 4611686018427387904) (L : Nat → σ → Int → Option ρ) (f : σ → α → (σ → Option ρ) → Option ρ) (K : σ → Option ρ)
    (hs : ∀ n s (i : Nat) (h : i < l.length), L (n + 1) s (i : Int) = f s l[i] (fun s' => L n s' ((i + 1 : Nat) : Int))) (he : ∀ n s, L (n + 1) s (l.length : Int) = K s) (s : σ) :
    L FU s 0 = foldK f K l s := by
  have := FU_ge
  exact loop_fold l L f K hs he l.length 0 FU s (by omega) (by omega)
theorem foldK_any {σ α ρ : Type} (p : α → Bool) (R : Option ρ) (K : σ → Option ρ) (s : σ) : ∀ l : List α, foldK (fun s x k => if p x then R else k s) K l s = if l.any p then R else K s
  | [] => rfl
  | x :: xs => by
    rw [foldK]
    cases hp : p x with
    | true => simp [hp]
    | false => simp only [Bool.false_eq_true, if_false, List.any_cons, hp, Bool.false_or]; exact foldK_any p R K s xs
/-- What is kept is appended. -/
theorem foldK_app {α β ρ : Type} (p : α → Bool) (g : α → β) (K : List β → Option ρ) : ∀ (l : List α) (r : List β), r.length + l.length ≤ 137438953472 →
    foldK (fun r x k => if p x then need (List.length r + 1 ≤ 137438953472) (k (r ++ [g x])) else k r) K l r = K (r ++ (l.filter p).map g)
  | [], r, _ => by simp [foldK]
  | x :: xs, r, h => by
    simp only [List.length_cons] at h
    rw [foldK]
    cases hp : p x with
    | true => simp only [if_true]; rw [need_pos (by omega), foldK_app p g K xs _ (by simp; omega)]; simp [hp]
    | false => simp only [Bool.false_eq_true, if_false]; rw [foldK_app p g K xs r (by omega)]; simp [hp]

/-! ### Without repetitions -/
section
variable {α : Type} [DecidableEq α]
def cstep (r : List α) (x : α) : List α := if r.getLast? = some x then r else r ++ [x]
/-- Without what equals what stands before it. -/
def compactL (l : List α) : List α := l.foldl cstep []
theorem compactL_snoc (l : List α) (x : α) : compactL (l ++ [x]) = cstep (compactL l) x := by simp [compactL]
theorem compactL_last (l : List α) : (compactL l).getLast? = l.getLast? := by
  rcases List.eq_nil_or_concat l with rfl | ⟨t, x, rfl⟩
  · rfl
  · rw [List.concat_eq_append, compactL_snoc, cstep]
    split
    · rename_i h; rw [h]; simp
    · simp
theorem compactL_mem (l : List α) (x : α) : x ∈ compactL l ↔ x ∈ l := by
  have key : ∀ n (l : List α), l.length = n → (x ∈ compactL l ↔ x ∈ l) := by
    intro n
    induction n with
    | zero => intro l h; have := List.length_eq_zero_iff.1 h; subst this; simp [compactL]
    | succ n ih =>
      intro l h
      rcases List.eq_nil_or_concat l with rfl | ⟨t, y, rfl⟩
      · simp [compactL]
      · rw [List.concat_eq_append] at h ⊢
        simp at h
        rw [compactL_snoc, cstep]
        split
        · rename_i he
          rw [ih t h]
          rw [compactL_last] at he
          have : y ∈ t := List.mem_of_getLast? he
          constructor
          · intro hx; simp [hx]
          · intro hx
            rcases List.mem_append.1 hx with h1 | h1
            · exact h1
            · rw [List.mem_singleton.1 h1]; exact this
        · simp [ih t h]
  exact key l.length l rfl
theorem compactL_sorted {lt : α → α → Prop} (hirr : ∀ a, ¬ lt a a) (ht : ∀ {a b c}, lt a b → lt b c → lt a c) (l : List α) (h : l.Pairwise (fun a b => a = b ∨ lt a b)) : (compactL l).Pairwise lt := by
  have key : ∀ n (l : List α), l.length = n → l.Pairwise (fun a b => a = b ∨ lt a b) → (compactL l).Pairwise lt := by
    intro n
    induction n with
    | zero => intro l h; have := List.length_eq_zero_iff.1 h; subst this; simp [compactL]
    | succ n ih =>
      intro l h hp
      rcases List.eq_nil_or_concat l with rfl | ⟨t, y, rfl⟩
      · simp [compactL]
      · rw [List.concat_eq_append] at h hp ⊢
        simp at h
        obtain ⟨p1, _, p3⟩ := List.pairwise_append.1 hp
        have hc := ih t h p1
        rw [compactL_snoc, cstep]
        split
        · exact hc
        · rename_i hne
          rw [List.pairwise_append]
          refine ⟨hc, by simp, fun a ha b hb => ?_⟩
          obtain rfl := List.mem_singleton.1 hb
          have ha' := (compactL_mem t a).1 ha
          rcases p3 a ha' b (by simp) with h1 | h1
          · subst h1
            exfalso
            rcases List.eq_nil_or_concat t with rfl | ⟨u, z, rfl⟩
            · cases ha'
            · rw [List.concat_eq_append] at *
              have hz : (compactL (u ++ [z])).getLast? = some z := by rw [compactL_last]; simp
              have hza : z ≠ a := fun e => hne (by rw [hz, e])
              have hlast : ∃ v, compactL (u ++ [z]) = v ++ [z] := by
                rcases List.eq_nil_or_concat (compactL (u ++ [z])) with e | ⟨v, q, e⟩
                · rw [e] at hz; cases hz
                · rw [List.concat_eq_append] at e; rw [e] at hz; simp at hz; exact ⟨v, by rw [e, hz]⟩
              obtain ⟨v, hv⟩ := hlast
              rw [hv] at ha hc
              rcases List.mem_append.1 ha with h2 | h2
              · have h3 := (List.pairwise_append.1 hc).2.2 a h2 z (by simp)
                rcases p3 z (by simp) a (by simp) with h4 | h4
                · exact hza h4
                · have : lt a a := ht h3 h4
                  exact hirr _ this
              · exact hza (List.mem_singleton.1 h2).symm
          · exact h1
  exact key l.length l rfl h
end
/-- Two strictly ascending lists of the same members. -/
theorem SL_ext {α : Type} {lt : α → α → Prop} (hirr : ∀ a, ¬ lt a a) (ht : ∀ {a b c}, lt a b → lt b c → lt a c) : ∀ {a b : List α}, a.Pairwise lt → b.Pairwise lt → (∀ x, x ∈ a ↔ x ∈ b) → a = b
  | [], [], _, _, _ => rfl
  | [], y :: b, _, _, h => by have := (h y).2 (by simp); cases this
  | x :: a, [], _, _, h => by have := (h x).1 (by simp); cases this
  | x :: a, y :: b, h1, h2, h => by
    obtain ⟨p1, p2⟩ := List.pairwise_cons.1 h1
    obtain ⟨q1, q2⟩ := List.pairwise_cons.1 h2
    have hxy : x = y := by
      rcases List.mem_cons.1 ((h x).1 (by simp)) with e | e
      · exact e
      · rcases List.mem_cons.1 ((h y).2 (by simp)) with e' | e'
        · exact e'.symm
        · exact absurd (ht (q1 x e) (p1 y e')) (hirr _)
    subst hxy
    congr 1
    refine SL_ext hirr ht p2 q2 fun z => ⟨fun hz => ?_, fun hz => ?_⟩
    · rcases List.mem_cons.1 ((h z).1 (by simp [hz])) with e | e
      · subst e; exact absurd (p1 z hz) (hirr _)
      · exact e
    · rcases List.mem_cons.1 ((h z).2 (by simp [hz])) with e | e
      · subst e; exact absurd (q1 z hz) (hirr _)
      · exact e
end Go.Proofs.Ytkbbeeeoogjknaa
/- Event sets: program and reference. -/
namespace Go.Proofs.Ytkbbeeeoogjknaa
attribute [local irreducible] FU

theorem cCmpZ (a b : Int) : m_cmp_Compare_int a b = some (if a < b then -1 else if b < a then 1 else 0) := by
  unfold m_cmp_Compare_int m_cmp_isNaN_int
  simp only [bnd1_mk]
  by_cases h1 : a < b <;> by_cases h2 : b < a <;> simp [h1, h2, jn_eq, need, bnd1_mk]
theorem or2Z (a b : Int) : m_cmp_Or_int [a, b] = some (if a = 0 then b else a) := by
  obtain ⟨n, hn⟩ : ∃ n, FU = n + 3 := ⟨FU - 3, by have := FU_ge; omega⟩
  unfold m_cmp_Or_int
  rw [hn]
  have w1 : i64 (0 + 1) = 1 := rfl
  have w2 : i64 (1 + 1) = 2 := rfl
  have g0 : gi [a, b] 0 = a := rfl
  have g1 : gi [a, b] 1 = b := rfl
  simp only [jn_eq, m_cmp_Or_int_L2, m_cmp_Or_int_B2, List.length_cons, List.length_nil, w1, w2, g0, g1]
  by_cases h1 : a = 0 <;> by_cases h2 : b = 0 <;> simp [h1, h2, need]
theorem cmpAbove : m_alphabet_compareAbove = pcmp := by
  funext x y
  unfold m_alphabet_compareAbove pcmp
  simp only [cCmpZ, bnd1_mk, or2Z]
  congr 1
  by_cases h1 : x.1 < y.1 <;> by_cases h2 : y.1 < x.1 <;> by_cases h3 : x.2 < y.2 <;> by_cases h4 : y.2 < x.2 <;> simp [h1, h2, h3, h4]
theorem visZ (x : Int) : m_alphabet_visible x = some (decide (cVis x)) := by
  unfold m_alphabet_visible cVis
  simp only [jn_eq]
  by_cases h1 : 2 ≤ x <;> by_cases h2 : x < 1026 <;> simp [h1, h2]
theorem clipZ (xs : List (Int × Int)) : m_slices_Clip_L_api_Above_api_Above xs = some xs := by
  unfold m_slices_Clip_L_api_Above_api_Above
  rw [need_pos (by omega)]; simp

/-! ### Ascending lists of visible events -/
def keyF (p : Int → Bool) : List Int := cKeys.filter p
theorem keyF_mem {p : Int → Bool} {x : Int} : x ∈ keyF p ↔ cVis x ∧ p x = true := by
  unfold keyF; rw [List.mem_filter, cKeys_mem]
theorem cKeys_asc : cKeys.Pairwise (fun a b => a < b) := by
  unfold cKeys
  rw [List.pairwise_map]
  exact List.pairwise_lt_range.imp (fun {a b} h => by show (a : Int) + 2 < (b : Int) + 2; omega)
theorem keyF_asc (p : Int → Bool) : (keyF p).Pairwise (fun a b => a < b) := cKeys_asc.filter _
theorem asc_keyF {l : List Int} {p : Int → Bool} (h : l.Pairwise (fun a b => a < b)) (hm : ∀ x, x ∈ l ↔ cVis x ∧ p x = true) : l = keyF p :=
  SL_ext (lt := fun a b : Int => a < b) (fun a h => by omega) (fun h1 h2 => by omega) h (keyF_asc p) (fun x => by rw [hm, keyF_mem])
theorem keyF_congr {p q : Int → Bool} (h : ∀ x, cVis x → p x = q x) : keyF p = keyF q :=
  asc_keyF (keyF_asc p) (fun x => by
    rw [keyF_mem]
    constructor
    · rintro ⟨h1, h2⟩; exact ⟨h1, by rw [← h x h1]; exact h2⟩
    · rintro ⟨h1, h2⟩; exact ⟨h1, by rw [h x h1]; exact h2⟩)
theorem iClip (l : List Int) : m_slices_Clip_L_int_int l = some l := by
  unfold m_slices_Clip_L_int_int
  rw [need_pos (by omega), Int.toNat_natCast, List.take_length]
theorem hEqualI (a b : List Int) (ha : a.length ≤ 1099511627776) : m_help_Equal_int a b = some (decide (a = b)) := by
  have hFU := FU_ge
  unfold m_help_Equal_int
  by_cases hl : a.length = b.length
  · rw [if_neg (fun h => h (by omega)), jn_eq]
    have loop : ∀ (m i n : Nat), i + m = a.length → m < n → m_help_Equal_int_L2 a b (fun _ => some true) n i = some (decide (a.drop i = b.drop i)) := by
      intro m
      induction m with
      | zero =>
        intro i n hi hn
        obtain ⟨n, rfl⟩ : ∃ q, n = q + 1 := ⟨n - 1, by omega⟩
        rw [m_help_Equal_int_L2, m_help_Equal_int_B2, if_neg (by omega), List.drop_eq_nil_of_le (by omega), List.drop_eq_nil_of_le (by omega)]; rfl
      | succ m ih =>
        intro i n hi hn
        obtain ⟨n, rfl⟩ : ∃ q, n = q + 1 := ⟨n - 1, by omega⟩
        have h1 : i < a.length := by omega
        have h2 : i < b.length := by omega
        rw [m_help_Equal_int_L2, m_help_Equal_int_B2, if_pos (by omega), need_pos (by omega), need_pos (by omega), gi_nat h1, gi_nat h2, List.drop_eq_getElem_cons h1, List.drop_eq_getElem_cons h2]
        by_cases he : a[i] = b[i]
        · rw [if_neg (fun h => h he), i64_succ (by omega), ih (i + 1) n (by omega) (by omega), he]; simp only [List.cons.injEq, true_and]
        · rw [if_pos he, decide_eq_false (fun e => he (List.cons.inj e).1)]
    have := loop a.length 0 FU (by omega) (by omega)
    rw [Int.natCast_zero, List.drop_zero, List.drop_zero] at this
    exact this
  · rw [if_pos (fun h => hl (by omega)), decide_eq_false (fun e => hl (by rw [e]))]
theorem rHasI (l : List Int) (v : Int) (hl : l.length ≤ 137438953472) : m_ref16_Has l v = some (decide (v ∈ l)) := by
  have hFU := FU_ge
  unfold m_ref16_Has
  rw [jn_eq]
  have loop : ∀ (m i n : Nat), i + m = l.length → m < n → m_ref16_Has_L2 l v (fun _ => some false) n i = some (decide (v ∈ l.drop i)) := by
    intro m
    induction m with
    | zero =>
      intro i n hi hn
      obtain ⟨n, rfl⟩ : ∃ q, n = q + 1 := ⟨n - 1, by omega⟩
      rw [m_ref16_Has_L2, m_ref16_Has_B2, if_neg (by omega), List.drop_eq_nil_of_le (by omega)]; rfl
    | succ m ih =>
      intro i n hi hn
      obtain ⟨n, rfl⟩ : ∃ q, n = q + 1 := ⟨n - 1, by omega⟩
      have h1 : i < l.length := by omega
      rw [m_ref16_Has_L2, m_ref16_Has_B2, if_pos (by omega), need_pos (by omega), gi_nat h1, List.drop_eq_getElem_cons h1]
      by_cases he : l[i] = v
      · rw [if_pos he, he, decide_eq_true List.mem_cons_self]
      · rw [if_neg he, i64_succ (by omega), ih (i + 1) n (by omega) (by omega)]
        simp only [List.mem_cons, show (v = l[i]) = False from eq_false (fun h => he h.symm), false_or]
  have := loop l.length 0 FU (by omega) (by omega)
  rw [Int.natCast_zero, List.drop_zero] at this
  exact this

end Go.Proofs.Ytkbbeeeoogjknaa
/- Event sets: the reference, merging, membership. -/
namespace Go.Proofs.Ytkbbeeeoogjknaa
attribute [local irreducible] FU cKeys keyF

theorem rvisZ (x : Int) : m_ref16_Visible x = some (decide (cVis x)) := visZ x
/-! ### The reference's set: a row of flags -/
theorem cKeys_len : cKeys.length = 1024 := by unfold cKeys; simp
/-! ### Merging -/
/-! ### Members -/
theorem index_loop (a : List Int) (v : Int) (ha : a.length ≤ 1000000000) : ∀ (m i n : Nat), i + m = a.length → m < n → ∃ y : Int, m_slices_Index_L_int_int_L2 a v (fun _ => some (-1)) n i = some y ∧ (0 ≤ y ↔ v ∈ a.drop i) := by
  intro m
  induction m with
  | zero =>
    intro i n hi hn
    obtain ⟨n, rfl⟩ : ∃ q, n = q + 1 := ⟨n - 1, by omega⟩
    refine ⟨-1, by rw [m_slices_Index_L_int_int_L2, m_slices_Index_L_int_int_B2, if_neg (by omega)], ?_⟩
    rw [List.drop_eq_nil_of_le (by omega)]; simp
  | succ m ih =>
    intro i n hi hn
    obtain ⟨n, rfl⟩ : ∃ q, n = q + 1 := ⟨n - 1, by omega⟩
    have h1 : i < a.length := by omega
    rw [m_slices_Index_L_int_int_L2, m_slices_Index_L_int_int_B2, if_pos (by omega), need_pos (by omega), gi_nat h1, List.drop_eq_getElem_cons h1]
    by_cases he : v = a[i]
    · rw [if_pos he]
      exact ⟨i, rfl, fun _ => by rw [he]; exact List.mem_cons_self, fun _ => by omega⟩
    · rw [if_neg he, i64_succ (by omega)]
      obtain ⟨y, e, hy⟩ := ih (i + 1) n (by omega) (by omega)
      refine ⟨y, e, ?_⟩
      rw [hy, List.mem_cons]
      exact ⟨.inr, fun h => h.elim (fun h => absurd h he) id⟩
theorem vContains (a : List Int) (v : Int) (ha : a.length ≤ 1000000000) : m_slices_Contains_L_int_int a v = some (decide (v ∈ a)) := by
  have hFU := FU_ge
  unfold m_slices_Contains_L_int_int m_slices_Index_L_int_int
  rw [jn_eq]
  obtain ⟨y, e, hy⟩ := index_loop a v ha a.length 0 FU (by omega) (by omega)
  rw [Int.natCast_zero] at e
  rw [e, bnd1_mk]
  rw [List.drop_zero] at hy
  by_cases h : v ∈ a
  · rw [decide_eq_true h, decide_eq_true (hy.2 h)]
  · rw [decide_eq_false h, decide_eq_false (fun h' => h (hy.1 h'))]
theorem wrap_u64Z (x : Int) : IntKind.u64.wrap x = x % 18446744073709551616 := by
  unfold IntKind.wrap IntKind.bits IntKind.signed
  simp
theorem modZ (a : Int) {n : Int} (h0 : 0 < n) (h1 : n ≤ 1000000000000) : ∃ y, m_help_Mod a n = some y ∧ 0 ≤ y ∧ y < n := by
  have en : IntKind.u64.wrap n = n := by rw [wrap_u64Z]; omega
  have ha := wrap_u64Z a
  have h3 : 0 ≤ Int.tmod (IntKind.u64.wrap a) n := Int.tmod_nonneg _ (by omega)
  have h4 : Int.tmod (IntKind.u64.wrap a) n < n := Int.tmod_lt_of_pos _ h0
  unfold m_help_Mod
  rw [en, need_pos (by omega)]
  exact ⟨_, rfl, by rw [i64_id (by omega)]; exact h3, by rw [i64_id (by omega)]; exact h4⟩
theorem near_loop (a : List Int) : ∀ (m i n : Nat) (out : List Int), 40 - i = m → i ≤ 40 → i ≤ a.length → m < n → out.length = i → ∃ r, m_law15_near_L2 a (fun x => some x) n out i = some r ∧ r.length ≤ 40 := by
  intro m
  induction m with
  | zero =>
    intro i n out hm h40 hia hn ho
    obtain ⟨n, rfl⟩ : ∃ q, n = q + 1 := ⟨n - 1, by omega⟩
    rw [m_law15_near_L2, m_law15_near_B2]
    simp only [jn_eq]
    refine ⟨out, ?_, by omega⟩
    by_cases h : (i : Int) < (a.length : Int)
    · rw [if_pos h, decide_eq_false (by omega)]; simp
    · rw [if_neg h]; simp
  | succ m ih =>
    intro i n out hm h40 hia hn ho
    obtain ⟨n, rfl⟩ : ∃ q, n = q + 1 := ⟨n - 1, by omega⟩
    rw [m_law15_near_L2, m_law15_near_B2]
    simp only [jn_eq]
    by_cases h : (i : Int) < (a.length : Int)
    · obtain ⟨y, e, hy0, hy1⟩ := modZ (gi a i) (n := 12) (by omega) (by omega)
      rw [if_pos h, decide_eq_true (by omega), if_pos rfl, need_pos (by omega), e, bnd1_mk, i64_succ (by omega)]
      have nx : ∀ z : Int, ∃ r, need (List.length out + List.length [z] ≤ 137438953472) (m_law15_near_L2 a (fun x => some x) n (out ++ [z]) ((i + 1 : Nat) : Int)) = some r ∧ r.length ≤ 40 := fun z => by
        rw [need_pos (by simp; omega)]
        exact ih (i + 1) n (out ++ [z]) (by omega) (by omega) (by omega) (by omega) (by simp; omega)
      split
      · exact nx _
      · split
        · exact nx _
        · split
          · exact nx _
          · rw [need_pos (by omega)]; exact nx _
    · refine ⟨out, ?_, by omega⟩
      rw [if_neg h]; simp
theorem vNear (a : List Int) : ∃ r, m_law15_near a = some r ∧ r.length ≤ 40 := by
  have hFU := FU_ge
  unfold m_law15_near
  rw [jn_eq]
  have := near_loop a 40 0 FU [] rfl (by omega) (by omega) (by omega) rfl
  rwa [Int.natCast_zero] at this
end Go.Proofs.Ytkbbeeeoogjknaa
/- Relations between events: program and reference. -/
namespace Go.Proofs.Ytkbbeeeoogjknaa
attribute [local irreducible] FU cKeys keyF

/-! ### Ascending lists of visible pairs -/
def LtQ (p q : Int × Int) : Prop := p.1 < q.1 ∨ (p.1 = q.1 ∧ p.2 < q.2)
theorem LtQ.irr (p : Int × Int) : ¬ LtQ p p := fun h => by unfold LtQ at h; omega
theorem LtQ.tr {a b c : Int × Int} (h1 : LtQ a b) (h2 : LtQ b c) : LtQ a c := by unfold LtQ at *; omega
def pVis (p : Int × Int) : Prop := cVis p.1 ∧ cVis p.2
instance (p : Int × Int) : Decidable (pVis p) := inferInstanceAs (Decidable (_ ∧ _))
def pKeys : List (Int × Int) := cKeys.flatMap (fun k => cKeys.map (fun e => (k, e)))
theorem pKeys_mem {p : Int × Int} : p ∈ pKeys ↔ pVis p := by
  unfold pKeys pVis
  rw [List.mem_flatMap]
  constructor
  · rintro ⟨k, hk, hp⟩
    obtain ⟨e, he, rfl⟩ := List.mem_map.1 hp
    exact ⟨cKeys_mem.1 hk, cKeys_mem.1 he⟩
  · rintro ⟨h1, h2⟩
    exact ⟨_, cKeys_mem.2 h1, List.mem_map.2 ⟨_, cKeys_mem.2 h2, rfl⟩⟩
theorem pKeys_asc : pKeys.Pairwise LtQ := by
  unfold pKeys
  rw [List.pairwise_flatMap]
  refine ⟨fun k _ => ?_, cKeys_asc.imp (fun {a b} hab => ?_)⟩
  · rw [List.pairwise_map]; exact cKeys_asc.imp (fun h => .inr ⟨rfl, h⟩)
  · intro x hx y hy
    obtain ⟨e, _, rfl⟩ := List.mem_map.1 hx
    obtain ⟨e', _, rfl⟩ := List.mem_map.1 hy
    exact .inl hab
theorem flat_len_le {α β : Type} {h : α → List β} {B : Nat} : ∀ {l : List α}, (∀ x ∈ l, (h x).length ≤ B) → (l.flatMap h).length ≤ B * l.length
  | [], _ => by simp
  | x :: l, hb => by
    have h1 := hb x List.mem_cons_self
    have h2 := flat_len_le (l := l) (fun y hy => hb y (List.mem_cons_of_mem _ hy))
    rw [List.flatMap_cons, List.length_append, List.length_cons, Nat.mul_succ]
    omega
theorem pKeys_len : pKeys.length ≤ 1048576 := by
  have := flat_len_le (l := cKeys) (h := fun k => cKeys.map (fun e => (k, e))) (B := 1024) (fun x _ => by rw [List.length_map, cKeys_len]; exact Nat.le_refl _)
  rw [cKeys_len] at this
  exact this
attribute [local irreducible] pKeys
def relF (p : Int × Int → Bool) : List (Int × Int) := pKeys.filter p
theorem relF_mem {p : Int × Int → Bool} {x : Int × Int} : x ∈ relF p ↔ pVis x ∧ p x = true := by unfold relF; rw [List.mem_filter, pKeys_mem]
theorem relF_asc (p : Int × Int → Bool) : (relF p).Pairwise LtQ := by unfold relF; exact pKeys_asc.filter _
theorem relF_len (p : Int × Int → Bool) : (relF p).length ≤ 1048576 := by
  unfold relF; exact Nat.le_trans (List.length_filter_le _ _) pKeys_len
theorem asc_relF {l : List (Int × Int)} {p : Int × Int → Bool} (h : l.Pairwise LtQ) (hm : ∀ x, x ∈ l ↔ pVis x ∧ p x = true) : l = relF p :=
  SL_ext LtQ.irr LtQ.tr h (relF_asc p) (fun x => by rw [hm, relF_mem])
attribute [local irreducible] relF
theorem relF_congr {p q : Int × Int → Bool} (h : ∀ x, pVis x → p x = q x) : relF p = relF q :=
  asc_relF (relF_asc p) (fun x => by
    rw [relF_mem]
    constructor
    · rintro ⟨h1, h2⟩; exact ⟨h1, by rw [← h x h1]; exact h2⟩
    · rintro ⟨h1, h2⟩; exact ⟨h1, by rw [h x h1]; exact h2⟩)
def relZ (a : List (Int × Int)) : List (Int × Int) := relF (fun x => decide (x ∈ a))
theorem relZ_mem {a : List (Int × Int)} {x : Int × Int} : x ∈ relZ a ↔ pVis x ∧ x ∈ a := by unfold relZ; rw [relF_mem, decide_eq_true_iff]
theorem relZ_asc (a : List (Int × Int)) : (relZ a).Pairwise LtQ := relF_asc _
theorem relZ_len (a : List (Int × Int)) : (relZ a).length ≤ 1048576 := relF_len _
theorem relZ_congr {a b : List (Int × Int)} (h : ∀ x, pVis x → (x ∈ a ↔ x ∈ b)) : relZ a = relZ b := relF_congr (fun x hx => by simp only [h x hx])
theorem relZ_relZ (a : List (Int × Int)) : relZ (relZ a) = relZ a := relZ_congr (fun x hx => by rw [relZ_mem]; exact ⟨fun h => h.2, fun h => ⟨hx, h⟩⟩)

theorem m_slices_Compact_L_api_Pair_api_Pair_in (l : List (Int × Int)) (hl : l.length ≤ 1099511627776) (i : Nat) (K : List (Int × Int) → Int → Option (List (Int × Int))) : ∀ (m j n : Nat) (x0 : List (Int × Int)) (x3 : Nat), i + j + m = l.length → 1 ≤ j → m < n → x0.length = l.length → x3 + 1 ≤ i + j → x0.take x3 = compactL (l.take (i + j)) → x3 = (compactL (l.take (i + j))).length → (∀ q, i + j ≤ q + 1 → x0[q]? = l[q]?) →
    ∃ (x0' : List (Int × Int)) (x3' : Nat), m_slices_Compact_L_api_Pair_api_Pair_L26 l i K n x0 x3 j = K x0' x3' ∧ x0'.length = l.length ∧ x3' ≤ l.length ∧ x0'.take x3' = compactL l := by
  intro m
  induction m with
  | zero =>
    intro j n x0 x3 hi hj hn hx h3 ht h3' hq
    obtain ⟨n, rfl⟩ : ∃ k, n = k + 1 := ⟨n - 1, by omega⟩
    refine ⟨x0, x3, ?_, hx, by omega, ?_⟩
    · rw [m_slices_Compact_L_api_Pair_api_Pair_L26, m_slices_Compact_L_api_Pair_api_Pair_B26, if_neg (by omega)]
    · rw [ht, show i + j = l.length by omega, List.take_length]
  | succ m ih =>
    intro j n x0 x3 hi hj hn hx h3 ht h3' hq
    obtain ⟨n, rfl⟩ : ∃ k, n = k + 1 := ⟨n - 1, by omega⟩
    have hlt : i + j < l.length := by omega
    have g1 : gi x0 ((i : Int) + (j : Int)) = l[i + j] := by
      rw [show (i : Int) + (j : Int) = ((i + j : Nat) : Int) by omega, gi_nat (by omega)]
      have := hq (i + j) (by omega)
      rw [List.getElem?_eq_getElem (by omega), List.getElem?_eq_getElem hlt] at this
      exact Option.some.inj this
    have g2 : gi x0 ((i : Int) + ((j : Int) - 1)) = l[i + j - 1] := by
      rw [show (i : Int) + ((j : Int) - 1) = ((i + j - 1 : Nat) : Int) by omega, gi_nat (by omega)]
      have := hq (i + j - 1) (by omega)
      rw [List.getElem?_eq_getElem (by omega), List.getElem?_eq_getElem (by omega)] at this
      exact Option.some.inj this
    have hsn : compactL (l.take (i + (j + 1))) = cstep (compactL (l.take (i + j))) l[i + j] := by
      rw [show i + (j + 1) = (i + j) + 1 by omega, ← List.take_append_getElem hlt, compactL_snoc]
    have hla : (compactL (l.take (i + j))).getLast? = some l[i + j - 1] := by
      rw [compactL_last, List.getLast?_eq_getElem?]
      simp only [List.length_take]
      rw [show min (i + j) l.length - 1 = i + j - 1 by omega, List.getElem?_take_of_lt (by omega), List.getElem?_eq_getElem (by omega)]
    rw [m_slices_Compact_L_api_Pair_api_Pair_L26, m_slices_Compact_L_api_Pair_api_Pair_B26]
    simp (disch := omega) only [if_pos, jn_eq, need_pos, i64_sub1, i64_succ, g1, g2]
    by_cases he : l[i + j] = l[i + j - 1]
    · rw [if_neg (by simp [he])]
      refine ih (j + 1) n x0 x3 (by omega) (by omega) (by omega) hx (by omega) ?_ ?_ (fun q h => hq q (by omega))
      · rw [ht, hsn, cstep, if_pos (by rw [hla, he])]
      · rw [hsn, cstep, if_pos (by rw [hla, he])]; exact h3'
    · rw [if_pos he]
      simp (disch := omega) only [need_pos, Int.toNat_natCast, i64_succ]
      have hc : cstep (compactL (l.take (i + j))) l[i + j] = compactL (l.take (i + j)) ++ [l[i + j]] := by
        rw [cstep, if_neg]
        rw [hla]; exact fun e => he (Option.some.inj e).symm
      refine ih (j + 1) n _ (x3 + 1) (by omega) (by omega) (by omega) (by simp [hx]) (by omega) ?_ ?_ (fun q h => ?_)
      · rw [hsn, hc, ← ht]
        rw [List.take_succ_eq_append_getElem (by simp; omega)]
        congr 1
        · rw [List.take_set_of_le (by omega)]
        · simp
      · rw [hsn, hc]; simp; omega
      · rw [List.getElem?_set_ne (by omega)]
        exact hq q (by omega)
theorem m_slices_Compact_L_api_Pair_api_Pair_out (l : List (Int × Int)) (hl : l.length ≤ 1099511627776) : ∀ (m i n : Nat), i + m = l.length → 1 ≤ i → m < n → compactL (l.take i) = l.take i →
    m_slices_Compact_L_api_Pair_api_Pair_L14 l (fun _ => some l) n i = some (compactL l) := by
  intro m
  induction m with
  | zero =>
    intro i n hi h1 hn hc
    obtain ⟨n, rfl⟩ : ∃ k, n = k + 1 := ⟨n - 1, by omega⟩
    rw [m_slices_Compact_L_api_Pair_api_Pair_L14, m_slices_Compact_L_api_Pair_api_Pair_B14, if_neg (by omega)]
    rw [show i = l.length by omega, List.take_length] at hc
    rw [hc]
  | succ m ih =>
    intro i n hi h1 hn hc
    obtain ⟨n, rfl⟩ : ∃ k, n = k + 1 := ⟨n - 1, by omega⟩
    have hlt : i < l.length := by omega
    have g2 : gi l ((i : Int) - 1) = l[i - 1] := by
      rw [show (i : Int) - 1 = ((i - 1 : Nat) : Int) by omega, gi_nat (by omega)]
    have hla : (l.take i).getLast? = some l[i - 1] := by
      rw [List.getLast?_eq_getElem?]
      simp only [List.length_take]
      rw [show min i l.length - 1 = i - 1 by omega, List.getElem?_take_of_lt (by omega), List.getElem?_eq_getElem (by omega)]
    have hsn : compactL (l.take (i + 1)) = cstep (l.take i) l[i] := by
      rw [← List.take_append_getElem hlt, compactL_snoc, hc]
    rw [m_slices_Compact_L_api_Pair_api_Pair_L14, m_slices_Compact_L_api_Pair_api_Pair_B14]
    simp (disch := omega) only [if_pos, jn_eq, need_pos, i64_sub1, i64_succ, g2, gi_nat]
    by_cases he : l[i] = l[i - 1]
    · rw [if_pos he]
      have hct : compactL (l.take (i + 1)) = l.take i := by rw [hsn, cstep, if_pos (by rw [hla, he])]
      have hFU := FU_ge
      obtain ⟨x0', x3', e1, e2, e3, e4⟩ := m_slices_Compact_L_api_Pair_api_Pair_in l hl i (fun x0_j694 x3_j694 => need ((0 : Int) ≤ x3_j694 ∧ x3_j694 ≤ (List.length x0_j694 : Int) ∧ (List.length x0_j694 : Int) ≤ (List.length x0_j694 : Int)) (need (0 ≤ x3_j694 ∧ x3_j694 ≤ (List.length (List.take (Int.toNat x3_j694) x0_j694 ++ List.replicate (Int.toNat (List.length x0_j694 : Int) - Int.toNat x3_j694) ((0, 0) : (Int × Int)) ++ List.drop (Int.toNat x3_j694 + (Int.toNat (List.length x0_j694 : Int) - Int.toNat x3_j694)) x0_j694) : Int)) (some (List.take (Int.toNat x3_j694) (List.take (Int.toNat x3_j694) x0_j694 ++ List.replicate (Int.toNat (List.length x0_j694 : Int) - Int.toNat x3_j694) ((0, 0) : (Int × Int)) ++ List.drop (Int.toNat x3_j694 + (Int.toNat (List.length x0_j694 : Int) - Int.toNat x3_j694)) x0_j694)))))
        (l.length - i - 1) 1 FU l i (by omega) (by omega) (by omega) rfl (by omega) hct.symm (by rw [hct]; simp; omega) (fun q _ => rfl)
      rw [show ((1 : Nat) : Int) = 1 from rfl] at e1
      rw [e1]
      have hlen : (List.take x3' x0' ++ List.replicate (x0'.length - x3') ((0, 0) : (Int × Int)) ++ List.drop (x3' + (x0'.length - x3')) x0').length = x0'.length := by simp; omega
      simp only [Int.toNat_natCast, hlen]
      rw [need_pos (by omega), need_pos (by omega), List.append_assoc, List.take_append_of_le_length (by simp; omega), List.take_take, Nat.min_self, e4]
    · rw [if_neg he]
      refine ih (i + 1) n (by omega) (by omega) (by omega) ?_
      rw [hsn, cstep, if_neg, List.take_append_getElem hlt]
      rw [hla]; exact fun e => he (Option.some.inj e).symm
theorem m_slices_Compact_L_api_Pair_api_Pair_eq (l : List (Int × Int)) (hl : l.length ≤ 1099511627776) : m_slices_Compact_L_api_Pair_api_Pair l = some (compactL l) := by
  unfold m_slices_Compact_L_api_Pair_api_Pair
  have hFU := FU_ge
  by_cases h : (List.length l : Int) < 2
  · rw [if_pos h]
    congr 1
    match l, h with
    | [], _ => rfl
    | [x], _ => simp [compactL, cstep]
    | x :: y :: t, h => simp at h; omega
  · rw [if_neg h, jn_eq]
    have h1 : compactL (l.take 1) = l.take 1 := by
      match l with
      | [] => rfl
      | x :: t => simp [compactL, cstep]
    exact m_slices_Compact_L_api_Pair_api_Pair_out l hl (l.length - 1) 1 FU (by omega) (by omega) (by omega) h1

theorem pClip (l : List (Int × Int)) : m_slices_Clip_L_api_Pair_api_Pair l = some l := by
  unfold m_slices_Clip_L_api_Pair_api_Pair
  rw [need_pos (by omega), Int.toNat_natCast, List.take_length]
theorem sEqualA (a b : List (Int × Int)) (ha : a.length ≤ 1099511627776) : m_slices_Equal_L_api_Above_api_Above a b = some (decide (a = b)) := by
  have hFU := FU_ge
  unfold m_slices_Equal_L_api_Above_api_Above
  by_cases hl : a.length = b.length
  · rw [if_neg (fun h => h (by omega)), jn_eq]
    have loop : ∀ (m i n : Nat), i + m = a.length → m < n → m_slices_Equal_L_api_Above_api_Above_L2 a b (fun _ => some true) n i = some (decide (a.drop i = b.drop i)) := by
      intro m
      induction m with
      | zero =>
        intro i n hi hn
        obtain ⟨n, rfl⟩ : ∃ q, n = q + 1 := ⟨n - 1, by omega⟩
        rw [m_slices_Equal_L_api_Above_api_Above_L2, m_slices_Equal_L_api_Above_api_Above_B2, if_neg (by omega), List.drop_eq_nil_of_le (by omega), List.drop_eq_nil_of_le (by omega)]; rfl
      | succ m ih =>
        intro i n hi hn
        obtain ⟨n, rfl⟩ : ∃ q, n = q + 1 := ⟨n - 1, by omega⟩
        have h1 : i < a.length := by omega
        have h2 : i < b.length := by omega
        rw [m_slices_Equal_L_api_Above_api_Above_L2, m_slices_Equal_L_api_Above_api_Above_B2, if_pos (by omega), need_pos (by omega), need_pos (by omega), gi_nat h1, gi_nat h2, List.drop_eq_getElem_cons h1, List.drop_eq_getElem_cons h2]
        by_cases he : a[i] = b[i]
        · rw [if_neg (fun h => h he), i64_succ (by omega), ih (i + 1) n (by omega) (by omega), he]; simp only [List.cons.injEq, true_and]
        · rw [if_pos he, decide_eq_false (fun e => he (List.cons.inj e).1)]
    have := loop a.length 0 FU (by omega) (by omega)
    rw [Int.natCast_zero, List.drop_zero, List.drop_zero] at this
    exact this
  · rw [if_pos (fun h => hl (by omega)), decide_eq_false (fun e => hl (by rw [e]))]
theorem cmpPairs : m_alphabet_comparePairs = pcmp := by
  funext x y
  unfold m_alphabet_comparePairs pcmp
  simp only [cCmpZ, bnd1_mk, or2Z]
  congr 1
  by_cases h1 : x.1 < y.1 <;> by_cases h2 : y.1 < x.1 <;> by_cases h3 : x.2 < y.2 <;> by_cases h4 : y.2 < x.2 <;> simp [h1, h2, h3, h4]
theorem sortP_mem {l : List (Int × Int)} {x : Int × Int} : x ∈ sortC pcmp l ↔ x ∈ l := by
  unfold sortC; exact (List.mergeSort_perm l _).mem_iff
theorem sortP_asc (l : List (Int × Int)) : (sortC pcmp l).Pairwise (fun a b => a = b ∨ LtQ a b) := by
  unfold sortC
  refine (List.pairwise_mergeSort (fun a b c h1 h2 => ?_) (fun a b => ?_) l).imp (fun {a b} h => ?_)
  · rw [le_pcmp] at *; omega
  · rw [Bool.or_eq_true, le_pcmp, le_pcmp]; omega
  · rw [le_pcmp] at h
    by_cases e : a = b
    · exact .inl e
    · refine .inr ?_
      unfold LtQ
      have : ¬ (a.1 = b.1 ∧ a.2 = b.2) := fun h' => e (Prod.ext h'.1 h'.2)
      omega
theorem sortP_len (l : List (Int × Int)) : (sortC pcmp l).length = l.length := List.length_mergeSort _
theorem vRel (a : List (Int × Int)) (ha : a.length ≤ 60000000000) : m_alphabet_Relation a = some (relZ a) := by
  unfold m_alphabet_Relation
  rw [jn_eq]
  have h := loop_all a (by omega) (fun n (s : List (Int × Int)) i => m_alphabet_Relation_L2 a (fun x3_j1 => bnd1 (m_sortby m_alphabet_comparePairs x3_j1) (fun y117 => bnd1 (m_slices_Compact_L_api_Pair_api_Pair y117) (fun y118 => bnd1 (m_slices_Clip_L_api_Pair_api_Pair y118) (fun y119 => some y119)))) n s i)
    (fun r x k => if decide (pVis x) then need (List.length r + 1 ≤ 137438953472) (k (r ++ [id x])) else k r) (fun x3_j1 => bnd1 (m_sortby m_alphabet_comparePairs x3_j1) (fun y117 => bnd1 (m_slices_Compact_L_api_Pair_api_Pair y117) (fun y118 => bnd1 (m_slices_Clip_L_api_Pair_api_Pair y118) (fun y119 => some y119)))) (fun n s i hi => by
      rw [m_alphabet_Relation_L2, m_alphabet_Relation_B2, if_pos (by omega)]
      simp only [jn_eq]
      rw [need_pos (by omega), gi_nat hi, visZ, visZ, bnd1_mk, bnd1_mk, i64_succ (by omega)]
      by_cases h1 : cVis a[i].1
      · by_cases h2 : cVis a[i].2
        · rw [if_pos (decide_eq_true h1), if_pos (decide_eq_true h2), if_pos (decide_eq_true (show pVis a[i] from ⟨h1, h2⟩))]; rfl
        · rw [if_pos (decide_eq_true h1), if_neg (fun h => h2 (of_decide_eq_true h)), if_neg (fun h => h2 (of_decide_eq_true h : pVis a[i]).2)]
      · rw [if_neg (fun h => h1 (of_decide_eq_true h)), if_neg Bool.false_ne_true, if_neg (fun h => h1 (of_decide_eq_true h : pVis a[i]).1)]) (fun n s => by rw [m_alphabet_Relation_L2, m_alphabet_Relation_B2, if_neg (by omega)]) []
  rw [h, foldK_app (fun x => decide (pVis x)) id _ _ _ (by rw [List.length_nil]; omega)]
  have hlen := List.length_filter_le (fun x => decide (pVis x)) a
  rw [List.nil_append, List.map_id, cmpPairs, m_sortby_eq (by omega) pcmp_ok, bnd1_mk, m_slices_Compact_L_api_Pair_api_Pair_eq _ (by rw [sortP_len]; omega), bnd1_mk, pClip, bnd1_mk]
  congr 1
  refine asc_relF (compactL_sorted LtQ.irr LtQ.tr _ (sortP_asc _)) (fun x => ?_)
  rw [compactL_mem, sortP_mem, List.mem_filter, decide_eq_true_iff, decide_eq_true_iff]
  exact ⟨fun h => ⟨h.2, h.1⟩, fun h => ⟨h.2, h.1⟩⟩
/-! ### The reference's relation: sorted by inserting -/
instance (p q : Int × Int) : Decidable (LtQ p q) := inferInstanceAs (Decidable (_ ∨ _))
theorem rBefore (p q : Int × Int) : m_ref16_before p q = some (decide (LtQ p q)) := by
  unfold m_ref16_before LtQ
  simp only [jn_eq]
  by_cases h1 : p.1 < q.1 <;> by_cases h2 : p.1 = q.1 <;> simp [h1, h2]
theorem ins_eqZ {α : Type} (out : List α) (j : Nat) (hj : j ≤ out.length) (z x : α) :
    (List.take (j + 1) (out ++ [z]) ++ List.take (Nat.min ((out ++ [z]).length - j) ((out ++ [z]).length - (j + 1))) (List.drop j (out ++ [z])) ++ List.drop (j + 1 + Nat.min ((out ++ [z]).length - j) ((out ++ [z]).length - (j + 1))) (out ++ [z])).length = out.length + 1 ∧
    List.set (List.take (j + 1) (out ++ [z]) ++ List.take (Nat.min ((out ++ [z]).length - j) ((out ++ [z]).length - (j + 1))) (List.drop j (out ++ [z])) ++ List.drop (j + 1 + Nat.min ((out ++ [z]).length - j) ((out ++ [z]).length - (j + 1))) (out ++ [z])) j x = out.take j ++ [x] ++ out.drop j := by
  have hm : Nat.min ((out ++ [z]).length - j) ((out ++ [z]).length - (j + 1)) = out.length - j := by
    have : Nat.min ((out ++ [z]).length - j) ((out ++ [z]).length - (j + 1)) = min ((out ++ [z]).length - j) ((out ++ [z]).length - (j + 1)) := rfl
    rw [this]; simp; omega
  rw [hm]
  have h1 : List.drop (j + 1 + (out.length - j)) (out ++ [z]) = [] := List.drop_eq_nil_of_le (by simp; omega)
  have h2 : List.take (out.length - j) (List.drop j (out ++ [z])) = out.drop j := by
    rw [List.drop_append_of_le_length hj, List.take_left' (by simp)]
  rw [h1, h2, List.append_nil]
  refine ⟨by simp; omega, ?_⟩
  obtain ⟨y, hy⟩ : ∃ y, List.take (j + 1) (out ++ [z]) = out.take j ++ [y] := by
    by_cases h : j < out.length
    · exact ⟨out[j], by rw [List.take_append_of_le_length (by omega), List.take_append_getElem h]⟩
    · have : j = out.length := by omega
      subst this
      exact ⟨z, by rw [List.take_of_length_le (by simp), List.take_length]⟩
  rw [hy, List.append_assoc, List.append_assoc, List.set_append_right _ _ (by simp; omega)]
  congr 1
  have : j - (out.take j).length = 0 := by simp; omega
  rw [this]; rfl
theorem insNeed {α ρ : Type} {p : Prop} [Decidable p] (hp : p) (out : List α) (hl : out.length ≤ 100000000000) (j : Nat) (hj : j ≤ out.length) (z x : α) (k : List α → Option ρ) :
    need (List.length out + List.length [z] ≤ 137438953472) (need ((0 : Int) ≤ i64 ((j : Int) + 1) ∧ (i64 ((j : Int) + 1)) ≤ (List.length (out ++ [z]) : Int) ∧ (List.length (out ++ [z]) : Int) ≤ (List.length (out ++ [z]) : Int)) (need ((0 : Int) ≤ (j : Int) ∧ (j : Int) ≤ (List.length (out ++ [z]) : Int) ∧ (List.length (out ++ [z]) : Int) ≤ (List.length (out ++ [z]) : Int)) (need p (need ((0 : Int) ≤ (j : Int) ∧ (j : Int) < (List.length (List.take (Int.toNat (i64 ((j : Int) + 1))) (out ++ [z]) ++ List.take (Nat.min (Int.toNat (List.length (out ++ [z]) : Int) - Int.toNat (j : Int)) (Int.toNat (List.length (out ++ [z]) : Int) - Int.toNat (i64 ((j : Int) + 1)))) (List.drop (Int.toNat (j : Int)) (out ++ [z])) ++ List.drop (Int.toNat (i64 ((j : Int) + 1)) + (Nat.min (Int.toNat (List.length (out ++ [z]) : Int) - Int.toNat (j : Int)) (Int.toNat (List.length (out ++ [z]) : Int) - Int.toNat (i64 ((j : Int) + 1))))) (out ++ [z])) : Int)) (k (List.set (List.take (Int.toNat (i64 ((j : Int) + 1))) (out ++ [z]) ++ List.take (Nat.min (Int.toNat (List.length (out ++ [z]) : Int) - Int.toNat (j : Int)) (Int.toNat (List.length (out ++ [z]) : Int) - Int.toNat (i64 ((j : Int) + 1)))) (List.drop (Int.toNat (j : Int)) (out ++ [z])) ++ List.drop (Int.toNat (i64 ((j : Int) + 1)) + (Nat.min (Int.toNat (List.length (out ++ [z]) : Int) - Int.toNat (j : Int)) (Int.toNat (List.length (out ++ [z]) : Int) - Int.toNat (i64 ((j : Int) + 1))))) (out ++ [z])) (Int.toNat (j : Int)) x)))))) = k (out.take j ++ [x] ++ out.drop j) := by
  have e2 : i64 ((j : Int) + 1) = ((j + 1 : Nat) : Int) := by rw [i64_id (by omega)]; omega
  obtain ⟨q1, q2⟩ := ins_eqZ out j hj z x
  have hlo : (out ++ [z]).length = out.length + 1 := by simp
  rw [need_pos (by simp; omega)]
  simp only [e2, Int.toNat_natCast]
  rw [need_pos (by rw [hlo]; omega), need_pos (by rw [hlo]; omega), need_pos hp, need_pos (by rw [q1]; omega), q2]
theorem rRel_place (l out : List (Int × Int)) (i : Nat) (hi : i < l.length) (hl : l.length ≤ 60000000000) (ho : out.length ≤ 60000000000) (K : Int → Option (List (Int × Int))) : ∀ (k j n : Nat), j + k = out.length → k < n → (∀ q (h : q < out.length), q < j → LtQ out[q] l[i]) →
    ∃ j' : Nat, j' ≤ out.length ∧ m_ref16_Relation_L26 l out i K n j = K j' ∧ (∀ q (h : q < out.length), q < j' → LtQ out[q] l[i]) ∧ (∀ h : j' < out.length, ¬ LtQ out[j'] l[i]) := by
  intro k
  induction k with
  | zero =>
    intro j n h1 h2 h3
    obtain ⟨n, rfl⟩ : ∃ q, n = q + 1 := ⟨n - 1, by omega⟩
    refine ⟨j, by omega, ?_, h3, fun h => by omega⟩
    rw [m_ref16_Relation_L26, m_ref16_Relation_B26]
    simp only [jn_eq]
    rw [if_neg (by omega), if_neg (by simp)]
  | succ k ih =>
    intro j n h1 h2 h3
    obtain ⟨n, rfl⟩ : ∃ q, n = q + 1 := ⟨n - 1, by omega⟩
    have hj : j < out.length := by omega
    rw [m_ref16_Relation_L26, m_ref16_Relation_B26]
    simp only [jn_eq]
    rw [if_pos (by omega), need_pos (by omega), need_pos (by omega), gi_nat hj, gi_nat hi, rBefore, bnd1_mk]
    by_cases hc : LtQ out[j] l[i]
    · rw [if_pos (decide_eq_true hc), i64_succ (by omega)]
      refine ih (j + 1) n (by omega) (by omega) (fun q h hq => ?_)
      by_cases e : q = j
      · subst e; exact hc
      · exact h3 q h (by omega)
    · rw [if_neg (fun h => hc (of_decide_eq_true h))]
      exact ⟨j, by omega, rfl, h3, fun _ => hc⟩
theorem rRel_loop (l : List (Int × Int)) (hl : l.length ≤ 60000000000) (K : List (Int × Int) → Option (List (Int × Int))) : ∀ (m i n : Nat) (out : List (Int × Int)), i + m = l.length → m < n → out.Pairwise LtQ → out.length ≤ i → (∀ x, x ∈ out ↔ pVis x ∧ x ∈ l.take i) →
    ∃ s, m_ref16_Relation_L14 l K n out i = K s ∧ s.Pairwise LtQ ∧ (∀ x, x ∈ s ↔ pVis x ∧ x ∈ l) := by
  have hFU := FU_ge
  intro m
  induction m with
  | zero =>
    intro i n out hi hn hs ho hm
    obtain ⟨n, rfl⟩ : ∃ q, n = q + 1 := ⟨n - 1, by omega⟩
    refine ⟨out, by rw [m_ref16_Relation_L14, m_ref16_Relation_B14, if_neg (by omega)], hs, fun x => ?_⟩
    rw [hm, show i = l.length by omega, List.take_length]
  | succ m ih =>
    intro i n out hi hn hs ho hm
    obtain ⟨n, rfl⟩ : ∃ q, n = q + 1 := ⟨n - 1, by omega⟩
    have hil : i < l.length := by omega
    have hmem : ∀ x, x ∈ l.take (i + 1) ↔ x ∈ l.take i ∨ x = l[i] := fun x => by
      rw [← List.take_append_getElem hil]; simp only [List.mem_append, List.mem_singleton]
    have skip : ¬ pVis l[i] ∨ l[i] ∈ out → ∃ s, m_ref16_Relation_L14 l K n out ((i + 1 : Nat) : Int) = K s ∧ s.Pairwise LtQ ∧ (∀ x, x ∈ s ↔ pVis x ∧ x ∈ l) := fun h => by
      refine ih (i + 1) n out (by omega) (by omega) hs (by omega) (fun x => ?_)
      rw [hmem, hm]
      constructor
      · exact fun h => ⟨h.1, .inl h.2⟩
      · rintro ⟨h1, h2 | h2⟩
        · exact ⟨h1, h2⟩
        · subst h2
          rcases h with h | h
          · exact absurd h1 h
          · exact ⟨h1, ((hm _).1 h).2⟩
    rw [m_ref16_Relation_L14, m_ref16_Relation_B14, if_pos (by omega)]
    simp only [jn_eq]
    rw [need_pos (by omega), gi_nat hil, rvisZ, rvisZ, bnd1_mk, need_pos (by omega), bnd1_mk, i64_succ (by omega)]
    by_cases h1 : cVis l[i].1
    · rw [decide_eq_true h1]
      simp only [Bool.not_true, Bool.false_eq_true, if_false]
      by_cases h2 : cVis l[i].2
      · rw [decide_eq_true h2]
        simp only [Bool.not_true, Bool.false_eq_true, if_false]
        obtain ⟨j, j1, j2, j3, j4⟩ := rRel_place l out i hil hl (by omega) _ out.length 0 FU (by omega) (by omega) (fun q h h' => by omega)
        rw [Int.natCast_zero] at j2
        rw [j2]
        have hpw := List.pairwise_iff_getElem.1 hs
        have ins : ∀ hne : (∀ h : j < out.length, out[j] ≠ l[i]), ∃ s, m_ref16_Relation_L14 l K n (out.take j ++ [l[i]] ++ out.drop j) ((i + 1 : Nat) : Int) = K s ∧ s.Pairwise LtQ ∧ (∀ x, x ∈ s ↔ pVis x ∧ x ∈ l) := fun hne => by
          refine ih (i + 1) n _ (by omega) (by omega) ?_ (by simp; omega) (fun x => ?_)
          · have hsp : (out.take j ++ out.drop j).Pairwise LtQ := by rw [List.take_append_drop]; exact hs
            obtain ⟨p1, p2, p3⟩ := List.pairwise_append.1 hsp
            have hB : ∀ b ∈ out.drop j, LtQ l[i] b := fun b hb => by
              obtain ⟨q, hq, rfl⟩ := List.getElem_of_mem hb
              rw [List.getElem_drop]
              simp only [List.length_drop] at hq
              have hjl : j < out.length := by omega
              have h0 : LtQ l[i] out[j] := by
                have n1 := j4 hjl
                have n2 := hne hjl
                unfold LtQ at *
                have : ¬ (out[j].1 = l[i].1 ∧ out[j].2 = l[i].2) := fun h => n2 (Prod.ext h.1 h.2)
                omega
              by_cases e : q = 0
              · subst e; exact h0
              · exact h0.tr (hpw j (j + q) hjl (by omega) (by omega))
            rw [List.append_assoc, List.pairwise_append]
            refine ⟨p1, ?_, fun a ha b hb => ?_⟩
            · simp only [List.singleton_append, List.pairwise_cons]
              exact ⟨hB, p2⟩
            · simp only [List.singleton_append, List.mem_cons] at hb
              rcases hb with rfl | hb
              · obtain ⟨q, hq, rfl⟩ := List.getElem_of_mem ha
                simp only [List.length_take] at hq
                rw [List.getElem_take]
                exact j3 q (by omega) (by omega)
              · exact p3 a ha b hb
          · rw [hmem]
            have : x ∈ out ↔ x ∈ out.take j ∨ x ∈ out.drop j := by rw [← List.mem_append, List.take_append_drop]
            rw [hm] at this
            simp only [List.append_assoc, List.mem_append, List.mem_singleton]
            constructor
            · rintro (h | h | h)
              · have := this.2 (.inl h); exact ⟨this.1, .inl this.2⟩
              · subst h; exact ⟨⟨h1, h2⟩, .inr rfl⟩
              · have := this.2 (.inr h); exact ⟨this.1, .inl this.2⟩
            · rintro ⟨h, h' | h'⟩
              · rcases this.1 ⟨h, h'⟩ with h | h
                · exact .inl h
                · exact .inr (.inr h)
              · exact .inr (.inl h')
        by_cases hjl : j < out.length
        · rw [if_pos (by omega), need_pos (by omega), need_pos (by omega), gi_nat hjl]
          by_cases he : out[j] = l[i]
          · rw [if_pos (decide_eq_true he)]
            exact skip (.inr (he ▸ List.getElem_mem hjl))
          · rw [if_neg (fun h => he (of_decide_eq_true h))]
            obtain ⟨s, s1, s2⟩ := ins (fun _ => he)
            exact ⟨s, (insNeed (p := (0 : Int) ≤ (i : Int) ∧ (i : Int) < (l.length : Int)) (by omega) out (by omega) j j1 (0, 0) l[i] (fun z => m_ref16_Relation_L14 l K n z ((i + 1 : Nat) : Int))).trans s1, s2⟩
        · rw [if_neg (by omega)]
          obtain ⟨s, s1, s2⟩ := ins (fun h => absurd h hjl)
          exact ⟨s, (insNeed (p := (0 : Int) ≤ (i : Int) ∧ (i : Int) < (l.length : Int)) (by omega) out (by omega) j j1 (0, 0) l[i] (fun z => m_ref16_Relation_L14 l K n z ((i + 1 : Nat) : Int))).trans s1, s2⟩
      · rw [decide_eq_false h2]
        simp only [Bool.not_false, if_true]
        exact skip (.inl fun h => h2 h.2)
    · rw [decide_eq_false h1]
      simp only [Bool.not_false, if_true]
      exact skip (.inl fun h => h1 h.1)
theorem rRel (a : List (Int × Int)) (ha : a.length ≤ 60000000000) : m_ref16_Relation a = some (relZ a) := by
  have hFU := FU_ge
  unfold m_ref16_Relation
  rw [jn_eq]
  obtain ⟨s, e, h1, h2⟩ := rRel_loop a ha (fun x => some x) a.length 0 FU [] (by omega) (by omega) List.Pairwise.nil (Nat.le_refl _) (fun x => by rw [List.take_zero]; simp)
  rw [Int.natCast_zero] at e
  rw [e]
  congr 1
  exact asc_relF h1 (fun x => by rw [h2, decide_eq_true_iff])
theorem steps_pw {α : Type} {lt : α → α → Prop} (ht : ∀ {a b c}, lt a b → lt b c → lt a c) {a : List α} (h : ∀ j (h : j < a.length), 0 < j → lt a[j - 1] a[j]) : a.Pairwise lt := by
  rw [List.pairwise_iff_getElem]
  intro i j hi hj hij
  have : ∀ k, ∀ h : i + k < a.length, 0 < k → lt a[i] a[i + k] := by
    intro k
    induction k with
    | zero => intro _ h; omega
    | succ k ih =>
      intro h1 _
      have h2 := h (i + (k + 1)) h1 (by omega)
      have e : i + (k + 1) - 1 = i + k := by omega
      simp only [e] at h2
      rcases Nat.eq_zero_or_pos k with hk | hk
      · subst hk; simpa using h2
      · exact ht (ih (by omega) hk) h2
  have h3 := this (j - i) (by omega) (by omega)
  have e : i + (j - i) = j := by omega
  simpa [e] using h3
end Go.Proofs.Ytkbbeeeoogjknaa
/- Images, compositions, inverses; what is drawn. -/
namespace Go.Proofs.Ytkbbeeeoogjknaa
attribute [local irreducible] FU cKeys keyF pKeys relF

/-! ### Images -/
/-- z is an image of x. -/
def Img (r : List (Int × Int)) (x z : Int) : Prop := (x, z) ∈ r ∨ ((∀ w, (x, w) ∉ r) ∧ z = x)
noncomputable def imgL (r : List (Int × Int)) (x : Int) : List Int := by
  classical exact if cVis x then keyF (fun z => decide (Img (relZ r) x z)) else [x]
/-- The row of x. -/
def rowL (r : List (Int × Int)) (x : Int) : List Int := keyF (fun z => decide ((x, z) ∈ relZ r))
theorem row_img (r : List (Int × Int)) (x : Int) : (if rowL r x = [] then [x] else rowL r x) = imgL r x := by
  classical
  unfold imgL
  have hv : ∀ z, (x, z) ∈ relZ r → cVis x ∧ cVis z := fun z h => (relZ_mem.1 h).1
  by_cases hx : cVis x
  · rw [if_pos hx]
    by_cases he : rowL r x = []
    · rw [if_pos he]
      have hno : ∀ w, (x, w) ∉ relZ r := fun w hw => by
        have : w ∈ rowL r x := keyF_mem.2 ⟨(hv w hw).2, decide_eq_true hw⟩
        rw [he] at this; cases this
      refine asc_keyF (List.pairwise_singleton _ _) (fun z => ?_)
      rw [List.mem_singleton, decide_eq_true_iff]
      constructor
      · rintro rfl; exact ⟨hx, .inr ⟨hno, rfl⟩⟩
      · rintro ⟨_, h | h⟩
        · exact absurd h (hno z)
        · exact h.2
    · rw [if_neg he]
      obtain ⟨w0, hw0⟩ : ∃ w, (x, w) ∈ relZ r := by
        cases hr : rowL r x with
        | nil => exact absurd hr he
        | cons a l =>
          have : a ∈ rowL r x := by rw [hr]; exact List.mem_cons_self
          exact ⟨a, of_decide_eq_true (keyF_mem.1 this).2⟩
      unfold rowL
      refine keyF_congr (fun z _ => ?_)
      by_cases h : (x, z) ∈ relZ r
      · rw [decide_eq_true h, decide_eq_true (.inl h)]
      · rw [decide_eq_false h, decide_eq_false]
        rintro (h' | h')
        · exact h h'
        · exact h'.1 w0 hw0
  · rw [if_neg hx]
    have : rowL r x = [] := List.eq_nil_iff_forall_not_mem.2 (fun z hz => hx (hv z (of_decide_eq_true (keyF_mem.1 hz).2)).1)
    rw [if_pos this]
theorem row_filter (r : List (Int × Int)) (x : Int) : ((relZ r).filter (fun p => decide (p.1 = x))).map (fun p => p.2) = rowL r x := by
  refine asc_keyF ?_ (fun z => ?_)
  · rw [List.pairwise_map]
    refine List.Pairwise.imp_of_mem ?_ ((relZ_asc r).filter _)
    intro a b ha hb h
    have h1 := of_decide_eq_true (List.mem_filter.1 ha).2
    have h2 := of_decide_eq_true (List.mem_filter.1 hb).2
    unfold LtQ at h
    omega
  · rw [decide_eq_true_iff, List.mem_map]
    constructor
    · rintro ⟨p, hp, rfl⟩
      obtain ⟨h1, h2⟩ := List.mem_filter.1 hp
      have h2 := of_decide_eq_true h2
      have h3 : (x, p.2) ∈ relZ r := by rw [← h2]; exact h1
      exact ⟨(relZ_mem.1 h3).1.2, h3⟩
    · rintro ⟨h1, h2⟩
      exact ⟨(x, z), List.mem_filter.2 ⟨h2, decide_eq_true rfl⟩, rfl⟩
theorem vImage (r : List (Int × Int)) (x : Int) (hr : r.length ≤ 1000000000) : m_alphabet_Image r x = some (imgL r x) := by
  unfold m_alphabet_Image
  rw [jn_eq, vRel r (by omega), bnd1_mk]
  have hl := relZ_len r
  have h := loop_all (relZ r) (by omega) (fun n (s : List Int) i => m_alphabet_Image_L2 x (fun x5_j1 => if (List.length x5_j1 : Int) = 0 then (some [x]) else (bnd1 (m_slices_Clip_L_int_int x5_j1) (fun y59 => some y59))) (relZ r) n s i)
    (fun s p k => if decide (p.1 = x) then need (List.length s + 1 ≤ 137438953472) (k (s ++ [p.2])) else k s) (fun x5_j1 => if (List.length x5_j1 : Int) = 0 then (some [x]) else (bnd1 (m_slices_Clip_L_int_int x5_j1) (fun y59 => some y59))) (fun n s i hi => by
      rw [m_alphabet_Image_L2, m_alphabet_Image_B2, if_pos (by omega)]
      simp only [jn_eq]
      rw [need_pos (by omega), gi_nat hi, i64_succ (by omega)]
      by_cases h1 : (relZ r)[i].1 = x
      · rw [if_pos h1, if_pos (decide_eq_true h1)]; rfl
      · rw [if_neg h1, if_neg (fun h => h1 (of_decide_eq_true h))]) (fun n s => by rw [m_alphabet_Image_L2, m_alphabet_Image_B2, if_neg (by omega)]) []
  rw [h, foldK_app (fun p : Int × Int => decide (p.1 = x)) (fun p => p.2) _ _ _ (by rw [List.length_nil]; omega), List.nil_append, row_filter, ← row_img, iClip, bnd1_mk]
  by_cases he : rowL r x = []
  · rw [if_pos (by rw [he]; rfl), if_pos he]
  · rw [if_neg (fun h => he (List.length_eq_zero_iff.1 (by omega))), if_neg he]
/-! ### Compositions -/
/-! ### Inverses -/
/-! ### Composing is composing the images -/
/-! ### What is drawn -/
def GSZ (l : List Int) (i : Int) : Prop := 0 ≤ i ∧ i ≤ l.length ∧ l.length ≤ 9223372036854775807
theorem gNextZ {l : List Int} {i : Int} (h : GSZ l i) {n : Int} (h0 : 0 < n) (h1 : n ≤ 1000000) : ∃ y i', m_gen_Choices_Next (l, i) n = some (y, (l, i')) ∧ GSZ l i' ∧ 0 ≤ y ∧ y < n := by
  obtain ⟨g1, g2, g3⟩ := h
  unfold m_gen_Choices_Next
  simp only []
  by_cases hc : (List.length l : Int) ≤ i
  · rw [if_pos hc]; exact ⟨0, i, rfl, ⟨g1, g2, g3⟩, by omega, h0⟩
  · have e : i64 (i64 (i + 1) - 1) = i := by rw [i64_id (x := i + 1) (by omega), i64_id (by omega)]; omega
    obtain ⟨y, ey, h2, h3⟩ := modZ (gi l i) h0 (by omega)
    rw [if_neg hc, e, need_pos (by omega), ey, bnd1_mk, i64_id (x := i + 1) (by omega)]
    exact ⟨y, _, rfl, ⟨by omega, by omega, g3⟩, h2, h3⟩
theorem gEventZ {l : List Int} {i : Int} (h : GSZ l i) : ∃ y i', m_gen_Choices_Event (l, i) = some (y, (l, i')) ∧ GSZ l i' ∧ 2 ≤ y ∧ y < 6 := by
  obtain ⟨y, i', e, hg, h0, h1⟩ := gNextZ h (n := 4) (by omega) (by omega)
  unfold m_gen_Choices_Event
  rw [e, bnd1_mk]
  exact ⟨_, i', rfl, hg, by rw [i64_id (by omega)]; omega, by rw [i64_id (by omega)]; omega⟩
end Go.Proofs.Ytkbbeeeoogjknaa
/- Orders: what Close, ValidOrder and Keep answer. -/
namespace Go.Proofs.Ytkbbeeeoogjknaa
attribute [local irreducible] FU cKeys keyF pKeys relF

inductive TCr (l : List (Int × Int)) : Int → Int → Prop
  | one {x y : Int} : (x, y) ∈ l → TCr l x y
  | snoc {x y z : Int} : TCr l x y → (y, z) ∈ l → TCr l x z
theorem cG_mem {l : List (Int × Int)} {x y : Int} : y ∈ cG l x ↔ (x, y) ∈ l := by
  unfold cG
  rw [List.mem_map]
  constructor
  · rintro ⟨p, hp, rfl⟩
    obtain ⟨h1, h2⟩ := List.mem_filter.1 hp
    have h2 := of_decide_eq_true h2
    rw [← h2]; exact h1
  · intro h; exact ⟨(x, y), List.mem_filter.2 ⟨h, decide_eq_true rfl⟩, rfl⟩
/-- Pairs whose lesser one has not been seen. -/
def rest (l : List (Int × Int)) (out : List Int) : Nat := (l.filter (fun p => decide (p.1 ∉ out))).length
theorem rest_step (l : List (Int × Int)) (out : List Int) (e : Int) (he : e ∉ out) : rest l (out ++ [e]) + (cG l e).length ≤ rest l out := by
  unfold rest cG
  rw [List.length_map]
  induction l with
  | nil => simp
  | cons p l ih =>
    by_cases h1 : p.1 = e
    · have h2 : p.1 ∉ out := by rw [h1]; exact he
      rw [List.filter_cons_of_neg (p := fun p : Int × Int => decide (p.1 ∉ out ++ [e])) (by simp [h1]), List.filter_cons_of_pos (p := fun p : Int × Int => decide (p.1 = e)) (by simp [h1]), List.filter_cons_of_pos (p := fun p : Int × Int => decide (p.1 ∉ out)) (by simpa using h2), List.length_cons, List.length_cons]
      omega
    · rw [List.filter_cons_of_neg (p := fun p : Int × Int => decide (p.1 = e)) (by simp [h1])]
      by_cases h2 : p.1 ∈ out
      · rw [List.filter_cons_of_neg (p := fun p : Int × Int => decide (p.1 ∉ out ++ [e])) (by simp [h2]), List.filter_cons_of_neg (p := fun p : Int × Int => decide (p.1 ∉ out)) (by simp [h2])]
        exact ih
      · rw [List.filter_cons_of_pos (p := fun p : Int × Int => decide (p.1 ∉ out ++ [e])) (by simp [h1, h2]), List.filter_cons_of_pos (p := fun p : Int × Int => decide (p.1 ∉ out)) (by simp [h2]), List.length_cons, List.length_cons]
        omega
theorem reach_spec (l : List (Int × Int)) (hl : l.length ≤ 1000000000) (k : Int) : ∀ (n : Nat) (out q : List Int), q.length + rest l out < n → out.length + q.length + rest l out ≤ 2000000000 →
    (∀ x, x ∈ out ∨ x ∈ q → TCr l k x) → (∀ x ∈ out, ∀ y, (x, y) ∈ l → y ∈ out ∨ y ∈ q) → (∀ y, (k, y) ∈ l → y ∈ out ∨ y ∈ q) →
    ∃ r, cReach (cG l) n out q = some r ∧ ∀ x, x ∈ r ↔ TCr l k x
  | 0, _, _, h, _, _, _, _ => by omega
  | n + 1, out, [], h, _, h1, h2, h3 => ⟨out, rfl, fun x => ⟨fun hx => h1 x (.inl hx), fun hx => by
      induction hx with
      | one h => exact (h3 _ h).resolve_right (by simp)
      | snoc _ h ih => exact (h2 _ ih _ h).resolve_right (by simp)⟩⟩
  | n + 1, out, e :: q, h, hb, h1, h2, h3 => by
    rw [cReach]
    simp only [List.length_cons] at h hb
    have hk : TCr l k e := h1 e (.inr List.mem_cons_self)
    by_cases he : e ∈ out
    · rw [if_pos he]
      refine reach_spec l hl k n out q (by omega) (by omega) (fun x hx => h1 x (hx.imp id (List.mem_cons_of_mem _))) (fun x hx y hy => ?_) (fun y hy => ?_)
      · rcases h2 x hx y hy with h | h
        · exact .inl h
        · rcases List.mem_cons.1 h with h | h
          · rw [h]; exact .inl he
          · exact .inr h
      · rcases h3 y hy with h | h
        · exact .inl h
        · rcases List.mem_cons.1 h with h | h
          · rw [h]; exact .inl he
          · exact .inr h
    · have hr := rest_step l out e he
      rw [if_neg he, need_pos (by omega)]
      refine reach_spec l hl k n (out ++ [e]) (q ++ cG l e) (by rw [List.length_append]; omega) (by rw [List.length_append, List.length_append]; simp only [List.length_cons, List.length_nil]; omega) (fun x hx => ?_) (fun x hx y hy => ?_) (fun y hy => ?_)
      · rcases hx with hx | hx
        · rcases List.mem_append.1 hx with hx | hx
          · exact h1 x (.inl hx)
          · rw [List.mem_singleton.1 hx]; exact hk
        · rcases List.mem_append.1 hx with hx | hx
          · exact h1 x (.inr (List.mem_cons_of_mem _ hx))
          · exact hk.snoc (cG_mem.1 hx)
      · rcases List.mem_append.1 hx with hx | hx
        · rcases h2 x hx y hy with h | h
          · exact .inl (List.mem_append_left _ h)
          · rcases List.mem_cons.1 h with h | h
            · exact .inl (by rw [h]; simp)
            · exact .inr (List.mem_append_left _ h)
        · rw [List.mem_singleton.1 hx] at hy
          exact .inr (List.mem_append_right _ (cG_mem.2 hy))
      · rcases h3 y hy with h | h
        · exact .inl (List.mem_append_left _ h)
        · rcases List.mem_cons.1 h with h | h
          · exact .inl (by rw [h]; simp)
          · exact .inr (List.mem_append_left _ h)
theorem cR_spec (l : List (Int × Int)) (hl : l.length ≤ 1000000000) (k : Int) : ∃ r, cR l k = some r ∧ ∀ x, x ∈ r ↔ TCr l k x := by
  have hFU := FU_ge
  have h1 : (cG l k).length ≤ l.length := by unfold cG; rw [List.length_map]; exact List.length_filter_le _ _
  have h2 : rest l [] ≤ l.length := List.length_filter_le _ _
  exact reach_spec l hl k FU [] (cG l k) (by omega) (by simp only [List.length_nil]; omega) (fun x hx => .one (cG_mem.1 (hx.resolve_left (by simp)))) (fun x hx => by cases hx) (fun y hy => .inr (cG_mem.2 hy))
theorem cRd_spec {l : List (Int × Int)} (hl : l.length ≤ 1000000000) {k x : Int} : x ∈ cRd l k ↔ TCr l k x := by
  obtain ⟨r, h1, h2⟩ := cR_spec l hl k
  unfold cRd; rw [h1]; exact h2 x
theorem TCr.vis {l : List (Int × Int)} (hv : ∀ p ∈ l, cVis p.1 ∧ cVis p.2) {x y : Int} (h : TCr l x y) : cVis x ∧ cVis y := by
  induction h with
  | one h => exact hv _ h
  | snoc _ h ih => exact ⟨ih.1, (hv _ h).2⟩
theorem TCr.trans {l : List (Int × Int)} {x y z : Int} (h1 : TCr l x y) (h2 : TCr l y z) : TCr l x z := by
  induction h2 with
  | one h => exact h1.snoc h
  | snoc _ h ih => exact ih.snoc h
theorem TCr.sub {l : List (Int × Int)} {S : Int → Int → Prop} (h0 : ∀ p ∈ l, S p.1 p.2) (h1 : ∀ x y z, S x y → S y z → S x z) {x y : Int} (h : TCr l x y) : S x y := by
  induction h with
  | one h => exact h0 _ h
  | snoc _ h ih => exact h1 _ _ _ ih (h0 _ h)
noncomputable def ordL (l : List (Int × Int)) : List (Int × Int) := by
  classical exact relF (fun p => decide (TCr l p.1 p.2))
theorem ordL_mem {l : List (Int × Int)} (hv : ∀ p ∈ l, cVis p.1 ∧ cVis p.2) {p : Int × Int} : p ∈ ordL l ↔ TCr l p.1 p.2 := by
  classical
  unfold ordL
  rw [relF_mem, decide_eq_true_iff]
  exact ⟨fun h => h.2, fun h => ⟨h.vis hv, h⟩⟩
theorem ordL_len (l : List (Int × Int)) : (ordL l).length ≤ 1048576 := by unfold ordL; exact relF_len _
/-- What Close answers. -/
noncomputable def closeL (l : List (Int × Int)) : List (Int × Int) × Int := by
  classical exact if ∃ p ∈ l, ¬ pVis p then ([], 1) else if ∃ k, TCr l k k then ([], 14) else (ordL l, 0)
theorem vClose (l : List (Int × Int)) (hl : l.length ≤ 1000000000) : m_close l = some (closeL l) := by
  classical
  unfold m_close closeL
  rw [if_pos (by omega)]
  by_cases hb : ∃ p ∈ l, ¬ pVis p
  · rw [if_pos (show ∃ p ∈ l, ¬ (cVis p.1 ∧ cVis p.2) from hb), if_pos hb]
  · have hv : ∀ p ∈ l, cVis p.1 ∧ cVis p.2 := fun p hp => Classical.byContradiction fun h => hb ⟨p, hp, h⟩
    have hmem : ∀ p : Int × Int, p ∈ cP l ↔ TCr l p.1 p.2 := fun p => by
      have h := cQ_mem (l := l) (ks := cKeys) (p := p)
      rw [cKeys_mem, cRd_spec hl] at h
      exact ⟨fun hp => (h.1 hp).2, fun hp => h.2 ⟨(hp.vis hv).1, hp⟩⟩
    have hnd : (cP l).Nodup := cQ_nodup l cKeys_nodup
    have hlen : (cP l).length ≤ 1048576 := Nat.le_trans (nodup_leZ hnd (fun p hp => pKeys_mem.2 (((hmem p).1 hp).vis hv))) pKeys_len
    rw [if_neg (show ¬ ∃ p ∈ l, ¬ (cVis p.1 ∧ cVis p.2) from hb), if_neg hb, if_pos ⟨fun k => by obtain ⟨r, h1, _⟩ := cR_spec l hl k; rw [h1]; rfl, by omega⟩]
    by_cases hc : ∃ k, TCr l k k
    · rw [if_pos hc, if_pos (by obtain ⟨k, hk⟩ := hc; exact ⟨k, (cRd_spec hl).2 hk⟩)]
    · rw [if_neg hc, if_neg (by rintro ⟨k, hk⟩; exact hc ⟨k, (cRd_spec hl).1 hk⟩)]
      congr 2
      unfold ordL
      refine asc_relF ?_ (fun x => ?_)
      · have hs : (sortC pcmp (cP l)).Nodup := by unfold sortC; exact (List.mergeSort_perm (cP l) _).nodup_iff.2 hnd
        refine List.Pairwise.imp₂ (fun a b h1 h2 => ?_) (sortP_asc (cP l)) (List.nodup_iff_pairwise_ne.1 hs)
        exact h1.resolve_left h2
      · rw [sortP_mem, hmem, decide_eq_true_iff]
        exact ⟨fun h => ⟨h.vis hv, h⟩, fun h => h.2⟩
/-- The order is one. -/
def OrdOk (o : List (Int × Int)) : Prop := (∀ p ∈ o, pVis p) ∧ (¬ ∃ k, TCr o k k) ∧ o = ordL o
noncomputable def ordB (o : List (Int × Int)) : Bool := by classical exact decide (OrdOk o)
theorem vValidOrder (o : List (Int × Int)) (hl : o.length ≤ 1000000000) : m_alphabet_ValidOrder o = some (ordB o) := by
  classical
  unfold m_alphabet_ValidOrder
  rw [vClose o hl, bnd1_mk, jn_eq]
  unfold closeL ordB
  by_cases hb : ∃ p ∈ o, ¬ pVis p
  · rw [if_pos hb, if_neg (by simp), decide_eq_false]
    rintro ⟨h, _⟩
    obtain ⟨p, hp, hn⟩ := hb
    exact hn (h p hp)
  · rw [if_neg hb]
    by_cases hc : ∃ k, TCr o k k
    · rw [if_pos hc, if_neg (by simp), decide_eq_false]
      exact fun h => h.2.1 hc
    · rw [if_neg hc, if_pos rfl, sEqualA _ _ (by omega), bnd1_mk]
      congr 1
      have hv : ∀ p ∈ o, pVis p := fun p hp => Classical.byContradiction fun h => hb ⟨p, hp, h⟩
      by_cases he : o = ordL o
      · have hok : OrdOk o := ⟨hv, hc, he⟩
        rw [decide_eq_true he, decide_eq_true hok]
      · rw [decide_eq_false he, decide_eq_false (fun h : OrdOk o => he h.2.2)]

/-! ### Keep -/
def beatB (o : List (Int × Int)) (s : List Int) (e : Int) : Bool := o.any (fun p => decide (p.1 = e) && ((decide (0 ∈ s) || decide (1 ∈ s)) || decide (p.2 ∈ s)))
theorem vBeaten (o : List (Int × Int)) (s : List Int) (e : Int) (ho : o.length ≤ 1000000000) (hs : s.length ≤ 1000000000) : m_alphabet_beaten o s e = some (beatB o s e) := by
  unfold m_alphabet_beaten
  rw [jn_eq]
  have loop : ∀ b : Bool, m_alphabet_beaten_L2 o s e b (fun _ => some false) FU 0 = some (o.any (fun p => decide (p.1 = e) && (b || decide (p.2 ∈ s)))) := fun b => by
    have h := loop_all o (by omega) (fun n (_ : Unit) i => m_alphabet_beaten_L2 o s e b (fun _ => some false) n i) (fun u p k => if decide (p.1 = e) && (b || decide (p.2 ∈ s)) then some true else k u) (fun _ => some false) (fun n u i hi => by
      rw [m_alphabet_beaten_L2, m_alphabet_beaten_B2, if_pos (by omega), need_pos (by omega), jn_eq, gi_nat hi, i64_succ (by omega)]
      by_cases h1 : o[i].1 = e
      · rw [if_pos h1, decide_eq_true h1]
        cases b with
        | true => simp
        | false =>
          rw [if_neg Bool.false_ne_true, vContains s _ hs, bnd1_mk]; simp
      · rw [if_neg h1, decide_eq_false h1]; simp) (fun n u => by rw [m_alphabet_beaten_L2, m_alphabet_beaten_B2, if_neg (by omega)]) ()
    rw [h, foldK_any (fun p : Int × Int => decide (p.1 = e) && (b || decide (p.2 ∈ s)))]
    cases o.any (fun p => decide (p.1 = e) && (b || decide (p.2 ∈ s))) <;> rfl
  simp only [jn_eq]
  rw [vContains s 0 hs, bnd1_mk]
  unfold beatB
  by_cases h0 : (0 : Int) ∈ s
  · rw [decide_eq_true h0, if_pos rfl, loop]; simp
  · rw [decide_eq_false h0, if_neg Bool.false_ne_true, vContains s 1 hs, bnd1_mk, loop]; simp
end Go.Proofs.Ytkbbeeeoogjknaa
/- Keep; awake; the laws of layer 15 on sets and relations. -/
namespace Go.Proofs.Ytkbbeeeoogjknaa
attribute [local irreducible] FU cKeys keyF pKeys relF

theorem indexI_loop {g : Int → Bool} {c : Int → Option Bool} (a : List Int) (hc : ∀ x, c x = some (g x)) (ha : a.length ≤ 1000000000) : ∀ (m i n : Nat), i + m = a.length → m < n → ∃ y : Int, m_slices_IndexFunc_L_int_int_L2 a c (fun _ => some (-1)) n i = some y ∧ ((y = -1 ∧ ∀ x ∈ a.drop i, g x = false) ∨ ∃ k : Nat, y = (k : Int) ∧ i ≤ k ∧ k < a.length ∧ (∀ h : k < a.length, g a[k] = true) ∧ ∀ q (h : q < a.length), i ≤ q → q < k → g a[q] = false) := by
  intro m
  induction m with
  | zero =>
    intro i n hi hn
    obtain ⟨n, rfl⟩ : ∃ q, n = q + 1 := ⟨n - 1, by omega⟩
    refine ⟨-1, by rw [m_slices_IndexFunc_L_int_int_L2, m_slices_IndexFunc_L_int_int_B2, if_neg (by omega)], .inl ⟨rfl, fun x hx => ?_⟩⟩
    rw [List.drop_eq_nil_of_le (by omega)] at hx; cases hx
  | succ m ih =>
    intro i n hi hn
    obtain ⟨n, rfl⟩ : ∃ q, n = q + 1 := ⟨n - 1, by omega⟩
    have h1 : i < a.length := by omega
    rw [m_slices_IndexFunc_L_int_int_L2, m_slices_IndexFunc_L_int_int_B2, if_pos (by omega), need_pos (by omega), gi_nat h1, hc, bnd1_mk]
    by_cases he : g a[i] = true
    · rw [if_pos he]
      exact ⟨i, rfl, .inr ⟨i, rfl, Nat.le_refl _, h1, fun _ => he, fun q h h' h'' => by omega⟩⟩
    · rw [if_neg he, i64_succ (by omega)]
      have he' : g a[i] = false := by simpa using he
      obtain ⟨y, e, hy⟩ := ih (i + 1) n (by omega) (by omega)
      refine ⟨y, e, ?_⟩
      rcases hy with ⟨h2, h3⟩ | ⟨k, h2, h3, h4, h5, h6⟩
      · refine .inl ⟨h2, fun x hx => ?_⟩
        rw [List.drop_eq_getElem_cons h1] at hx
        rcases List.mem_cons.1 hx with hx | hx
        · rw [hx]; exact he'
        · exact h3 x hx
      · refine .inr ⟨k, h2, by omega, h4, h5, fun q h h' h'' => ?_⟩
        by_cases hq : q = i
        · subst hq; exact he'
        · exact h6 q h (by omega) h''
/-- What is kept moves down. -/
theorem delete_loop {g : Int → Bool} {c : Int → Option Bool} (a : List Int) (hc : ∀ x, c x = some (g x)) (ha : a.length ≤ 1000000000) (K : List Int → Int → Option (List Int)) : ∀ (m j n : Nat) (x0 : List Int) (x5 : Nat), j + m = a.length → m < n → x0.length = a.length → x5 < j → x0.take x5 = (a.take j).filter (fun x => !g x) → (∀ q, j ≤ q → x0[q]? = a[q]?) →
    ∃ (x0' : List Int) (x5' : Nat), m_slices_DeleteFunc_L_int_int_L2 c K n x0 x5 j = K x0' x5' ∧ x0'.length = a.length ∧ x5' ≤ a.length ∧ x0'.take x5' = a.filter (fun x => !g x) := by
  intro m
  induction m with
  | zero =>
    intro j n x0 x5 hj hn hx h5 ht hq
    obtain ⟨n, rfl⟩ : ∃ q, n = q + 1 := ⟨n - 1, by omega⟩
    refine ⟨x0, x5, by rw [m_slices_DeleteFunc_L_int_int_L2, m_slices_DeleteFunc_L_int_int_B2, if_neg (by omega)], hx, by omega, ?_⟩
    rw [ht, show j = a.length by omega, List.take_length]
  | succ m ih =>
    intro j n x0 x5 hj hn hx h5 ht hq
    obtain ⟨n, rfl⟩ : ∃ q, n = q + 1 := ⟨n - 1, by omega⟩
    have h1 : j < a.length := by omega
    have hxa : x0[j]'(by omega) = a[j] := by
      have := hq j (Nat.le_refl _)
      rw [List.getElem?_eq_getElem (by omega), List.getElem?_eq_getElem h1] at this
      exact Option.some.inj this
    have hsn : (a.take (j + 1)).filter (fun x => !g x) = (a.take j).filter (fun x => !g x) ++ (if g a[j] then [] else [a[j]]) := by
      rw [← List.take_append_getElem h1, List.filter_append]
      congr 1
      cases hg : g a[j] <;> simp [hg]
    rw [m_slices_DeleteFunc_L_int_int_L2, m_slices_DeleteFunc_L_int_int_B2, if_pos (by omega), jn_eq, need_pos (by omega), gi_nat (by omega), hxa, hc, bnd1_mk]
    cases hg : g a[j] with
    | true =>
      rw [if_neg (by simp), i64_succ (by omega)]
      refine ih (j + 1) n x0 x5 (by omega) (by omega) hx (by omega) ?_ (fun q h => hq q (by omega))
      rw [hsn, hg, ht]; simp
    | false =>
      rw [if_pos (by simp), need_pos (by omega), i64_succ (by omega), Int.toNat_natCast, i64_succ (by omega)]
      refine ih (j + 1) n _ (x5 + 1) (by omega) (by omega) (by simp [hx]) (by omega) ?_ (fun q h => ?_)
      · rw [hsn, hg, ← ht]
        simp only [Bool.false_eq_true, if_false]
        rw [List.take_succ_eq_append_getElem (by simp; omega)]
        congr 1
        · rw [List.take_set_of_le (by omega)]
        · simp
      · rw [List.getElem?_set_ne (by omega)]
        exact hq q (by omega)
theorem vDelete {g : Int → Bool} {c : Int → Option Bool} (a : List Int) (hc : ∀ x, c x = some (g x)) (ha : a.length ≤ 1000000000) : m_slices_DeleteFunc_L_int_int a c = some (a.filter (fun x => !g x)) := by
  have hFU := FU_ge
  unfold m_slices_DeleteFunc_L_int_int m_slices_IndexFunc_L_int_int
  rw [jn_eq]
  obtain ⟨y, e, hy⟩ := indexI_loop a hc ha a.length 0 FU (by omega) (by omega)
  rw [Int.natCast_zero] at e
  rw [e, bnd1_mk]
  rcases hy with ⟨h2, h3⟩ | ⟨k, h2, h3, h4, h5, h6⟩
  · rw [if_pos h2]
    rw [List.drop_zero] at h3
    rw [List.filter_eq_self.2 (fun x hx => by rw [h3 x hx]; rfl)]
  · rw [if_neg (by omega), jn_eq, h2]
    have hpre : (a.take (k + 1)).filter (fun x => !g x) = a.take k := by
      rw [← List.take_append_getElem h4, List.filter_append]
      have e1 : (a.take k).filter (fun x => !g x) = a.take k := List.filter_eq_self.2 (fun x hx => by
        obtain ⟨q, hq, rfl⟩ := List.getElem_of_mem hx
        rw [List.length_take] at hq
        rw [List.getElem_take, h6 q (by omega) (Nat.zero_le _) (by omega)]; rfl)
      rw [e1]; simp [h5 h4]
    obtain ⟨x0', x5', e1, e2, e3, e4⟩ := delete_loop a hc ha (fun x0_j2 x5_j2 => need ((0 : Int) ≤ x5_j2 ∧ x5_j2 ≤ (List.length x0_j2 : Int) ∧ (List.length x0_j2 : Int) ≤ (List.length x0_j2 : Int)) (need ((0 : Int) ≤ x5_j2 ∧ x5_j2 ≤ (List.length (List.take (Int.toNat x5_j2) x0_j2 ++ List.replicate (Int.toNat (List.length x0_j2 : Int) - Int.toNat x5_j2) (0 : Int) ++ List.drop (Int.toNat x5_j2 + (Int.toNat (List.length x0_j2 : Int) - Int.toNat x5_j2)) x0_j2) : Int)) (some (List.take (Int.toNat x5_j2) (List.take (Int.toNat x5_j2) x0_j2 ++ List.replicate (Int.toNat (List.length x0_j2 : Int) - Int.toNat x5_j2) (0 : Int) ++ List.drop (Int.toNat x5_j2 + (Int.toNat (List.length x0_j2 : Int) - Int.toNat x5_j2)) x0_j2))))) (a.length - (k + 1)) (k + 1) FU a k (by omega) (by omega) rfl (by omega) hpre.symm (fun q _ => rfl)
    rw [i64_succ (by omega), e1]
    have hlen : (List.take x5' x0' ++ List.replicate (x0'.length - x5') (0 : Int) ++ List.drop (x5' + (x0'.length - x5')) x0').length = x0'.length := by simp; omega
    simp only [Int.toNat_natCast, hlen]
    rw [need_pos (by omega), need_pos (by omega), List.append_assoc, List.take_append_of_le_length (by simp; omega), List.take_take, Nat.min_self, e4]
/-- What Keep answers. -/
noncomputable def keepL (o : List (Int × Int)) (s : List Int) : List Int := if ordB o then s.filter (fun e => !beatB o s e) else s
theorem iClone (xs : List Int) (h : xs.length ≤ 137438953472) : m_slices_Clone_L_int_int xs = some xs := by
  unfold m_slices_Clone_L_int_int
  rw [nilc_eq (fun e => by subst e; rw [need_pos (by simp)]; rfl), need_pos (by simpa using h), List.nil_append]
theorem vKeep (o : List (Int × Int)) (s : List Int) (ho : o.length ≤ 1000000000) (hs : s.length ≤ 1000000000) : m_alphabet_Keep o s = some (keepL o s) := by
  unfold m_alphabet_Keep keepL
  rw [iClone s (by omega), bnd1_mk, jn_eq, vValidOrder o ho, bnd1_mk]
  cases hb : ordB o with
  | true =>
    rw [if_pos rfl, if_pos rfl, vDelete (g := fun e => beatB o s e) s (fun x => by
      unfold m_alphabet_Keep_1
      rw [vBeaten o s x ho hs, bnd1_mk]) hs, bnd1_mk]
    simp only [iClip, bnd1_mk]
  | false =>
    rw [if_neg Bool.false_ne_true, if_neg Bool.false_ne_true]
    simp only [iClip, bnd1_mk]

/-! ### awake -/
theorem awakeImg2 : imgL [(2, 3), (2, 5)] 2 = [3, 5] := by
  rw [← row_img]
  have : rowL [(2, 3), (2, 5)] 2 = [3, 5] := by
    unfold rowL
    refine (asc_keyF (by simp) (fun z => ?_)).symm
    rw [decide_eq_true_iff, relZ_mem]
    simp only [List.mem_cons, List.not_mem_nil, or_false, Prod.mk.injEq, true_and]
    unfold pVis
    constructor
    · rintro (rfl | rfl) <;> decide
    · exact fun h => h.2.2
  rw [this]; rfl
theorem awakeImg4 : imgL [(2, 3), (2, 5)] 4 = [4] := by
  rw [← row_img]
  have : rowL [(2, 3), (2, 5)] 4 = [] := by
    unfold rowL
    refine (asc_keyF List.Pairwise.nil (fun z => ?_)).symm
    rw [decide_eq_true_iff, relZ_mem]
    simp
  rw [this]; rfl
theorem awakeTC {l : List (Int × Int)} (hl : l = [(3, 4), (2, 3)] ∨ l = [(2, 3), (2, 4), (3, 4)]) (x y : Int) : TCr l x y ↔ (x, y) ∈ [((2 : Int), (3 : Int)), (2, 4), (3, 4)] := by
  constructor
  · intro h
    refine h.sub (S := fun x y => (x, y) ∈ [((2 : Int), (3 : Int)), (2, 4), (3, 4)]) (fun p hp => ?_) (fun a b c h1 h2 => ?_)
    · rcases hl with rfl | rfl
      · simp at hp ⊢; rcases hp with rfl | rfl <;> simp
      · exact hp
    · simp at *; omega
  · intro h
    have h23 : TCr l 2 3 := .one (by rcases hl with rfl | rfl <;> simp)
    have h34 : (3, 4) ∈ l := by rcases hl with rfl | rfl <;> simp
    simp at h
    rcases h with ⟨rfl, rfl⟩ | ⟨rfl, rfl⟩ | ⟨rfl, rfl⟩
    · exact h23
    · exact h23.snoc h34
    · exact .one h34
theorem awakeOrd {l : List (Int × Int)} (hl : l = [(3, 4), (2, 3)] ∨ l = [(2, 3), (2, 4), (3, 4)]) : ordL l = [(2, 3), (2, 4), (3, 4)] ∧ (∀ p ∈ l, pVis p) ∧ ¬ ∃ k, TCr l k k := by
  classical
  have hv : ∀ p ∈ l, pVis p := by
    rcases hl with rfl | rfl
    · intro p hp; simp at hp; rcases hp with rfl | rfl <;> decide
    · intro p hp; simp at hp; rcases hp with rfl | rfl | rfl <;> decide
  refine ⟨?_, hv, ?_⟩
  · unfold ordL
    refine (asc_relF (by simp [LtQ]) (fun p => ?_)).symm
    rw [decide_eq_true_iff, awakeTC hl]
    constructor
    · intro h
      refine ⟨?_, h⟩
      simp at h; rcases h with rfl | rfl | rfl <;> decide
    · exact fun h => h.2
  · rintro ⟨k, hk⟩
    rw [awakeTC hl] at hk
    simp at hk; omega
theorem awake_true : m_law15_awake = some true := by
  classical
  unfold m_law15_awake
  obtain ⟨a1, a2, a3⟩ := awakeOrd (l := [(3, 4), (2, 3)]) (.inl rfl)
  obtain ⟨b1, b2, b3⟩ := awakeOrd (l := [(2, 3), (2, 4), (3, 4)]) (.inr rfl)
  have hc : closeL [(3, 4), (2, 3)] = ([(2, 3), (2, 4), (3, 4)], 0) := by
    unfold closeL
    rw [if_neg (by rintro ⟨p, hp, hn⟩; exact hn (a2 p hp)), if_neg a3, a1]
  have hok : ordB [(2, 3), (2, 4), (3, 4)] = true := by
    unfold ordB
    exact decide_eq_true ⟨b2, b3, b1.symm⟩
  have hk : keepL [(2, 3), (2, 4), (3, 4)] [0, 2, 5] = [0, 5] := by
    unfold keepL; rw [if_pos hok]; decide
  rw [vClose _ (by simp), bnd1_mk, hc, jn_eq]
  simp only []
  rw [vImage _ _ (by simp), bnd1_mk, awakeImg2, hEqualI _ _ (by simp), bnd1_mk, decide_eq_true rfl, if_pos rfl, vImage _ _ (by simp), bnd1_mk, awakeImg4, hEqualI _ _ (by simp), bnd1_mk, decide_eq_true rfl, if_pos rfl, if_pos trivial, if_pos (by rfl), vKeep _ _ (by simp) (by simp), bnd1_mk, hk, hEqualI _ _ (by simp), bnd1_mk, decide_eq_true rfl]

/-! ### The laws -/
end Go.Proofs.Ytkbbeeeoogjknaa
/- Orders: the reference's Close, ValidOrder and Keep. -/
namespace Go.Proofs.Ytkbbeeeoogjknaa
attribute [local irreducible] FU cKeys keyF pKeys relF

theorem hEqualA (a b : List (Int × Int)) (ha : a.length ≤ 1099511627776) : m_help_Equal_api_Above a b = some (decide (a = b)) := by
  have hFU := FU_ge
  unfold m_help_Equal_api_Above
  by_cases hl : a.length = b.length
  · rw [if_neg (fun h => h (by omega)), jn_eq]
    have loop : ∀ (m i n : Nat), i + m = a.length → m < n → m_help_Equal_api_Above_L2 a b (fun _ => some true) n i = some (decide (a.drop i = b.drop i)) := by
      intro m
      induction m with
      | zero =>
        intro i n hi hn
        obtain ⟨n, rfl⟩ : ∃ q, n = q + 1 := ⟨n - 1, by omega⟩
        rw [m_help_Equal_api_Above_L2, m_help_Equal_api_Above_B2, if_neg (by omega), List.drop_eq_nil_of_le (by omega), List.drop_eq_nil_of_le (by omega)]; rfl
      | succ m ih =>
        intro i n hi hn
        obtain ⟨n, rfl⟩ : ∃ q, n = q + 1 := ⟨n - 1, by omega⟩
        have h1 : i < a.length := by omega
        have h2 : i < b.length := by omega
        rw [m_help_Equal_api_Above_L2, m_help_Equal_api_Above_B2, if_pos (by omega), need_pos (by omega), need_pos (by omega), gi_nat h1, gi_nat h2, List.drop_eq_getElem_cons h1, List.drop_eq_getElem_cons h2]
        by_cases he : a[i] = b[i]
        · rw [if_neg (fun h => h he), i64_succ (by omega), ih (i + 1) n (by omega) (by omega), he]; simp only [List.cons.injEq, true_and]
        · rw [if_pos he, decide_eq_false (fun e => he (List.cons.inj e).1)]
    have := loop a.length 0 FU (by omega) (by omega)
    rw [Int.natCast_zero, List.drop_zero, List.drop_zero] at this
    exact this
  · rw [if_pos (fun h => hl (by omega)), decide_eq_false (fun e => hl (by rw [e]))]
/-! ### The reference's closure -/
theorem rStep_mem {R : List (Int × Int)} {p : Int × Int} : p ∈ rStep R ↔ ∃ y, (p.1, y) ∈ R ∧ (y, p.2) ∈ R := by
  unfold rStep rFrom
  rw [List.mem_flatMap]
  constructor
  · rintro ⟨q, hq, hp⟩
    obtain ⟨s, hs, rfl⟩ := List.mem_map.1 hp
    obtain ⟨h1, h2⟩ := List.mem_filter.1 hs
    have h2 := of_decide_eq_true h2
    exact ⟨q.2, hq, by rw [h2]; exact h1⟩
  · rintro ⟨y, h1, h2⟩
    exact ⟨(p.1, y), h1, List.mem_map.2 ⟨(y, p.2), List.mem_filter.2 ⟨h2, decide_eq_true rfl⟩, rfl⟩⟩
theorem pw_nodup {l : List (Int × Int)} (h : l.Pairwise LtQ) : l.Nodup := by
  rw [List.nodup_iff_pairwise_ne]
  refine h.imp (fun {a b} hab e => ?_)
  rw [e] at hab
  exact LtQ.irr b hab
theorem relZ_nodup (a : List (Int × Int)) : (relZ a).Nodup := pw_nodup (relZ_asc a)
theorem rFrom_len {R : List (Int × Int)} (hR : R = relZ R) (p : Int × Int) : (rFrom R p).length ≤ 1024 := by
  unfold rFrom
  rw [List.length_map]
  have hf : ((R.filter (fun q => decide (p.2 = q.1))).map (fun q => q.2)).Nodup := by
    rw [List.nodup_iff_pairwise_ne, List.pairwise_map]
    have hn : (R.filter (fun q => decide (p.2 = q.1))).Nodup := by rw [hR]; exact (relZ_nodup R).filter _
    refine (List.nodup_iff_pairwise_ne.1 hn).imp_of_mem (fun {a b} ha hb hab e => hab ?_)
    have h1 := of_decide_eq_true (List.mem_filter.1 ha).2
    have h2 := of_decide_eq_true (List.mem_filter.1 hb).2
    exact Prod.ext (h1.symm.trans h2) e
  have := nodup_leZ (m := cKeys) hf (fun x hx => by
    obtain ⟨q, hq, rfl⟩ := List.mem_map.1 hx
    have : q ∈ relZ R := by rw [← hR]; exact (List.mem_filter.1 hq).1
    exact cKeys_mem.2 (relZ_mem.1 this).1.2)
  rw [List.length_map, cKeys_len] at this
  exact this
theorem rIter_spec (l : List (Int × Int)) : ∀ (m n : Nat) (R : List (Int × Int)), R = relZ R → R.length + m = 1048576 → m < n → (∀ x y, TCr R x y ↔ TCr l x y) → ∃ N, rIter m_ref16_Relation n R = some N ∧ N = relZ N ∧ N.length ≤ 1048576 ∧ ∀ x y, (x, y) ∈ N ↔ TCr l x y := by
  intro m
  induction m using Nat.strongRecOn with
  | _ m ih =>
  intro n R hR hl hn htc
  obtain ⟨n, rfl⟩ : ∃ q, n = q + 1 := ⟨n - 1, by omega⟩
  have hRl : R.length ≤ 1048576 := by omega
  have hsl : (rStep R).length ≤ 1024 * R.length := flat_len_le (fun p _ => rFrom_len hR p)
  have hRv : ∀ p ∈ R, pVis p := fun p hp => by rw [hR] at hp; exact (relZ_mem.1 hp).1
  rw [rIter, need_pos (by rw [List.length_append]; omega), rRel _ (by rw [List.length_append]; omega), bnd1_mk]
  have hN1 := relZ_len (R ++ rStep R)
  have hsub : ∀ p ∈ R, p ∈ relZ (R ++ rStep R) := fun p hp => relZ_mem.2 ⟨hRv p hp, List.mem_append_left _ hp⟩
  have hstep : ∀ p ∈ rStep R, p ∈ relZ (R ++ rStep R) := fun p hp => by
    obtain ⟨y, h1, h2⟩ := rStep_mem.1 hp
    exact relZ_mem.2 ⟨⟨(hRv _ h1).1, (hRv _ h2).2⟩, List.mem_append_right _ hp⟩
  have htc1 : ∀ x y, TCr (relZ (R ++ rStep R)) x y ↔ TCr l x y := fun x y => by
    rw [← htc]
    constructor
    · intro h
      refine h.sub (S := TCr R) (fun p hp => ?_) (fun a b c h1 h2 => h1.trans h2)
      rcases List.mem_append.1 (relZ_mem.1 hp).2 with hp | hp
      · exact .one hp
      · obtain ⟨y, h1, h2⟩ := rStep_mem.1 hp
        exact (TCr.one h1).snoc h2
    · intro h
      exact h.sub (S := TCr (relZ (R ++ rStep R))) (fun p hp => .one (hsub p hp)) (fun a b c h1 h2 => h1.trans h2)
  by_cases hlt : R.length < (relZ (R ++ rStep R)).length
  · rw [if_pos hlt]
    exact ih (1048576 - (relZ (R ++ rStep R)).length) (by omega) n _ (relZ_relZ _).symm (by omega) (by omega) htc1
  · rw [if_neg hlt]
    have hRn : R.Nodup := by rw [hR]; exact relZ_nodup R
    -- the lists are the same
    have hmem : ∀ p, p ∈ relZ (R ++ rStep R) ↔ p ∈ R := fun p => by
      refine ⟨fun hp => Classical.byContradiction fun hn => ?_, hsub p⟩
      have h1 : (p :: R).length ≤ (relZ (R ++ rStep R)).length := nodup_leZ (List.nodup_cons.2 ⟨hn, hRn⟩) (fun x hx => by
        rcases List.mem_cons.1 hx with rfl | hx
        · exact hp
        · exact hsub x hx)
      simp only [List.length_cons] at h1
      omega
    refine ⟨_, rfl, (relZ_relZ _).symm, hN1, fun x y => ?_⟩
    rw [← htc1]
    constructor
    · exact fun h => .one h
    · intro h
      induction h with
      | one h => exact h
      | snoc _ h ih =>
        exact hstep _ (rStep_mem.2 ⟨_, (hmem _).1 ih, (hmem _).1 h⟩)
theorem rClose (l : List (Int × Int)) (hl : l.length ≤ 1000000000) : m_rclose m_ref16_Relation l = some (closeL l) := by
  classical
  have hFU := FU_ge
  unfold m_rclose closeL
  rw [need_pos (by omega)]
  by_cases hb : ∃ p ∈ l, ¬ pVis p
  · rw [if_pos (show ∃ p ∈ l, ¬ (cVis p.1 ∧ cVis p.2) from hb), if_pos hb]
  · have hv : ∀ p ∈ l, pVis p := fun p hp => Classical.byContradiction fun h => hb ⟨p, hp, h⟩
    rw [if_neg (show ¬ ∃ p ∈ l, ¬ (cVis p.1 ∧ cVis p.2) from hb), if_neg hb, rRel l (by omega), bnd1_mk]
    have hR := relZ_len l
    obtain ⟨N, e, hN, hNl, hNt⟩ := rIter_spec l (1048576 - (relZ l).length) FU (relZ l) (relZ_relZ l).symm (by omega) (by omega) (fun x y => by
      constructor
      · intro h; exact h.sub (S := TCr l) (fun p hp => .one (relZ_mem.1 hp).2) (fun a b c h1 h2 => h1.trans h2)
      · intro h; exact h.sub (S := TCr (relZ l)) (fun p hp => .one (relZ_mem.2 ⟨hv p hp, hp⟩)) (fun a b c h1 h2 => h1.trans h2))
    have hNo : N = ordL l := by
      unfold ordL
      refine asc_relF (by rw [hN]; exact relZ_asc N) (fun p => ?_)
      rw [decide_eq_true_iff, ← hNt]
      constructor
      · intro hp; refine ⟨?_, hp⟩; rw [hN] at hp; exact (relZ_mem.1 hp).1
      · exact fun h => h.2
    rw [e, bnd1_mk, need_pos (by omega)]
    by_cases hc : ∃ k, TCr l k k
    · rw [if_pos hc, if_pos]
      obtain ⟨k, hk⟩ := hc
      exact ⟨(k, k), (hNt k k).2 hk, rfl⟩
    · rw [if_neg hc, if_neg, hNo]
      rintro ⟨p, hp, e⟩
      refine hc ⟨p.1, ?_⟩
      have := (hNt p.1 p.2).1 hp
      rwa [← e] at this

/-! ### The reference's ValidOrder -/
theorem rGreater (o : List (Int × Int)) (x y : Int) (ho : o.length ≤ 1000000000) : m_ref16_greater o x y = some (decide ((x, y) ∈ o)) := by
  unfold m_ref16_greater
  rw [jn_eq]
  have h := loop_all o (by omega) (fun n (_ : Unit) i => m_ref16_greater_L2 o x y (fun _ => some false) n i) (fun u p k => if decide (p = (x, y)) then some true else k u) (fun _ => some false) (fun n u i hi => by
    rw [m_ref16_greater_L2, m_ref16_greater_B2, if_pos (by omega)]
    simp only [jn_eq]
    rw [need_pos (by omega), gi_nat hi, i64_succ (by omega)]
    by_cases h1 : o[i].1 = x
    · rw [if_pos h1, need_pos (by omega)]
      by_cases h2 : o[i].2 = y
      · rw [decide_eq_true h2, if_pos rfl, if_pos (decide_eq_true (Prod.ext h1 h2))]
      · rw [decide_eq_false h2, if_neg Bool.false_ne_true, if_neg (fun h => h2 (by rw [of_decide_eq_true h]))]
    · rw [if_neg h1, if_neg Bool.false_ne_true, if_neg (fun h => h1 (by rw [of_decide_eq_true h]))]) (fun n u => by rw [m_ref16_greater_L2, m_ref16_greater_B2, if_neg (by omega)]) ()
  rw [h, foldK_any (fun p : Int × Int => decide (p = (x, y)))]
  by_cases hm : (x, y) ∈ o
  · rw [decide_eq_true hm, if_pos (List.any_eq_true.2 ⟨_, hm, decide_eq_true rfl⟩)]
  · rw [decide_eq_false hm, if_neg]
    intro h
    obtain ⟨p, hp, e⟩ := List.any_eq_true.1 h
    exact hm (by rw [← of_decide_eq_true e]; exact hp)
def RunO (a : List (Int × Int)) (i : Nat) : Prop := ∀ j, i ≤ j → ∀ h : j < a.length, pVis a[j] ∧ a[j].1 ≠ a[j].2 ∧ (0 < j → LtQ a[j - 1] a[j])
theorem rOrd_loop (a : List (Int × Int)) (ha : a.length ≤ 1000000000) (K : Unit → Option Bool) : ∀ (m i n : Nat), i + m = a.length → m < n → ∃ b, m_ref16_ValidOrder_L2 a K n i = (if b then K () else some false) ∧ (b = true ↔ RunO a i) := by
  intro m
  induction m with
  | zero =>
    intro i n hi hn
    obtain ⟨n, rfl⟩ : ∃ q, n = q + 1 := ⟨n - 1, by omega⟩
    exact ⟨true, by rw [m_ref16_ValidOrder_L2, m_ref16_ValidOrder_B2, if_neg (by omega), if_pos rfl], ⟨fun _ j h1 h2 => by omega, fun _ => rfl⟩⟩
  | succ m ih =>
    intro i n hi hn
    obtain ⟨n, rfl⟩ : ∃ q, n = q + 1 := ⟨n - 1, by omega⟩
    have h1 : i < a.length := by omega
    obtain ⟨b, e, hb⟩ := ih (i + 1) n (by omega) (by omega)
    have hstep : RunO a i ↔ (pVis a[i] ∧ a[i].1 ≠ a[i].2 ∧ (0 < i → LtQ a[i - 1] a[i])) ∧ RunO a (i + 1) := by
      constructor
      · intro h; exact ⟨h i (Nat.le_refl _) h1, fun j hj hl => h j (by omega) hl⟩
      · rintro ⟨h2, h3⟩ j hj hl
        rcases Nat.eq_or_lt_of_le hj with e | e
        · subst e; exact h2
        · exact h3 j e hl
    have no : ¬ (pVis a[i] ∧ a[i].1 ≠ a[i].2 ∧ (0 < i → LtQ a[i - 1] a[i])) → ∃ b, some false = (if b then K () else some false) ∧ (b = true ↔ RunO a i) := fun h => ⟨false, by simp, by
      simp only [Bool.false_eq_true, false_iff]; exact fun h' => h (hstep.1 h').1⟩
    have yes : pVis a[i] ∧ a[i].1 ≠ a[i].2 ∧ (0 < i → LtQ a[i - 1] a[i]) → ∃ b', (if b then K () else some false) = (if b' then K () else some false) ∧ (b' = true ↔ RunO a i) := fun h => ⟨b, rfl, by rw [hb, hstep]; exact ⟨fun h' => ⟨h, h'⟩, fun h' => h'.2⟩⟩
    rw [m_ref16_ValidOrder_L2, m_ref16_ValidOrder_B2, if_pos (by omega), need_pos (by omega)]
    simp only [jn_eq]
    rw [gi_nat h1, rvisZ, rvisZ, bnd1_mk, i64_succ (by omega), e]
    by_cases hv : cVis a[i].1
    · rw [decide_eq_true hv, if_neg (by simp), bnd1_mk]
      by_cases hv2 : cVis a[i].2
      · rw [decide_eq_true hv2, if_neg (by simp)]
        by_cases hne : a[i].1 = a[i].2
        · rw [if_pos hne, if_pos trivial]; exact no (fun h => h.2.1 hne)
        · rw [if_neg hne]
          by_cases h0 : (0 : Int) < (i : Int)
          · have g : gi a ((i : Int) - 1) = a[i - 1] := by
              rw [show (i : Int) - 1 = ((i - 1 : Nat) : Int) by omega, gi_nat (by omega)]
            rw [if_pos h0, i64_sub1 (by omega), need_pos (by omega), need_pos (by omega), g, rBefore, bnd1_mk]
            by_cases hle : LtQ a[i - 1] a[i]
            · rw [decide_eq_true (show LtQ (a[i - 1].1, a[i - 1].2) (a[i].1, a[i].2) from hle), if_neg (by simp)]
              exact yes ⟨⟨hv, hv2⟩, hne, fun _ => hle⟩
            · rw [decide_eq_false (show ¬ LtQ (a[i - 1].1, a[i - 1].2) (a[i].1, a[i].2) from hle), if_pos (by simp)]
              exact no (fun h => hle (h.2.2 (by omega)))
          · rw [if_neg h0, if_neg Bool.false_ne_true]
            exact yes ⟨⟨hv, hv2⟩, hne, fun h => by omega⟩
      · rw [decide_eq_false hv2, if_pos (by simp), if_pos trivial]
        exact no (fun h => hv2 h.1.2)
    · rw [decide_eq_false hv, if_pos (by simp), if_pos trivial]
      exact no (fun h => hv h.1.1)
def trB (o : List (Int × Int)) : Bool := !o.any (fun p => o.any (fun q => decide (p.2 = q.1) && !decide ((p.1, q.2) ∈ o)))
theorem trB_iff {o : List (Int × Int)} : trB o = true ↔ ∀ x y z, (x, y) ∈ o → (y, z) ∈ o → (x, z) ∈ o := by
  unfold trB
  rw [Bool.not_eq_true', ← Bool.not_eq_true, List.any_eq_true]
  constructor
  · intro h x y z h1 h2
    refine Classical.byContradiction fun hn => h ⟨(x, y), h1, List.any_eq_true.2 ⟨(y, z), h2, ?_⟩⟩
    rw [decide_eq_true rfl, decide_eq_false hn]; rfl
  · rintro h ⟨p, hp, hq⟩
    obtain ⟨q, hq, e⟩ := List.any_eq_true.1 hq
    rw [Bool.and_eq_true] at e
    have e1 := of_decide_eq_true e.1
    have e2 : (p.1, q.2) ∉ o := by simpa using e.2
    exact e2 (h p.1 p.2 q.2 hp (by rw [e1]; exact hq))
theorem ord_iff {o : List (Int × Int)} : OrdOk o ↔ RunO o 0 ∧ ∀ x y z, (x, y) ∈ o → (y, z) ∈ o → (x, z) ∈ o := by
  classical
  constructor
  · rintro ⟨h1, h2, h3⟩
    have hm : ∀ p, p ∈ o ↔ TCr o p.1 p.2 := fun p => by
      have := ordL_mem (l := o) h1 (p := p)
      rwa [← h3] at this
    have hp : o.Pairwise LtQ := by rw [h3]; unfold ordL; exact relF_asc _
    refine ⟨fun j _ hj => ⟨h1 _ (List.getElem_mem hj), fun e => ?_, fun h0 => List.pairwise_iff_getElem.1 hp (j - 1) j (by omega) hj (by omega)⟩, fun x y z a b => ?_⟩
    · have := (hm _).1 (List.getElem_mem hj)
      rw [← e] at this
      exact h2 ⟨_, this⟩
    · exact (hm (x, z)).2 (((hm (x, y)).1 a).trans ((hm (y, z)).1 b))
  · rintro ⟨h1, h2⟩
    have hv : ∀ p ∈ o, pVis p := fun p hp => by
      obtain ⟨j, hj, rfl⟩ := List.getElem_of_mem hp
      exact (h1 j (Nat.zero_le _) hj).1
    have hm : ∀ x y, TCr o x y ↔ (x, y) ∈ o := fun x y => ⟨fun h => h.sub (S := fun x y => (x, y) ∈ o) (fun p hp => hp) (fun a b c => h2 a b c), .one⟩
    refine ⟨hv, ?_, ?_⟩
    · rintro ⟨k, hk⟩
      rw [hm] at hk
      obtain ⟨j, hj, e⟩ := List.getElem_of_mem hk
      exact (h1 j (Nat.zero_le _) hj).2.1 (by rw [e])
    · unfold ordL
      refine asc_relF (steps_pw (lt := LtQ) (fun h1 h2 => h1.tr h2) (fun j hj h0 => (h1 j (Nat.zero_le _) hj).2.2 h0)) (fun p => ?_)
      rw [decide_eq_true_iff, hm]
      exact ⟨fun h => ⟨hv p h, h⟩, fun h => h.2⟩
theorem rValidOrder (o : List (Int × Int)) (ho : o.length ≤ 1000000000) : m_ref16_ValidOrder o = some (ordB o) := by
  classical
  have hFU := FU_ge
  unfold m_ref16_ValidOrder
  rw [jn_eq]
  obtain ⟨b, e, hb⟩ := rOrd_loop o ho (fun _ => jn (fun (_ : Unit) => some true) (fun k165 => m_ref16_ValidOrder_L10 o k165 FU 0)) o.length 0 FU (by omega) (by omega)
  rw [Int.natCast_zero] at e
  rw [e]
  have inner : ∀ (i : Nat) (hi : i < o.length) (K : Unit → Option Bool), m_ref16_ValidOrder_L16 o i K FU 0 = if o.any (fun q => decide (o[i].2 = q.1) && !decide ((o[i].1, q.2) ∈ o)) then some false else K () := fun i hi K => by
    have h := loop_all o (by omega) (fun n (_ : Unit) j => m_ref16_ValidOrder_L16 o i K n j) (fun u q k => if decide (o[i].2 = q.1) && !decide ((o[i].1, q.2) ∈ o) then some false else k u) (fun _ => K ()) (fun n u j hj => by
      rw [m_ref16_ValidOrder_L16, m_ref16_ValidOrder_B16, if_pos (by omega)]
      simp only [jn_eq]
      rw [need_pos (by omega), need_pos (by omega), gi_nat hi, gi_nat hj, i64_succ (by omega)]
      by_cases h1 : o[i].2 = o[j].1
      · rw [if_pos h1, need_pos (by omega), need_pos (by omega), rGreater o _ _ ho, bnd1_mk, decide_eq_true h1, Bool.true_and]
      · rw [if_neg h1, decide_eq_false h1]; simp) (fun n u => by rw [m_ref16_ValidOrder_L16, m_ref16_ValidOrder_B16, if_neg (by omega)]) ()
    rw [h, foldK_any (fun q : Int × Int => decide (o[i].2 = q.1) && !decide ((o[i].1, q.2) ∈ o))]
  have outer : jn (fun (_ : Unit) => some true) (fun k165 => m_ref16_ValidOrder_L10 o k165 FU 0) = some (trB o) := by
    rw [jn_eq]
    have h := loop_all o (by omega) (fun n (_ : Unit) j => m_ref16_ValidOrder_L10 o (fun _ => some true) n j) (fun u p k => if o.any (fun q => decide (p.2 = q.1) && !decide ((p.1, q.2) ∈ o)) then some false else k u) (fun _ => some true) (fun n u j hj => by
      rw [m_ref16_ValidOrder_L10, m_ref16_ValidOrder_B10, if_pos (by omega), jn_eq, inner j hj, i64_succ (by omega)]) (fun n u => by rw [m_ref16_ValidOrder_L10, m_ref16_ValidOrder_B10, if_neg (by omega)]) ()
    rw [h, foldK_any (fun p : Int × Int => o.any (fun q => decide (p.2 = q.1) && !decide ((p.1, q.2) ∈ o)))]
    unfold trB
    cases o.any (fun p => o.any (fun q => decide (p.2 = q.1) && !decide ((p.1, q.2) ∈ o))) <;> rfl
  unfold ordB
  cases b with
  | true =>
    rw [if_pos rfl]
    refine outer.trans ?_
    congr 1
    by_cases ht : trB o = true
    · have hok : OrdOk o := ord_iff.2 ⟨hb.1 rfl, trB_iff.1 ht⟩
      rw [ht, decide_eq_true hok]
    · have hno : ¬ OrdOk o := fun h => ht (trB_iff.2 (ord_iff.1 h).2)
      have ht' : trB o = false := by simpa using ht
      rw [ht', decide_eq_false hno]
  | false =>
    have hno : ¬ OrdOk o := fun h => by have := hb.2 (ord_iff.1 h).1; cases this
    rw [if_neg Bool.false_ne_true, decide_eq_false hno]

/-! ### The reference's Keep -/
theorem foldK_and {α ρ : Type} (g : α → Bool) (K : Bool → Option ρ) : ∀ (l : List α) (b : Bool), foldK (fun b x k => if g x then k false else k b) K l b = K (b && !l.any g)
  | [], b => by simp [foldK]
  | x :: xs, b => by
    rw [foldK]
    cases hg : g x with
    | true => rw [if_pos rfl]; refine (foldK_and g K xs false).trans ?_; simp [hg]
    | false => rw [if_neg Bool.false_ne_true]; refine (foldK_and g K xs b).trans ?_; simp [hg]
theorem rKeep (o : List (Int × Int)) (s : List Int) (ho : o.length ≤ 1000000000) (hs : s.length ≤ 1000000000) : m_ref16_Keep o s = some (keepL o s) := by
  unfold m_ref16_Keep keepL
  rw [rValidOrder o ho, bnd1_mk]
  cases hb : ordB o with
  | false => rw [if_pos (by simp), need_pos (by omega), if_neg Bool.false_ne_true]
  | true =>
    rw [if_neg (by simp), jn_eq, if_pos rfl]
    have inner : ∀ (i : Nat) (hi : i < s.length) (K : Bool → Option (List Int)), m_ref16_Keep_L26 o s i K FU true 0 = K (!beatB o s s[i]) := fun i hi K => by
      have h := loop_all o (by omega) (fun n (b : Bool) j => m_ref16_Keep_L26 o s i K n b j) (fun b p k => if decide (p.1 = s[i]) && ((decide (0 ∈ s) || decide (1 ∈ s)) || decide (p.2 ∈ s)) then k false else k b) K (fun n b j hj => by
        rw [m_ref16_Keep_L26, m_ref16_Keep_B26, if_pos (by omega)]
        simp only [jn_eq]
        rw [need_pos (by omega), need_pos (by omega), gi_nat hi, gi_nat hj, i64_succ (by omega)]
        by_cases h1 : o[j].1 = s[i]
        · rw [if_pos h1, need_pos (by omega), rHasI s _ (by omega), bnd1_mk, rHasI s _ (by omega), bnd1_mk, rHasI s _ (by omega), bnd1_mk, decide_eq_true h1]
          by_cases a1 : o[j].2 ∈ s <;> by_cases a2 : (0 : Int) ∈ s <;> by_cases a3 : (1 : Int) ∈ s <;> simp [a1, a2, a3]
        · rw [if_neg h1, decide_eq_false h1]; simp) (fun n b => by rw [m_ref16_Keep_L26, m_ref16_Keep_B26, if_neg (by omega)]) true
      rw [h, foldK_and (fun p : Int × Int => decide (p.1 = s[i]) && ((decide (0 ∈ s) || decide (1 ∈ s)) || decide (p.2 ∈ s)))]
      rfl
    have h := loop_all s (by omega) (fun n (r : List Int) j => m_ref16_Keep_L14 o s (fun x => some x) n r j) (fun r x k => if !beatB o s x then need (List.length r + 1 ≤ 137438953472) (k (r ++ [id x])) else k r) (fun x => some x) (fun n r j hj => by
      rw [m_ref16_Keep_L14, m_ref16_Keep_B14, if_pos (by omega)]
      simp only [jn_eq]
      rw [inner j hj, need_pos (by omega), gi_nat hj, i64_succ (by omega)]; rfl) (fun n r => by rw [m_ref16_Keep_L14, m_ref16_Keep_B14, if_neg (by omega)]) []
    rw [h, foldK_app (fun x : Int => !beatB o s x) id _ _ _ (by rw [List.length_nil]; omega), List.nil_append, List.map_id]
end Go.Proofs.Ytkbbeeeoogjknaa
/- The laws of layer 15 on orders. -/
namespace Go.Proofs.Ytkbbeeeoogjknaa
set_option maxRecDepth 100000
attribute [local irreducible] FU cKeys keyF pKeys relF

theorem closeL_len (l : List (Int × Int)) : (closeL l).1.length ≤ 1048576 := by
  classical
  unfold closeL
  split
  · simp
  · split
    · simp
    · exact ordL_len l
theorem keepL_len (o : List (Int × Int)) (s : List Int) : (keepL o s).length ≤ s.length := by
  unfold keepL
  split
  · exact List.length_filter_le _ _
  · exact Nat.le_refl _

/-! ### What is drawn -/
/-- Pairs with the lesser event first. -/
def Up (l : List (Int × Int)) : Prop := (∀ p ∈ l, pVis p ∧ p.1 < p.2) ∧ l.length ≤ 10
theorem Up.tc {l : List (Int × Int)} (h : Up l) {x y : Int} (ht : TCr l x y) : x < y :=
  ht.sub (S := fun x y => x < y) (fun p hp => (h.1 p hp).2) (fun a b c h1 h2 => by omega)
theorem Up.ok {l : List (Int × Int)} (h : Up l) : closeL l = (ordL l, 0) ∧ (∀ p ∈ l, pVis p) ∧ OrdOk (ordL l) := by
  classical
  have hv : ∀ p ∈ l, pVis p := fun p hp => (h.1 p hp).1
  have hc : ¬ ∃ k, TCr l k k := by rintro ⟨k, hk⟩; have := h.tc hk; omega
  have hm : ∀ p, p ∈ ordL l ↔ TCr l p.1 p.2 := fun p => ordL_mem hv
  refine ⟨?_, hv, ?_⟩
  · unfold closeL; rw [if_neg (by rintro ⟨p, hp, hn⟩; exact hn (hv p hp)), if_neg hc]
  · rw [ord_iff]
    have ha : (ordL l).Pairwise LtQ := by unfold ordL; exact relF_asc _
    refine ⟨fun j _ hj => ⟨?_, fun e => ?_, fun h0 => List.pairwise_iff_getElem.1 ha (j - 1) j (by omega) hj (by omega)⟩, fun x y z h1 h2 => ?_⟩
    · exact ((hm _).1 (List.getElem_mem hj)).vis hv
    · have := h.tc ((hm _).1 (List.getElem_mem hj)); omega
    · exact (hm (x, z)).2 (((hm (x, y)).1 h1).trans ((hm (y, z)).1 h2))
theorem Up.snoc {l : List (Int × Int)} (h : Up l) {x y : Int} (hx : 2 ≤ x ∧ x < 6) (hy : 2 ≤ y ∧ y < 6) (hne : x ≠ y) (hl : l.length < 10) : Up (l ++ [(min x y, max x y)]) := by
  refine ⟨fun p hp => ?_, by rw [List.length_append]; simp; omega⟩
  rcases List.mem_append.1 hp with hp | hp
  · exact h.1 p hp
  · rw [List.mem_singleton] at hp
    subst hp
    refine ⟨⟨?_, ?_⟩, ?_⟩
    · show 2 ≤ min x y ∧ min x y < 1026; omega
    · show 2 ≤ max x y ∧ max x y < 1026; omega
    · show min x y < max x y; omega
theorem gOrder_loop (K : List Int → Int → List (Int × Int) → Option ((List (Int × Int)) × ((List Int) × Int))) : ∀ (m n : Nat) (l : List Int) (i : Int) (out : List (Int × Int)), m < n → out.length + m ≤ 10 → GSZ l i → Up out →
    ∃ i' out', m_gen_Choices_Order_L2 K n l i out m = K l i' out' ∧ GSZ l i' ∧ Up out' := by
  intro m
  induction m with
  | zero =>
    intro n l i out hn ho hg hu
    obtain ⟨n, rfl⟩ : ∃ q, n = q + 1 := ⟨n - 1, by omega⟩
    exact ⟨i, out, by rw [m_gen_Choices_Order_L2, m_gen_Choices_Order_B2, if_neg (by omega)], hg, hu⟩
  | succ m ih =>
    intro n l i out hn ho hg hu
    obtain ⟨n, rfl⟩ : ∃ q, n = q + 1 := ⟨n - 1, by omega⟩
    obtain ⟨y, i1, e1, g1, hy⟩ := gEventZ hg
    obtain ⟨z, i2, e2, g2, hz⟩ := gEventZ g1
    have es : i64 (((m + 1 : Nat) : Int) - 1) = (m : Int) := by rw [i64_id (by omega)]; omega
    rw [m_gen_Choices_Order_L2, m_gen_Choices_Order_B2, if_pos (by omega)]
    simp only [jn_eq]
    rw [e1, bnd1_mk]
    simp only []
    rw [e2, bnd1_mk, es]
    by_cases h : y = z
    · rw [if_neg (fun h' => h' h)]
      exact ih n l i2 out (by omega) (by omega) g2 hu
    · rw [if_pos h, need_pos (by simp; omega)]
      exact ih n l i2 _ (by omega) (by simp; omega) g2 (hu.snoc hy hz h (by omega))
theorem gOrderZ {l : List Int} {i : Int} (h : GSZ l i) : ∃ p i', m_gen_Choices_Order (l, i) = some (ordL p, (l, i')) ∧ GSZ l i' ∧ Up p := by
  have hFU := FU_ge
  obtain ⟨y, i1, e1, g1, h0, h1⟩ := gNextZ h (n := 4) (by omega) (by omega)
  unfold m_gen_Choices_Order
  rw [jn_eq, e1, bnd1_mk]
  obtain ⟨i2, out, e2, g2, hu⟩ := gOrder_loop (fun x0_0_j1 x0_1_j1 x3_j1 => bnd1 (m_rclose m_ref16_Relation x3_j1) (fun y59 => some (y59.1, (x0_0_j1, x0_1_j1)))) y.toNat FU l i1 [] (by omega) (by rw [List.length_nil]; omega) g1 ⟨fun p hp => (by cases hp), (by simp)⟩
  have ey : ((y.toNat : Nat) : Int) = y := by omega
  rw [ey] at e2
  refine ⟨out, i2, ?_, g2, hu⟩
  refine e2.trans ?_
  rw [rClose _ (by have := hu.2; omega), bnd1_mk, hu.ok.1]

/-! ### AlphabetOrders -/
theorem ordB_body (K : Unit → Option Bool) (rec : (List (Int × Int)) → (List Int) → (List Int) → Int → (List (Int × Int)) → Int → Option Bool) (o : List (Int × Int)) (s c : List Int) (i : Int) (x8 : List (Int × Int)) (j : Int) (hj : j < 3) (ho : o.length ≤ 10000000) (hs : s.length ≤ 10000000) :
    m_law15_AlphabetOrders_B4 K rec o s c i x8 j = if j = 0 then bnd1 (m_law15_near s) (fun y434 => rec x8 y434 c i x8 (i64 (j + 1))) else bnd1 (m_gen_Choices_Order (c, i)) (fun y433 => bnd1 (m_law15_near s) (fun y434 => rec y433.1 y434 y433.2.1 y433.2.2 x8 (i64 (j + 1)))) := by
  have hcl := closeL_len o
  have hkl := keepL_len o s
  rw [m_law15_AlphabetOrders_B4, if_pos hj, vClose o (by omega), bnd1_mk, rClose o (by omega), bnd1_mk]
  simp only [jn_eq]
  rw [hEqualA _ _ (by omega), bnd1_mk, decide_eq_true rfl, if_neg (by simp), if_neg (fun h => h trivial), vValidOrder o (by omega), bnd1_mk, rValidOrder o (by omega), bnd1_mk, if_neg (fun h => h rfl), vKeep o s (by omega) (by omega), bnd1_mk, rKeep o s (by omega) (by omega), bnd1_mk, hEqualI _ _ (by omega), bnd1_mk, decide_eq_true rfl, if_neg (by simp)]
theorem ordDraw (K : List Int → Int → List (Int × Int) → Option Bool) : ∀ (m n : Nat) (l : List Int) (i : Int) (out : List (Int × Int)), m < n → out.length + m ≤ 10 → GSZ l i → ∃ i' out', m_law15_AlphabetOrders_L2 K n l i out m = K l i' out' ∧ GSZ l i' ∧ out'.length ≤ 10 := by
  intro m
  induction m with
  | zero =>
    intro n l i out hn ho hg
    obtain ⟨n, rfl⟩ : ∃ q, n = q + 1 := ⟨n - 1, by omega⟩
    exact ⟨i, out, by rw [m_law15_AlphabetOrders_L2, m_law15_AlphabetOrders_B2, if_neg (by omega)], hg, by omega⟩
  | succ m ih =>
    intro n l i out hn ho hg
    obtain ⟨n, rfl⟩ : ∃ q, n = q + 1 := ⟨n - 1, by omega⟩
    obtain ⟨y, i1, e1, g1, hy⟩ := gEventZ hg
    obtain ⟨z, i2, e2, g2, hz⟩ := gEventZ g1
    have es : i64 (((m + 1 : Nat) : Int) - 1) = (m : Int) := by rw [i64_id (by omega)]; omega
    rw [m_law15_AlphabetOrders_L2, m_law15_AlphabetOrders_B2, if_pos (by omega), e1, bnd1_mk]
    simp only []
    rw [e2, bnd1_mk, es, need_pos (by simp; omega)]
    exact ih n l i2 _ (by omega) (by simp; omega) g2
theorem alphabetOrders_T (o : List (Int × Int)) (s c : List Int) (ho : o.length ≤ 10000000) (hs : s.length ≤ 10000000) (hc : c.length ≤ 9223372036854775807) : m_law15_AlphabetOrders o s c = some true := by
  have hFU := FU_ge
  unfold m_law15_AlphabetOrders m_gen_New
  have g0 : GSZ c 0 := ⟨by omega, by omega, hc⟩
  obtain ⟨y, i1, e1, g1, h0, h1⟩ := gNextZ g0 (n := 6) (by omega) (by omega)
  rw [bnd1_mk, jn_eq]
  simp only []
  rw [e1, bnd1_mk]
  simp only []
  obtain ⟨i2, out, e2, g2, hl⟩ := ordDraw (fun x7_0_j3 x7_1_j3 x8_j3 => jn (fun (_ : Unit) => bnd1 (m_law15_awake) (fun y435 => some y435)) (fun k31 => m_law15_AlphabetOrders_L4 k31 FU o s x7_0_j3 x7_1_j3 x8_j3 0)) y.toNat FU c i1 [] (by omega) (by rw [List.length_nil]; omega) g1
  have ey : ((y.toNat : Nat) : Int) = y := by omega
  rw [ey] at e2
  refine e2.trans ?_
  obtain ⟨n, hn⟩ : ∃ n, FU = n + 4 := ⟨FU - 4, by omega⟩
  rw [jn_eq, hn]
  have w1 : i64 (0 + 1) = 1 := rfl
  have w2 : i64 (1 + 1) = 2 := rfl
  have w3 : i64 (2 + 1) = 3 := rfl
  obtain ⟨s1, n1, l1⟩ := vNear s
  obtain ⟨s2, n2, l2⟩ := vNear s1
  obtain ⟨s3, n3, l3⟩ := vNear s2
  rw [m_law15_AlphabetOrders_L4, ordB_body _ _ o s c i2 out 0 (by omega) ho hs, if_pos rfl, n1, bnd1_mk, w1]
  obtain ⟨p, i3, e3, g3, hp⟩ := gOrderZ g2
  obtain ⟨p', i4, e4, g4, hp'⟩ := gOrderZ g3
  have lp := ordL_len p
  rw [m_law15_AlphabetOrders_L4, ordB_body _ _ out s1 c i2 out 1 (by omega) (by omega) (by omega), if_neg (by omega), e3, bnd1_mk, n2, bnd1_mk, w2]
  simp only []
  rw [m_law15_AlphabetOrders_L4, ordB_body _ _ (ordL p) s2 c i3 out 2 (by omega) (by omega) (by omega), if_neg (by omega), e4, bnd1_mk, n3, bnd1_mk, w3]
  simp only []
  rw [m_law15_AlphabetOrders_L4, m_law15_AlphabetOrders_B4, if_neg (by omega), awake_true, bnd1_mk]

/-! ### AlphabetCloses -/
/-! ### AlphabetKeeps -/
end Go.Proofs.Ytkbbeeeoogjknaa
