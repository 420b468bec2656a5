/- Models, by program: what the functions compute. -/
import Derived.Test.YtdppkpiagdaigaaDoorKI0
namespace Go.Proofs.YtdppkpiagdaigaaDoor

/- cspcheck.value.append64 -/
noncomputable def m_value_append64_B2 (a1 : Int) (k1 : (List UInt8) → Option (List UInt8)) (rec2 : (List UInt8) → Int → Option (List UInt8)) (x0_l2 : List UInt8) (x5_l2 : Int) : Option (List UInt8) :=
  if 0 ≤ x5_l2 then (need (¬ x5_l2 < 0) (need (List.length x0_l2 + List.length [u8i (Int.fdiv a1 (2 ^ min (Int.toNat x5_l2) IntKind.u64.bits))] ≤ 137438953472) (rec2 (x0_l2 ++ [u8i (Int.fdiv a1 (2 ^ min (Int.toNat x5_l2) IntKind.u64.bits))]) (i64 (x5_l2 - 8))))) else (k1 x0_l2)
noncomputable def m_value_append64_L2 (a1 : Int) (k1 : (List UInt8) → Option (List UInt8)) : Nat → (List UInt8) → Int → Option (List UInt8)
  | 0, _, _ => none
  | n + 1, x0_l2, x5_l2 => m_value_append64_B2 a1 k1 (m_value_append64_L2 a1 k1 n) x0_l2 x5_l2
noncomputable def m_value_append64 (a0 : List UInt8) (a1 : Int) : Option (List UInt8) :=
  jn (fun (x0_j1 : List UInt8) => some x0_j1) (fun k1 => m_value_append64_L2 a1 k1 FU a0 56)
/- cspcheck.value.Int -/
noncomputable def m_value_Int (a0 : Int) : Option (List UInt8) :=
  bnd1 (m_value_append64 [1] (IntKind.u64.wrap (a0))) (fun y2 => some y2)
/- cspcheck.value.append16 -/
noncomputable def m_value_append16 (a0 : List UInt8) (a1 : Int) : Option (List UInt8) :=
  need (List.length a0 + List.length [u8i (Int.fdiv a1 (2 ^ min (Int.toNat 8) IntKind.u16.bits)), u8i a1] ≤ 137438953472) (some (a0 ++ [u8i (Int.fdiv a1 (2 ^ min (Int.toNat 8) IntKind.u16.bits)), u8i a1]))
/- slices.IndexFunc(()cspcheck.api.Value,cspcheck.api.Value) -/
noncomputable def m_slices_IndexFunc_L_api_Value_api_Value_B2 (a0 : List (List UInt8)) (a1 : (List UInt8) → Option Bool) (k1 : Unit → Option Int) (rec2 : Int → Option Int) (x8_l2 : Int) : Option Int :=
  if x8_l2 < (List.length a0 : Int) then (need ((0 : Int) ≤ x8_l2 ∧ x8_l2 < (List.length a0 : Int)) (bnd1 (a1 (gi a0 x8_l2)) (fun y14 => if y14 then (some x8_l2) else (rec2 (i64 (x8_l2 + 1)))))) else (k1 ())
noncomputable def m_slices_IndexFunc_L_api_Value_api_Value_L2 (a0 : List (List UInt8)) (a1 : (List UInt8) → Option Bool) (k1 : Unit → Option Int) : Nat → Int → Option Int
  | 0, _ => none
  | n + 1, x8_l2 => m_slices_IndexFunc_L_api_Value_api_Value_B2 a0 a1 k1 (m_slices_IndexFunc_L_api_Value_api_Value_L2 a0 a1 k1 n) x8_l2
noncomputable def m_slices_IndexFunc_L_api_Value_api_Value (a0 : List (List UInt8)) (a1 : (List UInt8) → Option Bool) : Option Int :=
  jn (fun (_ : Unit) => some (-1)) (fun k1 => m_slices_IndexFunc_L_api_Value_api_Value_L2 a0 a1 k1 FU 0)
/- slices.ContainsFunc(()cspcheck.api.Value,cspcheck.api.Value) -/
noncomputable def m_slices_ContainsFunc_L_api_Value_api_Value (a0 : List (List UInt8)) (a1 : (List UInt8) → Option Bool) : Option Bool :=
  bnd1 (m_slices_IndexFunc_L_api_Value_api_Value a0 a1) (fun y1 => some (decide (0 ≤ y1)))
/- cmp.isNaN(byte) -/
noncomputable def m_cmp_isNaN_byte (a0 : UInt8) : Option Bool :=
  some (decide (¬ a0 = a0))
/- cmp.Compare(byte) -/
noncomputable def m_cmp_Compare_byte (a0 : UInt8) (a1 : UInt8) : Option Int :=
  bnd1 (m_cmp_isNaN_byte a0) (fun y1 => bnd1 (m_cmp_isNaN_byte a1) (fun y2 => if y1 then (if y2 then (some 0) else (some (-1))) else (if y2 then (some 1) else (if a0 < a1 then (some (-1)) else (if a1 < a0 then (some 1) else (some 0))))))
/- cspcheck.value.integer -/
noncomputable def m_value_integer_B2 (a0 : List UInt8) (k1 : Int → Option Int) (rec2 : Int → Int → Option Int) (x3_l2 : Int) (x4_l2 : Int) : Option Int :=
  if x4_l2 < 9 then (need ((0 : Int) ≤ x4_l2 ∧ x4_l2 < (List.length a0 : Int)) (rec2 (bOr .u64 (IntKind.u64.wrap (x3_l2 * 2 ^ min (Int.toNat 8) IntKind.u64.bits)) (UInt8.toNat (gi a0 x4_l2) : Int)) (i64 (x4_l2 + 1)))) else (k1 x3_l2)
noncomputable def m_value_integer_L2 (a0 : List UInt8) (k1 : Int → Option Int) : Nat → Int → Int → Option Int
  | 0, _, _ => none
  | n + 1, x3_l2, x4_l2 => m_value_integer_B2 a0 k1 (m_value_integer_L2 a0 k1 n) x3_l2 x4_l2
noncomputable def m_value_integer (a0 : List UInt8) : Option Int :=
  jn (fun (x3_j1 : Int) => some (i64 (x3_j1))) (fun k1 => m_value_integer_L2 a0 k1 FU 0 1)
/- cmp.isNaN(int64) -/
noncomputable def m_cmp_isNaN_int64 (a0 : Int) : Option Bool :=
  some (decide (¬ a0 = a0))
/- cmp.Compare(int64) -/
noncomputable def m_cmp_Compare_int64 (a0 : Int) (a1 : Int) : Option Int :=
  bnd1 (m_cmp_isNaN_int64 a0) (fun y1 => bnd1 (m_cmp_isNaN_int64 a1) (fun y2 => if y1 then (if y2 then (some 0) else (some (-1))) else (if y2 then (some 1) else (if a0 < a1 then (some (-1)) else (if a1 < a0 then (some 1) else (some 0))))))
/- cspcheck.value.simple -/
noncomputable def m_value_simple (a0 : Int) : Option Bool :=
  jn (fun (x2_j1 : Bool) => some x2_j1) (fun k1 => if a0 = 0 then (k1 true) else (if a0 = 1 then (k1 true) else (if a0 = 2 then (k1 true) else (k1 (decide (a0 = 10))))))
/- cmp.isNaN(cspcheck.api.Value) -/
noncomputable def m_cmp_isNaN_api_Value (a0 : List UInt8) : Option Bool :=
  some (decide (¬ a0 = a0))
/- cmp.Compare(cspcheck.api.Value) -/
noncomputable def m_cmp_Compare_api_Value (a0 : List UInt8) (a1 : List UInt8) : Option Int :=
  bnd1 (m_cmp_isNaN_api_Value a0) (fun y1 => bnd1 (m_cmp_isNaN_api_Value a1) (fun y2 => if y1 then (if y2 then (some 0) else (some (-1))) else (if y2 then (some 1) else (if ltS a0 a1 then (some (-1)) else (if ltS a1 a0 then (some 1) else (some 0))))))
/- cspcheck.value.span -/
noncomputable def m_value_span_B2 (self_value_span : (List UInt8) → Option Int) (a0 : List UInt8) (k2 : Int → Option Int) (rec2 : Int → Int → Option Int) (x3_l2 : Int) (x20_l2 : Int) : Option Int :=
  if x20_l2 < (bOr .i64 (i64 ((UInt8.toNat (gi a0 1) : Int) * 2 ^ min (Int.toNat 8) IntKind.i64.bits)) (UInt8.toNat (gi a0 2) : Int)) then (need ((0 : Int) ≤ x3_l2 ∧ x3_l2 ≤ (List.length a0 : Int)) (bnd1 (self_value_span (List.drop (Int.toNat x3_l2) a0)) (fun y19 => rec2 (i64 (x3_l2 + y19)) (i64 (x20_l2 + 1))))) else (k2 x3_l2)
noncomputable def m_value_span_L2 (self_value_span : (List UInt8) → Option Int) (a0 : List UInt8) (k2 : Int → Option Int) : Nat → Int → Int → Option Int
  | 0, _, _ => none
  | n + 1, x3_l2, x20_l2 => m_value_span_B2 self_value_span a0 k2 (m_value_span_L2 self_value_span a0 k2 n) x3_l2 x20_l2
noncomputable def m_value_span_F (self_value_span : (List UInt8) → Option Int) (a0 : List UInt8) : Option Int :=
  need ((0 : Int) ≤ 0 ∧ 0 < (List.length a0 : Int)) (if (gi a0 0) = 1 then (some 9) else (if (gi a0 0) = 2 then (some 2) else (if (gi a0 0) = 10 then (some 3) else (jn (fun (x3_j2 : Int) => some x3_j2) (fun k2 => need ((0 : Int) ≤ 1 ∧ 1 < (List.length a0 : Int)) (need ((0 : Int) ≤ 2 ∧ 2 < (List.length a0 : Int)) (m_value_span_L2 self_value_span a0 k2 FU 3 0)))))))
/- cspcheck.value.span -/
noncomputable def m_value_span_S : Nat → ((List UInt8) → Option Int)
  | 0 => (fun _ => none)
  | n + 1 => m_value_span_F (m_value_span_S n)
noncomputable def m_value_span (a0 : List UInt8) : Option Int := m_value_span_S FU a0
/- slices.Clip(()cspcheck.api.Value,cspcheck.api.Value) -/
noncomputable def m_slices_Clip_L_api_Value_api_Value (a0 : List (List UInt8)) : Option (List (List UInt8)) :=
  need (0 ≤ (List.length a0 : Int)) (some (List.take (Int.toNat (List.length a0 : Int)) a0))
/- cspcheck.value.parts -/
noncomputable def m_value_parts_B2 (a0 : List UInt8) (k1 : (List (List UInt8)) → Option (List (List UInt8))) (rec2 : (List (List UInt8)) → Int → Option (List (List UInt8))) (x3_l2 : List (List UInt8)) (x4_l2 : Int) : Option (List (List UInt8)) :=
  if x4_l2 < (List.length a0 : Int) then (need ((0 : Int) ≤ x4_l2 ∧ x4_l2 ≤ (List.length a0 : Int)) (bnd1 (m_value_span (List.drop (Int.toNat x4_l2) a0)) (fun y29 => need ((0 : Int) ≤ x4_l2 ∧ x4_l2 ≤ i64 (x4_l2 + y29) ∧ (i64 (x4_l2 + y29)) ≤ (List.length a0 : Int)) (need (List.length x3_l2 + List.length [List.take (Int.toNat (i64 (x4_l2 + y29)) - Int.toNat x4_l2) (List.drop (Int.toNat x4_l2) a0)] ≤ 137438953472) (rec2 (x3_l2 ++ [List.take (Int.toNat (i64 (x4_l2 + y29)) - Int.toNat x4_l2) (List.drop (Int.toNat x4_l2) a0)]) (i64 (x4_l2 + y29))))))) else (k1 x3_l2)
noncomputable def m_value_parts_L2 (a0 : List UInt8) (k1 : (List (List UInt8)) → Option (List (List UInt8))) : Nat → (List (List UInt8)) → Int → Option (List (List UInt8))
  | 0, _, _ => none
  | n + 1, x3_l2, x4_l2 => m_value_parts_B2 a0 k1 (m_value_parts_L2 a0 k1 n) x3_l2 x4_l2
noncomputable def m_value_parts (a0 : List UInt8) : Option (List (List UInt8)) :=
  jn (fun (x3_j1 : List (List UInt8)) => bnd1 (m_slices_Clip_L_api_Value_api_Value x3_j1) (fun y33 => some y33)) (fun k1 => m_value_parts_L2 a0 k1 FU [] 3)
/- slices.CompareFunc(()cspcheck.api.Value,()cspcheck.api.Value,cspcheck.api.Value,cspcheck.api.Value) -/
noncomputable def m_slices_CompareFunc_L_api_Value_L_api_Value_api_Value_api_Value_B2 (a0 : List (List UInt8)) (a1 : List (List UInt8)) (a2 : (List UInt8) → (List UInt8) → Option Int) (k1 : Unit → Option Int) (rec2 : Int → Option Int) (x13_l2 : Int) : Option Int :=
  if x13_l2 < (List.length a0 : Int) then (need ((0 : Int) ≤ x13_l2 ∧ x13_l2 < (List.length a0 : Int)) (if (List.length a1 : Int) ≤ x13_l2 then (some 1) else (need ((0 : Int) ≤ x13_l2 ∧ x13_l2 < (List.length a1 : Int)) (bnd1 (a2 (gi a0 x13_l2) (gi a1 x13_l2)) (fun y20 => if ¬ y20 = 0 then (some y20) else (rec2 (i64 (x13_l2 + 1)))))))) else (k1 ())
noncomputable def m_slices_CompareFunc_L_api_Value_L_api_Value_api_Value_api_Value_L2 (a0 : List (List UInt8)) (a1 : List (List UInt8)) (a2 : (List UInt8) → (List UInt8) → Option Int) (k1 : Unit → Option Int) : Nat → Int → Option Int
  | 0, _ => none
  | n + 1, x13_l2 => m_slices_CompareFunc_L_api_Value_L_api_Value_api_Value_api_Value_B2 a0 a1 a2 k1 (m_slices_CompareFunc_L_api_Value_L_api_Value_api_Value_api_Value_L2 a0 a1 a2 k1 n) x13_l2
noncomputable def m_slices_CompareFunc_L_api_Value_L_api_Value_api_Value_api_Value (a0 : List (List UInt8)) (a1 : List (List UInt8)) (a2 : (List UInt8) → (List UInt8) → Option Int) : Option Int :=
  jn (fun (_ : Unit) => if (List.length a0 : Int) < (List.length a1 : Int) then (some (-1)) else (some 0)) (fun k1 => m_slices_CompareFunc_L_api_Value_L_api_Value_api_Value_api_Value_L2 a0 a1 a2 k1 FU 0)
/- cspcheck.value.compare -/
noncomputable def m_value_compare_F (self_value_compare : (List UInt8) → (List UInt8) → Option Int) (a0 : List UInt8) (a1 : List UInt8) : Option Int :=
  if a0 = a1 then (some 0) else (need ((0 : Int) ≤ 0 ∧ 0 < (List.length a0 : Int)) (need ((0 : Int) ≤ 0 ∧ 0 < (List.length a1 : Int)) (bnd1 (m_cmp_Compare_byte (gi a0 0) (gi a1 0)) (fun y3 => if ¬ y3 = 0 then (some y3) else (need ((0 : Int) ≤ 0 ∧ 0 < (List.length a0 : Int)) (if (gi a0 0) = 1 then (bnd1 (m_value_integer a0) (fun y5 => bnd1 (m_value_integer a1) (fun y6 => bnd1 (m_cmp_Compare_int64 y5 y6) (fun y7 => some y7)))) else (need ((0 : Int) ≤ 0 ∧ 0 < (List.length a0 : Int)) (bnd1 (m_value_simple (UInt8.toNat (gi a0 0) : Int)) (fun y9 => if y9 then (bnd1 (m_cmp_Compare_api_Value a0 a1) (fun y10 => some y10)) else (bnd1 (m_value_parts a0) (fun y11 => bnd1 (m_value_parts a1) (fun y12 => bnd1 (m_slices_CompareFunc_L_api_Value_L_api_Value_api_Value_api_Value y11 y12 self_value_compare) (fun y13 => some y13)))))))))))))
/- cspcheck.value.compare -/
noncomputable def m_value_compare_S : Nat → ((List UInt8) → (List UInt8) → Option Int)
  | 0 => (fun _ _ => none)
  | n + 1 => m_value_compare_F (m_value_compare_S n)
noncomputable def m_value_compare (a0 : List UInt8) (a1 : List UInt8) : Option Int := m_value_compare_S FU a0 a1
/- cspcheck.value.ascending -/
noncomputable def m_value_ascending_B2 (a0 : List (List UInt8)) (k1 : Unit → Option Bool) (rec2 : Int → Option Bool) (x3_l2 : Int) : Option Bool :=
  if x3_l2 < (List.length a0 : Int) then (need ((0 : Int) ≤ i64 (x3_l2 - 1) ∧ (i64 (x3_l2 - 1)) < (List.length a0 : Int)) (need ((0 : Int) ≤ x3_l2 ∧ x3_l2 < (List.length a0 : Int)) (bnd1 (m_value_compare (gi a0 (i64 (x3_l2 - 1))) (gi a0 x3_l2)) (fun y20 => if 0 ≤ y20 then (some false) else (rec2 (i64 (x3_l2 + 1))))))) else (k1 ())
noncomputable def m_value_ascending_L2 (a0 : List (List UInt8)) (k1 : Unit → Option Bool) : Nat → Int → Option Bool
  | 0, _ => none
  | n + 1, x3_l2 => m_value_ascending_B2 a0 k1 (m_value_ascending_L2 a0 k1 n) x3_l2
noncomputable def m_value_ascending (a0 : List (List UInt8)) : Option Bool :=
  jn (fun (_ : Unit) => some true) (fun k1 => m_value_ascending_L2 a0 k1 FU 1)
/- cspcheck.value.between -/
noncomputable def m_value_between (a0 : List UInt8) (a1 : Int) (a2 : Int) : Option Bool :=
  jn (fun (x6_j1 : Bool) => some x6_j1) (fun k1 => need ((0 : Int) ≤ 0 ∧ 0 < (List.length a0 : Int)) (if (gi a0 0) = 1 then (bnd1 (m_value_integer a0) (fun y6 => if a1 ≤ y6 then (bnd1 (m_value_integer a0) (fun y7 => k1 (decide (y7 ≤ a2)))) else (k1 false))) else (k1 false)))
/- cspcheck.value.formed -/
noncomputable def m_value_formed_B4 (a1 : List (List UInt8)) (k45 : (List (List UInt8)) → Option Bool) (rec4 : (List (List UInt8)) → Int → Option Bool) (x6_l4 : List (List UInt8)) (x7_l4 : Int) : Option Bool :=
  if x7_l4 < (List.length a1 : Int) then (need ((0 : Int) ≤ x7_l4 ∧ x7_l4 < (List.length a1 : Int)) (need (List.length x6_l4 + List.length [gi a1 x7_l4] ≤ 137438953472) (rec4 (x6_l4 ++ [gi a1 x7_l4]) (i64 (x7_l4 + 2))))) else (k45 x6_l4)
noncomputable def m_value_formed_L4 (a1 : List (List UInt8)) (k45 : (List (List UInt8)) → Option Bool) : Nat → (List (List UInt8)) → Int → Option Bool
  | 0, _, _ => none
  | n + 1, x6_l4, x7_l4 => m_value_formed_B4 a1 k45 (m_value_formed_L4 a1 k45 n) x6_l4 x7_l4
noncomputable def m_value_formed (a0 : Int) (a1 : List (List UInt8)) : Option Bool :=
  jn (fun (_ : Unit) => some true) (fun k1 => if a0 = 3 then (jn (fun (x4_j43 : Bool) => some x4_j43) (fun k43 => if 2 ≤ (List.length a1 : Int) then (k43 (decide ((List.length a1 : Int) ≤ 8))) else (k43 false))) else (if a0 = 5 then (bnd1 (m_value_ascending a1) (fun y44 => some y44)) else (if a0 = 6 then (jn (fun (x6_j45 : List (List UInt8)) => jn (fun (x4_j65 : Bool) => some x4_j65) (fun k65 => if (Int.tmod (List.length a1 : Int) 2) = 0 then (bnd1 (m_value_ascending x6_j45) (fun y67 => k65 y67)) else (k65 false))) (fun k45 => m_value_formed_L4 a1 k45 FU [] 0)) else (if a0 = 7 then (jn (fun (x4_j68 : Bool) => some x4_j68) (fun k68 => if 1 ≤ (List.length a1 : Int) then (if (List.length a1 : Int) ≤ 9 then (need ((0 : Int) ≤ 0 ∧ 0 < (List.length a1 : Int)) (need ((0 : Int) ≤ 0 ∧ 0 < (List.length (gi a1 0) : Int)) (k68 (decide ((gi (gi a1 0) 0) = 10))))) else (k68 false)) else (k68 false))) else (if a0 = 8 then (jn (fun (x4_j73 : Bool) => some x4_j73) (fun k73 => if 1 ≤ (List.length a1 : Int) then (if (List.length a1 : Int) ≤ 33 then (need ((0 : Int) ≤ 0 ∧ 0 < (List.length a1 : Int)) (bnd1 (m_value_between (gi a1 0) 0 65535) (fun y77 => k73 y77))) else (k73 false)) else (k73 false))) else (if a0 = 9 then (jn (fun (x4_j78 : Bool) => some x4_j78) (fun k78 => if 1 ≤ (List.length a1 : Int) then (need ((0 : Int) ≤ 0 ∧ 0 < (List.length a1 : Int)) (bnd1 (m_value_between (gi a1 0) 1 21) (fun y82 => k78 y82))) else (k78 false))) else (k1 ())))))))
/- cspcheck.value.long -/
noncomputable def m_value_long_B2 (self_value_length : (List UInt8) → Int → Option Int) (a0 : List UInt8) (a1 : Int) (k1 : Int → (List (List UInt8)) → Option Int) (rec2 : Int → (List (List UInt8)) → Int → Option Int) (x5_l2 : Int) (x6_l2 : List (List UInt8)) (x19_l2 : Int) : Option Int :=
  if x19_l2 < (bOr .i64 (i64 ((UInt8.toNat (gi a0 1) : Int) * 2 ^ min (Int.toNat 8) IntKind.i64.bits)) (UInt8.toNat (gi a0 2) : Int)) then (need ((0 : Int) ≤ x5_l2 ∧ x5_l2 ≤ (List.length a0 : Int)) (bnd1 (self_value_length (List.drop (Int.toNat x5_l2) a0) (i64 (a1 + 1))) (fun y33 => if y33 = 0 then (some 0) else (need ((0 : Int) ≤ x5_l2 ∧ x5_l2 ≤ i64 (x5_l2 + y33) ∧ (i64 (x5_l2 + y33)) ≤ (List.length a0 : Int)) (need (List.length x6_l2 + List.length [List.take (Int.toNat (i64 (x5_l2 + y33)) - Int.toNat x5_l2) (List.drop (Int.toNat x5_l2) a0)] ≤ 137438953472) (rec2 (i64 (x5_l2 + y33)) (x6_l2 ++ [List.take (Int.toNat (i64 (x5_l2 + y33)) - Int.toNat x5_l2) (List.drop (Int.toNat x5_l2) a0)]) (i64 (x19_l2 + 1)))))))) else (k1 x5_l2 x6_l2)
noncomputable def m_value_long_L2 (self_value_length : (List UInt8) → Int → Option Int) (a0 : List UInt8) (a1 : Int) (k1 : Int → (List (List UInt8)) → Option Int) : Nat → Int → (List (List UInt8)) → Int → Option Int
  | 0, _, _, _ => none
  | n + 1, x5_l2, x6_l2, x19_l2 => m_value_long_B2 self_value_length a0 a1 k1 (m_value_long_L2 self_value_length a0 a1 k1 n) x5_l2 x6_l2 x19_l2
noncomputable def m_value_long (self_value_length : (List UInt8) → Int → Option Int) (a0 : List UInt8) (a1 : Int) : Option Int :=
  if (List.length a0 : Int) < 3 then (some 0) else (jn (fun (x5_j1 : Int) (x6_j1 : List (List UInt8)) => need ((0 : Int) ≤ 0 ∧ 0 < (List.length a0 : Int)) (bnd1 (m_value_formed (UInt8.toNat (gi a0 0) : Int) x6_j1) (fun y38 => if !y38 then (some 0) else (some x5_j1)))) (fun k1 => need ((0 : Int) ≤ 1 ∧ 1 < (List.length a0 : Int)) (need ((0 : Int) ≤ 2 ∧ 2 < (List.length a0 : Int)) (m_value_long_L2 self_value_length a0 a1 k1 FU 3 [] 0))))
/- cspcheck.value.length -/
noncomputable def m_value_length_F (self_value_length : (List UInt8) → Int → Option Int) (a0 : List UInt8) (a1 : Int) : Option Int :=
  jn (fun (x11_j3 : Bool) => if x11_j3 then (some 0) else (jn (fun (x5_j4 : Int) => if (List.length a0 : Int) < x5_j4 then (some 0) else (some x5_j4)) (fun k4 => need ((0 : Int) ≤ 0 ∧ 0 < (List.length a0 : Int)) (if (gi a0 0) = 1 then (k4 9) else (if (gi a0 0) = 2 then (jn (fun (x25_j20 : Bool) => if x25_j20 then (some 0) else (k4 2)) (fun k20 => if (List.length a0 : Int) < 2 then (k20 true) else (need ((0 : Int) ≤ 1 ∧ 1 < (List.length a0 : Int)) (k20 (decide (1 < (gi a0 1))))))) else (if (gi a0 0) = 10 then (k4 3) else (jn (fun (x28_j23 : Bool) => if x28_j23 then (bnd1 (m_value_long self_value_length a0 a1) (fun y24 => some y24)) else (k4 0)) (fun k23 => if (gi a0 0) = 3 then (k23 (decide ((gi a0 0) = 3))) else (if (gi a0 0) = 4 then (k23 (decide ((gi a0 0) = 4))) else (if (gi a0 0) = 5 then (k23 (decide ((gi a0 0) = 5))) else (if (gi a0 0) = 6 then (k23 (decide ((gi a0 0) = 6))) else (if (gi a0 0) = 7 then (k23 (decide ((gi a0 0) = 7))) else (if (gi a0 0) = 8 then (k23 (decide ((gi a0 0) = 8))) else (k23 (decide ((gi a0 0) = 9)))))))))))))))) (fun k3 => if a0 = ([] : List UInt8) then (k3 true) else (k3 (decide (32 < a1))))
/- cspcheck.value.length -/
noncomputable def m_value_length_S : Nat → ((List UInt8) → Int → Option Int)
  | 0 => (fun _ _ => none)
  | n + 1 => m_value_length_F (m_value_length_S n)
noncomputable def m_value_length (a0 : List UInt8) (a1 : Int) : Option Int := m_value_length_S FU a0 a1
/- cspcheck.value.Valid -/
noncomputable def m_value_Valid (a0 : List UInt8) : Option Bool :=
  jn (fun (x2_j1 : Bool) => some x2_j1) (fun k1 => if ¬ a0 = ([] : List UInt8) then (if (List.length a0 : Int) ≤ 131072 then (bnd1 (m_value_length a0 1) (fun y3 => k1 (decide (y3 = (List.length a0 : Int))))) else (k1 false)) else (k1 false))
/- cspcheck.value.compound$1 -/
noncomputable def m_value_compound_1 (a0 : List UInt8) : Option Bool :=
  bnd1 (m_value_Valid a0) (fun y1 => some (!y1))
/- cspcheck.value.checked -/
noncomputable def m_value_checked (a0 : List UInt8) : Option (List UInt8) :=
  bnd1 (m_value_Valid a0) (fun y1 => if !y1 then (some ([] : List UInt8)) else (some a0))
/- cspcheck.value.compound -/
noncomputable def m_value_compound_B2 (a1 : List (List UInt8)) (k4 : (List UInt8) → Option (List UInt8)) (rec2 : (List UInt8) → Int → Option (List UInt8)) (x5_l2 : List UInt8) (x20_l2 : Int) : Option (List UInt8) :=
  if x20_l2 < (List.length a1 : Int) then (need ((0 : Int) ≤ x20_l2 ∧ x20_l2 < (List.length a1 : Int)) (jn (fun (x33_j81 : Bool) => if x33_j81 then (some ([] : List UInt8)) else (need (List.length x5_l2 + List.length (gi a1 x20_l2) ≤ 137438953472) (rec2 (x5_l2 ++ (gi a1 x20_l2)) (i64 (x20_l2 + 1))))) (fun k81 => if (gi a1 x20_l2) = ([] : List UInt8) then (k81 true) else (k81 (decide (131072 < (i64 ((List.length x5_l2 : Int) + (List.length (gi a1 x20_l2) : Int))))))))) else (k4 x5_l2)
noncomputable def m_value_compound_L2 (a1 : List (List UInt8)) (k4 : (List UInt8) → Option (List UInt8)) : Nat → (List UInt8) → Int → Option (List UInt8)
  | 0, _, _ => none
  | n + 1, x5_l2, x20_l2 => m_value_compound_B2 a1 k4 (m_value_compound_L2 a1 k4 n) x5_l2 x20_l2
noncomputable def m_value_compound (a0 : Int) (a1 : List (List UInt8)) : Option (List UInt8) :=
  if 65535 < (List.length a1 : Int) then (some ([] : List UInt8)) else (bnd1 (m_value_append16 [u8i a0] (IntKind.u16.wrap ((List.length a1 : Int)))) (fun y2 => jn (fun (x5_j4 : List UInt8) => bnd1 (m_slices_ContainsFunc_L_api_Value_api_Value a1 m_value_compound_1) (fun y84 => if !y84 then (bnd1 (m_value_checked x5_j4) (fun y85 => some y85)) else (some ([] : List UInt8)))) (fun k4 => m_value_compound_L2 a1 k4 FU y2 0)))
/- cspcheck.value.Seq -/
noncomputable def m_value_Seq (a0 : List (List UInt8)) : Option (List UInt8) :=
  bnd1 (m_value_compound 4 a0) (fun y1 => some y1)
/- slices.Clone(()cspcheck.api.Value,cspcheck.api.Value) -/
noncomputable def m_slices_Clone_L_api_Value_api_Value (a0 : List (List UInt8)) : Option (List (List UInt8)) :=
  nilc (a0 = []) (some []) (need (List.length ([] : List (List UInt8)) + List.length a0 ≤ 137438953472) (some (([] : List (List UInt8)) ++ a0)))
/- cspcheck.value.Compare -/
noncomputable def m_value_Compare (a0 : List UInt8) (a1 : List UInt8) : Option Int :=
  bnd1 (m_value_Valid a0) (fun y6 => bnd1 (m_value_Valid a1) (fun y7 => jn (fun (x11_j8 : Bool) => if x11_j8 then (bnd1 (m_value_compare a0 a1) (fun y9 => some y9)) else (if y6 then (some 1) else (if y7 then (some (-1)) else (bnd1 (m_cmp_Compare_api_Value a0 a1) (fun y10 => some y10))))) (fun k8 => if y6 then (k8 y7) else (k8 false))))
/- slices.Compact(()cspcheck.api.Value,cspcheck.api.Value) -/
noncomputable def m_slices_Compact_L_api_Value_api_Value_B26 (a0 : List (List UInt8)) (x3_l14 : Int) (k694 : (List (List UInt8)) → Int → Option (List (List UInt8))) (rec26 : (List (List UInt8)) → Int → Int → Option (List (List UInt8))) (x0_l26 : List (List UInt8)) (x3_l26 : Int) (x5_l26 : Int) : Option (List (List UInt8)) :=
  if x5_l26 < ((Int.toNat (List.length a0 : Int) - Int.toNat x3_l14 : Nat) : Int) then (jn (fun (x0_j741 : List (List UInt8)) (x3_j741 : Int) => rec26 x0_j741 x3_j741 (i64 (x5_l26 + 1))) (fun k741 => need ((0 : Int) ≤ x3_l14 ∧ (0 : Int) ≤ x5_l26 ∧ x5_l26 < (List.length a0 : Int) - x3_l14 ∧ (0 : Int) ≤ (x3_l14 + x5_l26) ∧ (x3_l14 + x5_l26) < (List.length x0_l26 : Int)) (need ((0 : Int) ≤ x3_l14 ∧ (0 : Int) ≤ i64 (x5_l26 - 1) ∧ (i64 (x5_l26 - 1)) < (List.length a0 : Int) - x3_l14 ∧ (0 : Int) ≤ (x3_l14 + (i64 (x5_l26 - 1))) ∧ (x3_l14 + (i64 (x5_l26 - 1))) < (List.length x0_l26 : Int)) (if ¬ (gi x0_l26 (x3_l14 + x5_l26)) = (gi x0_l26 (x3_l14 + (i64 (x5_l26 - 1)))) then (need ((0 : Int) ≤ x3_l14 ∧ (0 : Int) ≤ x5_l26 ∧ x5_l26 < (List.length a0 : Int) - x3_l14 ∧ (0 : Int) ≤ (x3_l14 + x5_l26) ∧ (x3_l14 + x5_l26) < (List.length x0_l26 : Int)) (need ((0 : Int) ≤ x3_l26 ∧ x3_l26 < (List.length x0_l26 : Int)) (k741 (List.set x0_l26 (Int.toNat x3_l26) (gi x0_l26 (x3_l14 + x5_l26))) (i64 (x3_l26 + 1))))) else (k741 x0_l26 x3_l26))))) else (k694 x0_l26 x3_l26)
noncomputable def m_slices_Compact_L_api_Value_api_Value_L26 (a0 : List (List UInt8)) (x3_l14 : Int) (k694 : (List (List UInt8)) → Int → Option (List (List UInt8))) : Nat → (List (List UInt8)) → Int → Int → Option (List (List UInt8))
  | 0, _, _, _ => none
  | n + 1, x0_l26, x3_l26, x5_l26 => m_slices_Compact_L_api_Value_api_Value_B26 a0 x3_l14 k694 (m_slices_Compact_L_api_Value_api_Value_L26 a0 x3_l14 k694 n) x0_l26 x3_l26 x5_l26
noncomputable def m_slices_Compact_L_api_Value_api_Value_B14 (a0 : List (List UInt8)) (k1 : Unit → Option (List (List UInt8))) (rec14 : Int → Option (List (List UInt8))) (x3_l14 : Int) : Option (List (List UInt8)) :=
  if x3_l14 < (List.length a0 : Int) then (jn (fun (_ : Unit) => rec14 (i64 (x3_l14 + 1))) (fun k628 => need ((0 : Int) ≤ x3_l14 ∧ x3_l14 < (List.length a0 : Int)) (need ((0 : Int) ≤ i64 (x3_l14 - 1) ∧ (i64 (x3_l14 - 1)) < (List.length a0 : Int)) (if (gi a0 x3_l14) = (gi a0 (i64 (x3_l14 - 1))) then (need ((0 : Int) ≤ x3_l14 ∧ x3_l14 ≤ (List.length a0 : Int) ∧ (List.length a0 : Int) ≤ (List.length a0 : Int)) (jn (fun (x0_j694 : List (List UInt8)) (x3_j694 : Int) => need ((0 : Int) ≤ x3_j694 ∧ x3_j694 ≤ (List.length x0_j694 : Int) ∧ (List.length x0_j694 : Int) ≤ (List.length x0_j694 : Int)) (need (0 ≤ x3_j694 ∧ x3_j694 ≤ (List.length (List.take (Int.toNat x3_j694) x0_j694 ++ List.replicate (Int.toNat (List.length x0_j694 : Int) - Int.toNat x3_j694) ([] : List UInt8) ++ List.drop (Int.toNat x3_j694 + (Int.toNat (List.length x0_j694 : Int) - Int.toNat x3_j694)) x0_j694) : Int)) (some (List.take (Int.toNat x3_j694) (List.take (Int.toNat x3_j694) x0_j694 ++ List.replicate (Int.toNat (List.length x0_j694 : Int) - Int.toNat x3_j694) ([] : List UInt8) ++ List.drop (Int.toNat x3_j694 + (Int.toNat (List.length x0_j694 : Int) - Int.toNat x3_j694)) x0_j694))))) (fun k694 => m_slices_Compact_L_api_Value_api_Value_L26 a0 x3_l14 k694 FU a0 x3_l14 1))) else (k628 ()))))) else (k1 ())
noncomputable def m_slices_Compact_L_api_Value_api_Value_L14 (a0 : List (List UInt8)) (k1 : Unit → Option (List (List UInt8))) : Nat → Int → Option (List (List UInt8))
  | 0, _ => none
  | n + 1, x3_l14 => m_slices_Compact_L_api_Value_api_Value_B14 a0 k1 (m_slices_Compact_L_api_Value_api_Value_L14 a0 k1 n) x3_l14
noncomputable def m_slices_Compact_L_api_Value_api_Value (a0 : List (List UInt8)) : Option (List (List UInt8)) :=
  if (List.length a0 : Int) < 2 then (some a0) else (jn (fun (_ : Unit) => some a0) (fun k1 => m_slices_Compact_L_api_Value_api_Value_L14 a0 k1 FU 1))
/- cspcheck.value.Sort -/
noncomputable def m_value_Sort (a0 : List (List UInt8)) : Option (List (List UInt8)) :=
  bnd1 (m_slices_Clone_L_api_Value_api_Value a0) (fun y1 => bnd1 (m_sortby m_value_Compare y1) (fun y3 => bnd1 (m_slices_Compact_L_api_Value_api_Value y3) (fun y4 => bnd1 (m_slices_Clip_L_api_Value_api_Value y4) (fun y5 => some y5))))
/- cspcheck.value.Set -/
noncomputable def m_value_Set (a0 : List (List UInt8)) : Option (List UInt8) :=
  bnd1 (m_value_Sort a0) (fun y1 => bnd1 (m_value_compound 5 y1) (fun y2 => some y2))
/- cspcheck.value.Kind -/
noncomputable def m_value_Kind (a0 : List UInt8) : Option Int :=
  bnd1 (m_value_Valid a0) (fun y1 => if !y1 then (some 0) else (need ((0 : Int) ≤ 0 ∧ 0 < (List.length a0 : Int)) (some (UInt8.toNat (gi a0 0) : Int))))
/- cspcheck.value.Parts -/
noncomputable def m_value_Parts (a0 : List UInt8) : Option (List (List UInt8)) :=
  bnd1 (m_value_Kind a0) (fun y1 => bnd1 (m_value_simple y1) (fun y2 => if y2 then (some []) else (bnd1 (m_value_parts a0) (fun y3 => some y3))))
/- internal.strconv.small -/
noncomputable def m_internal_strconv_small (a0 : Int) : Option (List UInt8) :=
  if a0 < 10 then (need ((0 : Int) ≤ a0 ∧ a0 ≤ i64 (a0 + 1) ∧ (i64 (a0 + 1)) ≤ (List.length [48, 49, 50, 51, 52, 53, 54, 55, 56, 57, 97, 98, 99, 100, 101, 102, 103, 104, 105, 106, 107, 108, 109, 110, 111, 112, 113, 114, 115, 116, 117, 118, 119, 120, 121, 122] : Int)) (some (List.take (Int.toNat (i64 (a0 + 1)) - Int.toNat a0) (List.drop (Int.toNat a0) [48, 49, 50, 51, 52, 53, 54, 55, 56, 57, 97, 98, 99, 100, 101, 102, 103, 104, 105, 106, 107, 108, 109, 110, 111, 112, 113, 114, 115, 116, 117, 118, 119, 120, 121, 122])))) else (none)
/- internal.strconv.isPowerOfTwo -/
/- internal.strconv.FormatInt -/
noncomputable def m_internal_strconv_FormatInt (a0 : Int) (a1 : Int) : Option (List UInt8) :=
  if a1 = 10 then (jn (fun (x17_j4 : Bool) => if x17_j4 then (bnd1 (m_internal_strconv_small a0) (fun y5 => some y5)) else (jn (fun (x6_j7 : Int) => none) (fun k7 => if a0 < 0 then (k7 (IntKind.u64.wrap (- (IntKind.u64.wrap (a0))))) else (k7 (IntKind.u64.wrap (a0)))))) (fun k4 => if 0 ≤ a0 then (k4 (decide (a0 < 100))) else (k4 false))) else (none)
/- strconv.FormatInt -/
noncomputable def m_strconv_FormatInt (a0 : Int) (a1 : Int) : Option (List UInt8) :=
  bnd1 (m_internal_strconv_FormatInt a0 a1) (fun y1 => some y1)
/- cspcheck.value.Number -/
noncomputable def m_value_Number (a0 : List UInt8) : Option Int :=
  bnd1 (m_value_Kind a0) (fun y1 => if y1 = 1 then (bnd1 (m_value_integer a0) (fun y2 => some y2)) else (if y1 = 2 then (need ((0 : Int) ≤ 1 ∧ 1 < (List.length a0 : Int)) (some (UInt8.toNat (gi a0 1) : Int))) else (if y1 = 10 then (need ((0 : Int) ≤ 1 ∧ 1 < (List.length a0 : Int)) (need ((0 : Int) ≤ 2 ∧ 2 < (List.length a0 : Int)) (some (bOr .i64 (i64 ((UInt8.toNat (gi a0 1) : Int) * 2 ^ min (Int.toNat 8) IntKind.i64.bits)) (UInt8.toNat (gi a0 2) : Int))))) else (some 0))))
/- cspcheck.value.pairs -/
noncomputable def m_value_pairs_B2 (a0 : List (List UInt8)) (k1 : (List (List UInt8)) → Option (List (List UInt8))) (rec2 : (List (List UInt8)) → Int → Option (List (List UInt8))) (x3_l2 : List (List UInt8)) (x4_l2 : Int) : Option (List (List UInt8)) :=
  if x4_l2 < (List.length a0 : Int) then (need ((0 : Int) ≤ x4_l2 ∧ x4_l2 < (List.length a0 : Int)) (need (List.length (gi a0 x4_l2) + List.length [32, 61, 62, 32] ≤ 9223372036854775807) (need ((0 : Int) ≤ i64 (x4_l2 + 1) ∧ (i64 (x4_l2 + 1)) < (List.length a0 : Int)) (need (List.length ((gi a0 x4_l2) ++ [32, 61, 62, 32]) + List.length (gi a0 (i64 (x4_l2 + 1))) ≤ 9223372036854775807) (need (List.length x3_l2 + List.length ([(((gi a0 x4_l2) ++ [32, 61, 62, 32]) ++ (gi a0 (i64 (x4_l2 + 1))))]) ≤ 137438953472) (rec2 (x3_l2 ++ ([(((gi a0 x4_l2) ++ [32, 61, 62, 32]) ++ (gi a0 (i64 (x4_l2 + 1))))])) (i64 (x4_l2 + 2)))))))) else (k1 x3_l2)
noncomputable def m_value_pairs_L2 (a0 : List (List UInt8)) (k1 : (List (List UInt8)) → Option (List (List UInt8))) : Nat → (List (List UInt8)) → Int → Option (List (List UInt8))
  | 0, _, _ => none
  | n + 1, x3_l2, x4_l2 => m_value_pairs_B2 a0 k1 (m_value_pairs_L2 a0 k1 n) x3_l2 x4_l2
noncomputable def m_value_pairs (a0 : List (List UInt8)) : Option (List (List UInt8)) :=
  jn (fun (x3_j1 : List (List UInt8)) => some x3_j1) (fun k1 => m_value_pairs_L2 a0 k1 FU [] 0)
/- cspcheck.value.text -/
noncomputable def m_value_text_B2 (self_value_text : (List UInt8) → (List (List UInt8)) → Option (List UInt8)) (a1 : List (List UInt8)) (k10 : (List (List UInt8)) → Option (List UInt8)) (y25 : (List (List UInt8))) (rec2 : (List (List UInt8)) → Int → Option (List UInt8)) (x6_l2 : List (List UInt8)) (x41_l2 : Int) : Option (List UInt8) :=
  if x41_l2 < (List.length y25 : Int) then (need ((0 : Int) ≤ x41_l2 ∧ x41_l2 < (List.length y25 : Int)) (bnd1 (self_value_text (gi y25 x41_l2) a1) (fun y35 => need (List.length x6_l2 + List.length [y35] ≤ 137438953472) (rec2 (x6_l2 ++ [y35]) (i64 (x41_l2 + 1)))))) else (k10 x6_l2)
noncomputable def m_value_text_L2 (self_value_text : (List UInt8) → (List (List UInt8)) → Option (List UInt8)) (a1 : List (List UInt8)) (k10 : (List (List UInt8)) → Option (List UInt8)) (y25 : (List (List UInt8))) : Nat → (List (List UInt8)) → Int → Option (List UInt8)
  | 0, _, _ => none
  | n + 1, x6_l2, x41_l2 => m_value_text_B2 self_value_text a1 k10 y25 (m_value_text_L2 self_value_text a1 k10 y25 n) x6_l2 x41_l2
noncomputable def m_value_text_F (self_value_text : (List UInt8) → (List (List UInt8)) → Option (List UInt8)) (a0 : List UInt8) (a1 : List (List UInt8)) : Option (List UInt8) :=
  need ((0 : Int) ≤ 0 ∧ 0 < (List.length a0 : Int)) (if (gi a0 0) = 1 then (bnd1 (m_value_integer a0) (fun y2 => bnd1 (m_strconv_FormatInt y2 10) (fun y3 => some y3))) else (if (gi a0 0) = 2 then (need ((0 : Int) ≤ 1 ∧ 1 < (List.length a0 : Int)) (if (gi a0 1) = 1 then (some [116, 114, 117, 101]) else (some [102, 97, 108, 115, 101]))) else (if (gi a0 0) = 10 then (bnd1 (m_value_Number a0) (fun y5 => if y5 < (List.length a1 : Int) then (need ((0 : Int) ≤ y5 ∧ y5 < (List.length a1 : Int)) (some (gi a1 y5))) else (bnd1 (m_value_Number a0) (fun y7 => bnd1 (m_strconv_FormatInt y7 10) (fun y8 => need (List.length [63] + List.length y8 ≤ 9223372036854775807) (some ([63] ++ y8))))))) else (jn (fun (x6_j10 : List (List UInt8)) => bnd1 (m_join x6_j10 [44, 32]) (fun y38 => need ((0 : Int) ≤ 0 ∧ 0 < (List.length a0 : Int)) (if (gi a0 0) = 4 then (need (List.length [60] + List.length y38 ≤ 9223372036854775807) (need (List.length ([60] ++ y38) + List.length [62] ≤ 9223372036854775807) (some (([60] ++ y38) ++ [62])))) else (if (gi a0 0) = 5 then (need (List.length [123] + List.length y38 ≤ 9223372036854775807) (need (List.length ([123] ++ y38) + List.length [125] ≤ 9223372036854775807) (some (([123] ++ y38) ++ [125])))) else (if (gi a0 0) = 6 then (bnd1 (m_value_pairs x6_j10) (fun y44 => bnd1 (m_join y44 [44, 32]) (fun y45 => need (List.length [40, 124] + List.length y45 ≤ 9223372036854775807) (need (List.length ([40, 124] ++ y45) + List.length [124, 41] ≤ 9223372036854775807) (some (([40, 124] ++ y45) ++ [124, 41])))))) else (if (gi a0 0) = 7 then (bnd1 (m_join x6_j10 [46]) (fun y48 => some y48)) else (if (gi a0 0) = 8 then (need (List.length [102, 117, 110, 40] + List.length y38 ≤ 9223372036854775807) (need (List.length ([102, 117, 110, 40] ++ y38) + List.length [41] ≤ 9223372036854775807) (some (([102, 117, 110, 40] ++ y38) ++ [41])))) else (if (gi a0 0) = 9 then (need (List.length [112, 114, 111, 99, 40] + List.length y38 ≤ 9223372036854775807) (need (List.length ([112, 114, 111, 99, 40] ++ y38) + List.length [41] ≤ 9223372036854775807) (some (([112, 114, 111, 99, 40] ++ y38) ++ [41])))) else (need (List.length [40] + List.length y38 ≤ 9223372036854775807) (need (List.length ([40] ++ y38) + List.length [41] ≤ 9223372036854775807) (some (([40] ++ y38) ++ [41])))))))))))) (fun k10 => bnd1 (m_value_parts a0) (fun y25 => m_value_text_L2 self_value_text a1 k10 y25 FU [] 0))))))
/- cspcheck.value.text -/
noncomputable def m_value_text_S : Nat → ((List UInt8) → (List (List UInt8)) → Option (List UInt8))
  | 0 => (fun _ _ => none)
  | n + 1 => m_value_text_F (m_value_text_S n)
noncomputable def m_value_text (a0 : List UInt8) (a1 : List (List UInt8)) : Option (List UInt8) := m_value_text_S FU a0 a1
/- cspcheck.value.Text -/
noncomputable def m_value_Text (a0 : List UInt8) (a1 : List (List UInt8)) : Option (List UInt8) :=
  bnd1 (m_value_Valid a0) (fun y1 => if !y1 then (some ([] : List UInt8)) else (bnd1 (m_value_text a0 a1) (fun y2 => some y2)))
/- cspcheck.cspchecklaw9.awake -/
noncomputable def m_law9_awake  : Option Bool :=
  bnd1 (m_value_Int 2) (fun y1 => bnd1 (m_value_Int 1) (fun y2 => bnd1 (m_value_Int 2) (fun y3 => bnd1 (m_value_Set [y1, y2, y3]) (fun y4 => jn (fun (x0_j5 : Bool) => some x0_j5) (fun k5 => bnd1 (m_value_Int 1) (fun y13 => if y13 = [1, 0, 0, 0, 0, 0, 0, 0, 1] then (bnd1 (m_value_Kind y4) (fun y14 => if y14 = 5 then (bnd1 (m_value_Parts y4) (fun y15 => if (List.length y15 : Int) = 2 then (bnd1 (m_value_Text y4 ([] : List (List UInt8))) (fun y16 => if y16 = [123, 49, 44, 32, 50, 125] then (bnd1 (m_value_Int 1) (fun y17 => bnd1 (m_value_Int 2) (fun y18 => bnd1 (m_value_Compare y17 y18) (fun y19 => k5 (decide (y19 = (-1))))))) else (k5 false))) else (k5 false))) else (k5 false))) else (k5 false)))))))
/- cspcheck.cspchecklaw9.ValueNesting -/
noncomputable def m_law9_ValueNesting_B2 (a0 : UInt8) (k2 : (List UInt8) → Option Bool) (rec2 : (List UInt8) → Int → Option Bool) (x3_l2 : List UInt8) (x4_l2 : Int) : Option Bool :=
  if x4_l2 < (UInt8.toNat (a0 % 40) : Int) then (bnd1 (m_value_Seq [x3_l2]) (fun y9 => rec2 y9 (i64 (x4_l2 + 1)))) else (k2 x3_l2)
noncomputable def m_law9_ValueNesting_L2 (a0 : UInt8) (k2 : (List UInt8) → Option Bool) : Nat → (List UInt8) → Int → Option Bool
  | 0, _, _ => none
  | n + 1, x3_l2, x4_l2 => m_law9_ValueNesting_B2 a0 k2 (m_law9_ValueNesting_L2 a0 k2 n) x3_l2 x4_l2
noncomputable def m_law9_ValueNesting (a0 : UInt8) : Option Bool :=
  bnd1 (m_value_Int 1) (fun y1 => jn (fun (x3_j2 : List UInt8) => jn (fun (x2_j10 : Bool) => some x2_j10) (fun k10 => bnd1 (m_law9_awake) (fun y13 => if y13 then (bnd1 (m_value_Valid x3_j2) (fun y14 => if y14 = (decide (¬ (32 < (i64 ((UInt8.toNat (a0 % 40) : Int) + 1))))) then (k10 (decide ((decide (x3_j2 = ([] : List UInt8))) = (decide (32 < (i64 ((UInt8.toNat (a0 % 40) : Int) + 1))))))) else (k10 false))) else (k10 false)))) (fun k2 => m_law9_ValueNesting_L2 a0 k2 FU y1 0))
end Go.Proofs.YtdppkpiagdaigaaDoor
/- Laws of the words of the models, and of bytes: no program in sight. -/
namespace Go.Proofs.YtdppkpiagdaigaaDoor

theorem jn_eq {κ ρ : Type} (k : κ) (m : κ → ρ) : jn k m = m k := by
  have h : jn k m = m k := rfl
  exact h
theorem bnd1_mk {α ρ : Type} (a : α) (k : α → Option ρ) : bnd1 (some a) k = k a := by
  have h : bnd1 (some a) k = k a := rfl
  exact h
theorem FU_ge : 4611686018427387904 ≤ FU := Nat.le_refl _
theorem wrap_i64 (x : Int) (h : -9223372036854775808 ≤ x ∧ x ≤ 9223372036854775807) : IntKind.i64.wrap x = x := i64_id h
theorem u8i_nat (n : Nat) : (u8i (n : Int)).toNat = n % 256 := by
  have := u8i_eq (n : Int)
  rw [wrap_u8n] at this
  omega
theorem u8_inj {a b : UInt8} (h : a.toNat = b.toNat) : a = b := UInt8.toNat_inj.1 h
theorem u8i_toNat (a : UInt8) : u8i (a.toNat : Int) = a := u8_inj (by rw [u8i_nat]; have := UInt8.toNat_lt a; omega)
theorem bv_nat (w : Nat) (m : Nat) (h : m < 2 ^ w) : (BitVec.ofInt w (m : Int)).toNat = m := by
  rw [BitVec.toNat_ofInt]
  have h1 : ((m : Int) % (2 ^ w : Nat)) = (m : Int) := Int.emod_eq_of_lt (by omega) (by exact_mod_cast h)
  rw [h1]; rfl
theorem bOr_nat (m k : Nat) (hm : m < 2 ^ 63) (hk : k < 2 ^ 63) : bOr .i64 (m : Int) (k : Int) = ((m ||| k : Nat) : Int) := by
  unfold bOr
  rw [BitVec.toNat_or, show IntKind.i64.bits = 64 from rfl, bv_nat 64 m (by omega), bv_nat 64 k (by omega), wrap_i64]
  have := Nat.or_lt_two_pow hm hk
  omega
end Go.Proofs.YtdppkpiagdaigaaDoor
/- Loops over lists. -/
namespace Go.Proofs.YtdppkpiagdaigaaDoor
attribute [local irreducible] FU

theorem i64_succ {i : Nat} (h : i < 4611686018427387904) : i64 ((i : Int) + 1) = ((i + 1 : Nat) : Int) := by rw [i64_id (by omega)]; omega
theorem i64_sub1 {i : Nat} (h : i < 4611686018427387904) : i64 ((i : Int) - 1) = (i : Int) - 1 := i64_id (by omega)
/-! ### Without repetitions -/
section
variable {α : Type} [DecidableEq α]
def cstep (r : List α) (x : α) : List α := if r.getLast? = some x then r else r ++ [x]
/-- Without what equals what stands before it. -/
def compactL (l : List α) : List α := l.foldl cstep []
theorem compactL_snoc (l : List α) (x : α) : compactL (l ++ [x]) = cstep (compactL l) x := by simp [compactL]
theorem compactL_last (l : List α) : (compactL l).getLast? = l.getLast? := by
  rcases List.eq_nil_or_concat l with rfl | ⟨t, x, rfl⟩
  · rfl
  · rw [List.concat_eq_append, compactL_snoc, cstep]
    split
    · rename_i h; rw [h]; simp
    · simp
theorem compactL_mem (l : List α) (x : α) : x ∈ compactL l ↔ x ∈ l := by
  have key : ∀ n (l : List α), l.length = n → (x ∈ compactL l ↔ x ∈ l) := by
    intro n
    induction n with
    | zero => intro l h; have := List.length_eq_zero_iff.1 h; subst this; simp [compactL]
    | succ n ih =>
      intro l h
      rcases List.eq_nil_or_concat l with rfl | ⟨t, y, rfl⟩
      · simp [compactL]
      · rw [List.concat_eq_append] at h ⊢
        simp at h
        rw [compactL_snoc, cstep]
        split
        · rename_i he
          rw [ih t h]
          rw [compactL_last] at he
          have : y ∈ t := List.mem_of_getLast? he
          constructor
          · intro hx; simp [hx]
          · intro hx
            rcases List.mem_append.1 hx with h1 | h1
            · exact h1
            · rw [List.mem_singleton.1 h1]; exact this
        · simp [ih t h]
  exact key l.length l rfl
theorem compactL_len (l : List α) : (compactL l).length ≤ l.length := by
  have key : ∀ n (l : List α), l.length = n → (compactL l).length ≤ l.length := by
    intro n
    induction n with
    | zero => intro l h; have := List.length_eq_zero_iff.1 h; subst this; simp [compactL]
    | succ n ih =>
      intro l h
      rcases List.eq_nil_or_concat l with rfl | ⟨t, y, rfl⟩
      · simp [compactL]
      · rw [List.concat_eq_append] at h ⊢
        simp at h
        have := ih t h
        rw [compactL_snoc, cstep]
        split <;> simp <;> omega
  exact key l.length l rfl
theorem compactL_sorted {lt : α → α → Prop} (hirr : ∀ a, ¬ lt a a) (ht : ∀ {a b c}, lt a b → lt b c → lt a c) (l : List α) (h : l.Pairwise (fun a b => a = b ∨ lt a b)) : (compactL l).Pairwise lt := by
  have key : ∀ n (l : List α), l.length = n → l.Pairwise (fun a b => a = b ∨ lt a b) → (compactL l).Pairwise lt := by
    intro n
    induction n with
    | zero => intro l h; have := List.length_eq_zero_iff.1 h; subst this; simp [compactL]
    | succ n ih =>
      intro l h hp
      rcases List.eq_nil_or_concat l with rfl | ⟨t, y, rfl⟩
      · simp [compactL]
      · rw [List.concat_eq_append] at h hp ⊢
        simp at h
        obtain ⟨p1, _, p3⟩ := List.pairwise_append.1 hp
        have hc := ih t h p1
        rw [compactL_snoc, cstep]
        split
        · exact hc
        · rename_i hne
          rw [List.pairwise_append]
          refine ⟨hc, by simp, fun a ha b hb => ?_⟩
          obtain rfl := List.mem_singleton.1 hb
          have ha' := (compactL_mem t a).1 ha
          rcases p3 a ha' b (by simp) with h1 | h1
          · subst h1
            exfalso
            rcases List.eq_nil_or_concat t with rfl | ⟨u, z, rfl⟩
            · cases ha'
            · rw [List.concat_eq_append] at *
              have hz : (compactL (u ++ [z])).getLast? = some z := by rw [compactL_last]; simp
              have hza : z ≠ a := fun e => hne (by rw [hz, e])
              have hlast : ∃ v, compactL (u ++ [z]) = v ++ [z] := by
                rcases List.eq_nil_or_concat (compactL (u ++ [z])) with e | ⟨v, q, e⟩
                · rw [e] at hz; cases hz
                · rw [List.concat_eq_append] at e; rw [e] at hz; simp at hz; exact ⟨v, by rw [e, hz]⟩
              obtain ⟨v, hv⟩ := hlast
              rw [hv] at ha hc
              rcases List.mem_append.1 ha with h2 | h2
              · have h3 := (List.pairwise_append.1 hc).2.2 a h2 z (by simp)
                rcases p3 z (by simp) a (by simp) with h4 | h4
                · exact hza h4
                · have : lt a a := ht h3 h4
                  exact hirr _ this
              · exact hza (List.mem_singleton.1 h2).symm
          · exact h1
  exact key l.length l rfl h
end
/-- Two strictly ascending lists of the same members. -/
theorem SL_ext {α : Type} {lt : α → α → Prop} (hirr : ∀ a, ¬ lt a a) (ht : ∀ {a b c}, lt a b → lt b c → lt a c) : ∀ {a b : List α}, a.Pairwise lt → b.Pairwise lt → (∀ x, x ∈ a ↔ x ∈ b) → a = b
  | [], [], _, _, _ => rfl
  | [], y :: b, _, _, h => by have := (h y).2 (by simp); cases this
  | x :: a, [], _, _, h => by have := (h x).1 (by simp); cases this
  | x :: a, y :: b, h1, h2, h => by
    obtain ⟨p1, p2⟩ := List.pairwise_cons.1 h1
    obtain ⟨q1, q2⟩ := List.pairwise_cons.1 h2
    have hxy : x = y := by
      rcases List.mem_cons.1 ((h x).1 (by simp)) with e | e
      · exact e
      · rcases List.mem_cons.1 ((h y).2 (by simp)) with e' | e'
        · exact e'.symm
        · exact absurd (ht (q1 x e) (p1 y e')) (hirr _)
    subst hxy
    congr 1
    refine SL_ext hirr ht p2 q2 fun z => ⟨fun hz => ?_, fun hz => ?_⟩
    · rcases List.mem_cons.1 ((h z).1 (by simp [hz])) with e | e
      · subst e; exact absurd (p1 z hz) (hirr _)
      · exact e
    · rcases List.mem_cons.1 ((h z).2 (by simp [hz])) with e | e
      · subst e; exact absurd (q1 z hz) (hirr _)
      · exact e
end Go.Proofs.YtdppkpiagdaigaaDoor
/- Encoded values: their shape, and that they are read in one way only. No program in sight. -/
namespace Go.Proofs.YtdppkpiagdaigaaDoor

/-- v is the encoding of one value that is nested at most k deep; the order of its parts is not looked at. -/
inductive Sh : Nat → List UInt8 → Prop
  | int (k : Nat) (b : List UInt8) (h : b.length = 8) : Sh (k + 1) (1 :: b)
  | bool (k : Nat) (b : UInt8) (h : b.toNat ≤ 1) : Sh (k + 1) [2, b]
  | name (k : Nat) (h l : UInt8) : Sh (k + 1) [10, h, l]
  | comp (k : Nat) (c h l : UInt8) (ps : List (List UInt8)) (hc : 3 ≤ c.toNat ∧ c.toNat ≤ 9) (hn : ps.length = h.toNat * 256 + l.toNat) (hp : ∀ p ∈ ps, Sh k p) : Sh (k + 1) (c :: h :: l :: ps.flatten)

theorem Sh.mono {k : Nat} {v : List UInt8} (h : Sh k v) : Sh (k + 1) v := by
  induction h with
  | int k b h => exact .int _ b h
  | bool k b h => exact .bool _ b h
  | name k h l => exact .name _ h l
  | comp k c h l ps hc hn hp ih => exact .comp _ c h l ps hc hn ih
theorem Sh.le {k j : Nat} {v : List UInt8} (h : Sh k v) (hj : k ≤ j) : Sh j v := by
  obtain ⟨d, rfl⟩ := Nat.exists_eq_add_of_le hj
  induction d with
  | zero => exact h
  | succ d ih => exact (ih (by omega)).mono
theorem Sh.len {k : Nat} {v : List UInt8} (h : Sh k v) : 2 ≤ v.length := by
  cases h <;> simp <;> omega
theorem Sh.pos {k : Nat} {v : List UInt8} (h : Sh k v) : 1 ≤ k := by cases h <;> omega

theorem flat_uniq {r r' : List UInt8} : ∀ {ps qs : List (List UInt8)}, (∀ p ∈ ps, ∀ q ∈ qs, ∀ r r' : List UInt8, p ++ r = q ++ r' → p = q ∧ r = r') → ps.length = qs.length → ps.flatten ++ r = qs.flatten ++ r' → ps = qs ∧ r = r'
  | [], [], _, _, e => ⟨rfl, by simpa using e⟩
  | p :: ps, q :: qs, hu, hl, e => by
    simp only [List.flatten_cons, List.append_assoc] at e
    obtain ⟨e1, e2⟩ := hu p (by simp) q (by simp) _ _ e
    obtain ⟨e3, e4⟩ := flat_uniq (fun a ha b hb => hu a (by simp [ha]) b (by simp [hb])) (by simpa using hl) e2
    exact ⟨by rw [e1, e3], e4⟩
theorem Sh.uniq {k : Nat} {v : List UInt8} (h : Sh k v) : ∀ {j : Nat} {w : List UInt8}, Sh j w → ∀ r r' : List UInt8, v ++ r = w ++ r' → v = w ∧ r = r' := by
  induction h with
  | int k b hb =>
    intro j w hw r r' e
    cases hw with
    | int j b' hb' =>
      simp only [List.cons_append, List.cons.injEq, true_and] at e
      obtain ⟨e1, e2⟩ := List.append_inj e (by omega)
      exact ⟨by rw [e1], e2⟩
    | bool j b' hb' => simp at e
    | name j h' l' => simp at e
    | comp j c' h' l' ps' hc' hn' hp' =>
      simp only [List.cons_append, List.cons.injEq] at e
      have := e.1; subst this; simp at hc'
  | bool k b hb =>
    intro j w hw r r' e
    cases hw with
    | int j b' hb' => simp at e
    | bool j b' hb' => simp at e; exact ⟨by rw [e.1], e.2⟩
    | name j h' l' => simp at e
    | comp j c' h' l' ps' hc' hn' hp' =>
      simp only [List.cons_append, List.cons.injEq] at e
      have := e.1; subst this; simp at hc'
  | name k h l =>
    intro j w hw r r' e
    cases hw with
    | int j b' hb' => simp at e
    | bool j b' hb' => simp at e
    | name j h' l' => simp at e; exact ⟨by rw [e.1, e.2.1], e.2.2⟩
    | comp j c' h' l' ps' hc' hn' hp' =>
      simp only [List.cons_append, List.cons.injEq] at e
      have := e.1; subst this; simp at hc'
  | comp k c h l ps hc hn hp ih =>
    intro j w hw r r' e
    cases hw with
    | int j b' hb' =>
      simp only [List.cons_append, List.cons.injEq] at e
      have := e.1; subst this; simp at hc
    | bool j b' hb' =>
      simp only [List.cons_append, List.cons.injEq] at e
      have := e.1; subst this; simp at hc
    | name j h' l' =>
      simp only [List.cons_append, List.cons.injEq] at e
      have := e.1; subst this; simp at hc
    | comp j c' h' l' ps' hc' hn' hp' =>
      simp only [List.cons_append, List.cons.injEq] at e
      obtain ⟨rfl, rfl, rfl, e⟩ := e
      obtain ⟨e1, e2⟩ := flat_uniq (fun p hp q hq r r' e => ih p hp (hp' q hq) r r' e) (by omega) e
      exact ⟨by rw [e1], e2⟩
theorem Sh.flat {k j : Nat} {ps qs : List (List UInt8)} {r r' : List UInt8} (hp : ∀ p ∈ ps, Sh k p) (hq : ∀ q ∈ qs, Sh j q) (hl : ps.length = qs.length) (e : ps.flatten ++ r = qs.flatten ++ r') : ps = qs ∧ r = r' :=
  flat_uniq (fun p hp' q hq' r r' e => (hp p hp').uniq (hq q hq') r r' e) hl e
/-! ### The length and the parts -/
def sumN (f : List UInt8 → Nat) : Nat → List UInt8 → Nat
  | 0, _ => 0
  | n + 1, u => f u + sumN f n (u.drop (f u))
def splitN (f : List UInt8 → Nat) : Nat → List UInt8 → List (List UInt8)
  | 0, _ => []
  | n + 1, u => u.take (f u) :: splitN f n (u.drop (f u))
def spanV : Nat → List UInt8 → Nat
  | 0, _ => 0
  | k + 1, s => if gi s 0 = 1 then 9 else if gi s 0 = 2 then 2 else if gi s 0 = 10 then 3 else 3 + sumN (spanV k) ((gi s 1).toNat * 256 + (gi s 2).toNat) (s.drop 3)
/-- The parts of a compound value. -/
def partsV (k : Nat) (v : List UInt8) : List (List UInt8) := splitN (spanV k) ((gi v 1).toNat * 256 + (gi v 2).toNat) (v.drop 3)
theorem sumN_flat {f : List UInt8 → Nat} : ∀ {ps : List (List UInt8)} {r : List UInt8}, (∀ p ∈ ps, ∀ r : List UInt8, f (p ++ r) = p.length) → sumN f ps.length (ps.flatten ++ r) = ps.flatten.length
  | [], _, _ => rfl
  | p :: ps, r, h => by
    have h0 := h p (by simp) (ps.flatten ++ r)
    rw [List.length_cons, sumN, List.flatten_cons, List.append_assoc, h0, List.drop_left, sumN_flat (fun q hq => h q (by simp [hq])), List.length_append]
theorem splitN_flat {f : List UInt8 → Nat} : ∀ {ps : List (List UInt8)} {r : List UInt8}, (∀ p ∈ ps, ∀ r : List UInt8, f (p ++ r) = p.length) → splitN f ps.length (ps.flatten ++ r) = ps
  | [], _, _ => rfl
  | p :: ps, r, h => by
    have h0 := h p (by simp) (ps.flatten ++ r)
    rw [List.length_cons, splitN, List.flatten_cons, List.append_assoc, h0, List.drop_left, splitN_flat (fun q hq => h q (by simp [hq])), List.take_left]
theorem gi_0 (a : UInt8) (s : List UInt8) : gi (a :: s) 0 = a := rfl
theorem gi_1 (a b : UInt8) (s : List UInt8) : gi (a :: b :: s) 1 = b := rfl
theorem gi_2 (a b c : UInt8) (s : List UInt8) : gi (a :: b :: c :: s) 2 = c := rfl
theorem kind_ne {c : UInt8} (hc : 3 ≤ c.toNat ∧ c.toNat ≤ 9) : c ≠ 1 ∧ c ≠ 2 ∧ c ≠ 10 := by
  refine ⟨?_, ?_, ?_⟩ <;> rintro rfl <;> simp at hc
theorem spanV_eq {k : Nat} {v : List UInt8} (h : Sh k v) : ∀ r : List UInt8, spanV k (v ++ r) = v.length := by
  induction h with
  | int k b hb => intro r; simp [spanV, gi_0, hb]
  | bool k b hb => intro r; simp [spanV, gi_0]
  | name k h l => intro r; simp [spanV, gi_0]
  | comp k c h l ps hc hn hp ih =>
    intro r
    obtain ⟨n1, n2, n3⟩ := kind_ne hc
    simp only [spanV, List.cons_append, gi_0, gi_1, gi_2, n1, n2, n3, if_false, List.drop_succ_cons, List.drop_zero]
    rw [← hn, sumN_flat (fun p hp r => ih p hp r)]
    simp; omega
theorem partsV_eq {k : Nat} {c h l : UInt8} {ps : List (List UInt8)} (hn : ps.length = h.toNat * 256 + l.toNat) (hp : ∀ p ∈ ps, Sh k p) : partsV k (c :: h :: l :: ps.flatten) = ps := by
  unfold partsV
  simp only [gi_1, gi_2, List.drop_succ_cons, List.drop_zero]
  rw [← hn]
  have := splitN_flat (r := []) (fun p hp' r => spanV_eq (hp p hp') r) (ps := ps)
  rwa [List.append_nil] at this
end Go.Proofs.YtdppkpiagdaigaaDoor
/- The order of encoded values is total. No program in sight. -/
namespace Go.Proofs.YtdppkpiagdaigaaDoor

structure TO {α : Type} (P : α → Prop) (c : α → α → Int) : Prop where
  eq : ∀ a b, P a → P b → (c a b = 0 ↔ a = b)
  anti : ∀ a b, P a → P b → c b a = - c a b
  trans : ∀ a b d, P a → P b → P d → c a b < 0 → c b d < 0 → c a d < 0
  rng : ∀ a b, P a → P b → c a b = -1 ∨ c a b = 0 ∨ c a b = 1
theorem TO.self {α : Type} {P : α → Prop} {c : α → α → Int} (h : TO P c) (a : α) (ha : P a) : c a a = 0 := (h.eq a a ha ha).2 rfl
theorem TO.sub {α : Type} {P Q : α → Prop} {c : α → α → Int} (h : TO P c) (hq : ∀ a, Q a → P a) : TO Q c :=
  ⟨fun a b ha hb => h.eq a b (hq a ha) (hq b hb), fun a b ha hb => h.anti a b (hq a ha) (hq b hb), fun a b d ha hb hd => h.trans a b d (hq a ha) (hq b hb) (hq d hd), fun a b ha hb => h.rng a b (hq a ha) (hq b hb)⟩
theorem TO.congr {α : Type} {P : α → Prop} {c c' : α → α → Int} (h : TO P c) (hc : ∀ a b, P a → P b → c' a b = c a b) : TO P c' :=
  ⟨fun a b ha hb => by rw [hc a b ha hb]; exact h.eq a b ha hb, fun a b ha hb => by rw [hc a b ha hb, hc b a hb ha]; exact h.anti a b ha hb,
   fun a b d ha hb hd => by rw [hc a b ha hb, hc b d hb hd, hc a d ha hd]; exact h.trans a b d ha hb hd, fun a b ha hb => by rw [hc a b ha hb]; exact h.rng a b ha hb⟩
theorem TO.inj {α β : Type} {P : α → Prop} {Q : β → Prop} {c : β → β → Int} (h : TO Q c) (g : α → β) (hg : ∀ a b, P a → P b → g a = g b → a = b) (hq : ∀ a, P a → Q (g a)) : TO P (fun a b => c (g a) (g b)) :=
  ⟨fun a b ha hb => (h.eq _ _ (hq a ha) (hq b hb)).trans ⟨hg a b ha hb, fun e => by rw [e]⟩, fun a b ha hb => h.anti _ _ (hq a ha) (hq b hb), fun a b d ha hb hd => h.trans _ _ _ (hq a ha) (hq b hb) (hq d hd), fun a b ha hb => h.rng _ _ (hq a ha) (hq b hb)⟩
/-- By a key first. -/
theorem TO.byKey {α κ : Type} {P : α → Prop} {c : α → α → Int} (key : α → κ) {ck : κ → κ → Int} (hk : TO (fun _ => True) ck) (h : ∀ K, TO (fun v => P v ∧ key v = K) c) (hx : ∀ a b, P a → P b → key a ≠ key b → c a b = ck (key a) (key b)) : TO P c := by
  have hne : ∀ a b, key a ≠ key b → ck (key a) (key b) ≠ 0 := fun a b hne e => hne ((hk.eq _ _ trivial trivial).1 e)
  refine ⟨fun a b ha hb => ?_, fun a b ha hb => ?_, fun a b d ha hb hd h1 h2 => ?_, fun a b ha hb => ?_⟩
  · by_cases e : key a = key b
    · exact (h (key b)).eq a b ⟨ha, e⟩ ⟨hb, rfl⟩
    · rw [hx a b ha hb e]
      exact ⟨fun h0 => absurd h0 (hne a b e), fun h0 => absurd (congrArg key h0) e⟩
  · by_cases e : key a = key b
    · exact (h (key b)).anti a b ⟨ha, e⟩ ⟨hb, rfl⟩
    · rw [hx a b ha hb e, hx b a hb ha (Ne.symm e)]; exact hk.anti _ _ trivial trivial
  · by_cases e1 : key a = key b
    · by_cases e2 : key b = key d
      · exact (h (key d)).trans a b d ⟨ha, e1.trans e2⟩ ⟨hb, e2⟩ ⟨hd, rfl⟩ h1 h2
      · rw [hx b d hb hd e2] at h2
        rw [hx a d ha hd (by rw [e1]; exact e2), e1]; exact h2
    · rw [hx a b ha hb e1] at h1
      by_cases e2 : key b = key d
      · rw [hx a d ha hd (by rw [← e2]; exact e1), ← e2]; exact h1
      · rw [hx b d hb hd e2] at h2
        have h3 := hk.trans _ _ _ trivial trivial trivial h1 h2
        have e3 : key a ≠ key d := fun e => by rw [e, hk.self _ trivial] at h3; omega
        rw [hx a d ha hd e3]; exact h3
  · by_cases e : key a = key b
    · exact (h (key b)).rng a b ⟨ha, e⟩ ⟨hb, rfl⟩
    · rw [hx a b ha hb e]; exact hk.rng _ _ trivial trivial

def sgn (x y : Int) : Int := if x < y then -1 else if y < x then 1 else 0
theorem TO_sgn : TO (fun _ : Int => True) sgn := by
  refine ⟨fun a b _ _ => ?_, fun a b _ _ => ?_, fun a b d _ _ _ => ?_, fun a b _ _ => ?_⟩ <;> unfold sgn <;> repeat' split
  all_goals omega
def sgnB (x y : UInt8) : Int := if x < y then -1 else if y < x then 1 else 0
theorem TO_sgnB : TO (fun _ : UInt8 => True) sgnB := by
  have h := TO_sgn.inj (P := fun _ : UInt8 => True) (fun b => (b.toNat : Int)) (fun a b _ _ e => u8_inj (by have e' : (a.toNat : Int) = (b.toNat : Int) := e; omega)) (fun _ _ => trivial)
  refine h.congr fun a b _ _ => ?_
  unfold sgnB sgn
  simp only [UInt8.lt_iff_toNat_lt, Int.ofNat_lt]
def lexCmp {α : Type} (c : α → α → Int) : List α → List α → Int
  | [], [] => 0
  | [], _ :: _ => -1
  | _ :: _, [] => 1
  | x :: xs, y :: ys => if c x y ≠ 0 then c x y else lexCmp c xs ys
theorem TO.lex {α : Type} {P : α → Prop} {c : α → α → Int} (h : TO P c) : TO (fun l : List α => ∀ x ∈ l, P x) (lexCmp c) := by
  refine ⟨fun a => ?_, fun a => ?_, fun a => ?_, fun a => ?_⟩
  · induction a with
    | nil => intro b _ _; cases b <;> simp [lexCmp]
    | cons x xs ih =>
      intro b ha hb
      cases b with
      | nil => simp [lexCmp]
      | cons y ys =>
        have hx := ha x (by simp)
        have hy := hb y (by simp)
        have ih := ih ys (fun z hz => ha z (by simp [hz])) (fun z hz => hb z (by simp [hz]))
        have he := h.eq x y hx hy
        rw [lexCmp]
        by_cases h0 : c x y = 0
        · rw [if_neg (by simpa using h0), ih]
          have := he.1 h0
          simp [this]
        · rw [if_pos h0]
          exact ⟨fun e => absurd e h0, fun e => by simp at e; exact absurd (he.2 e.1) h0⟩
  · induction a with
    | nil => intro b _ _; cases b <;> simp [lexCmp]
    | cons x xs ih =>
      intro b ha hb
      cases b with
      | nil => simp [lexCmp]
      | cons y ys =>
        have hx := ha x (by simp)
        have hy := hb y (by simp)
        have ih := ih ys (fun z hz => ha z (by simp [hz])) (fun z hz => hb z (by simp [hz]))
        have he := h.anti x y hx hy
        rw [lexCmp, lexCmp]
        by_cases h0 : c x y = 0
        · rw [if_neg (show ¬ c y x ≠ 0 by rw [he, h0]; simp), if_neg (show ¬ c x y ≠ 0 by simpa using h0), ih]
        · rw [if_pos (show c y x ≠ 0 by rw [he]; omega), if_pos h0, he]
  · induction a with
    | nil =>
      intro b d _ _ _ h1 h2
      cases d with
      | nil => cases b <;> simp [lexCmp] at h1 h2
      | cons z zs => simp [lexCmp]
    | cons x xs ih =>
      intro b d ha hb hd h1 h2
      cases b with
      | nil => simp [lexCmp] at h1
      | cons y ys =>
        cases d with
        | nil => simp [lexCmp] at h2
        | cons z zs =>
          have hx := ha x (by simp)
          have hy := hb y (by simp)
          have hz := hd z (by simp)
          have ih := ih ys zs (fun z hz => ha z (by simp [hz])) (fun z hz => hb z (by simp [hz])) (fun z hz => hd z (by simp [hz]))
          rw [lexCmp] at h1 h2 ⊢
          by_cases e1 : c x y = 0
          · have e1' := (h.eq x y hx hy).1 e1
            subst e1'
            rw [if_neg (by simpa using e1)] at h1
            by_cases e2 : c x z = 0
            · rw [if_neg (by simpa using e2)] at h2 ⊢
              exact ih h1 h2
            · rw [if_pos e2] at h2 ⊢; exact h2
          · rw [if_pos e1] at h1
            by_cases e2 : c y z = 0
            · have e2' := (h.eq y z hy hz).1 e2
              subst e2'
              rw [if_pos e1]; exact h1
            · rw [if_pos e2] at h2
              have h3 := h.trans x y z hx hy hz h1 h2
              rw [if_pos (by omega)]; exact h3
  · induction a with
    | nil => intro b _ _; cases b <;> simp [lexCmp]
    | cons x xs ih =>
      intro b ha hb
      cases b with
      | nil => simp [lexCmp]
      | cons y ys =>
        rw [lexCmp]
        split
        · exact h.rng x y (ha x (by simp)) (hb y (by simp))
        · exact ih ys (fun z hz => ha z (by simp [hz])) (fun z hz => hb z (by simp [hz]))
theorem lexCmp_congr {α : Type} {c c' : α → α → Int} : ∀ {a b : List α}, (∀ x ∈ a, ∀ y ∈ b, c x y = c' x y) → lexCmp c a b = lexCmp c' a b
  | [], [], _ => rfl
  | [], _ :: _, _ => rfl
  | _ :: _, [], _ => rfl
  | x :: xs, y :: ys, h => by
    rw [lexCmp, lexCmp, h x (by simp) y (by simp), lexCmp_congr (fun z hz w hw => h z (by simp [hz]) w (by simp [hw]))]
/-- The order of strings. -/
def strCmp (a b : List UInt8) : Int := lexCmp sgnB a b
theorem TO_str : TO (fun _ : List UInt8 => True) strCmp := (TO_sgnB.lex).sub (fun _ _ => fun _ _ => trivial)
theorem ltB_iff : ∀ a b : List UInt8, ltB a b = decide (strCmp a b < 0)
  | [], [] => rfl
  | [], _ :: _ => rfl
  | _ :: _, [] => by simp [ltB, strCmp, lexCmp]
  | x :: xs, y :: ys => by
    have ih := ltB_iff xs ys
    unfold strCmp at ih ⊢
    rw [ltB, lexCmp, ih]
    unfold sgnB
    by_cases h : x < y
    · simp [h]
    · by_cases h2 : y < x
      · have h3 : x ≠ y := fun e => by subst e; exact h h2
        simp [h, h2, h3]
      · have h3 : x = y := by
          apply u8_inj
          rw [UInt8.lt_iff_toNat_lt] at h h2
          omega
        subst h3
        simp [h]

/-! ### Numbers -/
def beNat (l : List UInt8) : Nat := l.foldl (fun n b => n * 256 + b.toNat) 0
theorem beNat_snoc (l : List UInt8) (b : UInt8) : beNat (l ++ [b]) = beNat l * 256 + b.toNat := by simp [beNat]
theorem beNat_lt (l : List UInt8) : beNat l < 256 ^ l.length := by
  have key : ∀ n (l : List UInt8), l.length = n → beNat l < 256 ^ l.length := by
    intro n
    induction n with
    | zero => intro l h; have := List.length_eq_zero_iff.1 h; subst this; simp [beNat]
    | succ n ih =>
      intro l h
      rcases List.eq_nil_or_concat l with rfl | ⟨t, b, rfl⟩
      · simp [beNat]
      · rw [List.concat_eq_append] at h ⊢
        simp at h
        have h1 := ih t h
        have h2 := UInt8.toNat_lt b
        rw [beNat_snoc, List.length_append, List.length_singleton, Nat.pow_succ]
        omega
  exact key l.length l rfl
theorem beNat_inj : ∀ (n : Nat) (a b : List UInt8), a.length = n → b.length = n → beNat a = beNat b → a = b := by
  intro n
  induction n with
  | zero => intro a b ha hb _; rw [List.length_eq_zero_iff.1 ha, List.length_eq_zero_iff.1 hb]
  | succ n ih =>
    intro a b ha hb e
    rcases List.eq_nil_or_concat a with rfl | ⟨s, x, rfl⟩
    · simp at ha
    · rcases List.eq_nil_or_concat b with rfl | ⟨t, y, rfl⟩
      · simp at hb
      · simp only [List.concat_eq_append] at ha hb e ⊢
        simp at ha hb
        rw [beNat_snoc, beNat_snoc] at e
        have h1 := UInt8.toNat_lt x
        have h2 := UInt8.toNat_lt y
        have e1 := ih s t ha hb (by omega)
        have e2 : x = y := u8_inj (by omega)
        rw [e1, e2]
/-- The number of an integer. -/
def numV (v : List UInt8) : Int := i64 (beNat (v.drop 1))
theorem i64_inj {a b : Nat} (ha : a < 18446744073709551616) (hb : b < 18446744073709551616) (h : i64 (a : Int) = i64 (b : Int)) : a = b := by
  unfold i64 IntKind.wrap IntKind.bits IntKind.signed at h
  simp at h
  split at h <;> split at h <;> omega

/-! ### Values -/
def cmpV : Nat → List UInt8 → List UInt8 → Int
  | 0, _, _ => 0
  | k + 1, a, b => if a = b then 0 else if gi a 0 ≠ gi b 0 then sgnB (gi a 0) (gi b 0) else if gi a 0 = 1 then sgn (numV a) (numV b) else if gi a 0 = 2 ∨ gi a 0 = 10 then strCmp a b else lexCmp (cmpV k) (partsV k a) (partsV k b)
theorem Sh.kind1 {k : Nat} {v : List UInt8} (h : Sh k v) (h1 : gi v 0 = 1) : v.length = 9 ∧ v = 1 :: v.drop 1 := by
  cases h with
  | int k b hb => simp [hb]
  | bool k b hb => simp [gi_0] at h1
  | name k h l => simp [gi_0] at h1
  | comp k c h l ps hc hn hp => simp [gi_0] at h1; subst h1; simp at hc
theorem Sh.kindc {k : Nat} {v : List UInt8} (h : Sh (k + 1) v) (h1 : gi v 0 ≠ 1) (h2 : ¬ (gi v 0 = 2 ∨ gi v 0 = 10)) : ∃ c x y ps, v = c :: x :: y :: ps.flatten ∧ ps.length = x.toNat * 256 + y.toNat ∧ (∀ p ∈ ps, Sh k p) ∧ partsV k v = ps ∧ (3 ≤ c.toNat ∧ c.toNat ≤ 9) := by
  cases h with
  | int k b hb => simp [gi_0] at h1
  | bool k b hb => simp [gi_0] at h2
  | name k h l => simp [gi_0] at h2
  | comp k c h l ps hc hn hp => exact ⟨c, h, l, ps, rfl, hn, hp, partsV_eq hn hp, hc⟩
theorem cmpV_TO : ∀ k, TO (Sh k) (cmpV k)
  | 0 => ⟨fun a b ha => absurd ha.pos (by omega), fun a b ha => absurd ha.pos (by omega), fun a b d ha => absurd ha.pos (by omega), fun a b ha => absurd ha.pos (by omega)⟩
  | k + 1 => by
    have ih := cmpV_TO k
    refine TO.byKey (fun v => gi v 0) TO_sgnB (fun K => ?_) (fun a b ha hb hne => ?_)
    · have drop0 : ∀ {f : List UInt8 → List UInt8 → Int}, TO (fun v => Sh (k + 1) v ∧ gi v 0 = K) f → (∀ a b, Sh (k + 1) a ∧ gi a 0 = K → Sh (k + 1) b ∧ gi b 0 = K → a ≠ b → cmpV (k + 1) a b = f a b) → TO (fun v => Sh (k + 1) v ∧ gi v 0 = K) (cmpV (k + 1)) := fun {f} hf hc => hf.congr (fun a b ha hb => by
        by_cases e : a = b
        · subst e; rw [hf.self a ha]; simp [cmpV]
        · exact hc a b ha hb e)
      by_cases h1 : K = 1
      · subst h1
        refine drop0 (f := fun a b => sgn (numV a) (numV b)) (TO_sgn.inj numV (fun a b ha hb e => ?_) (fun _ _ => trivial)) (fun a b ha hb hne => ?_)
        · obtain ⟨l1, e1⟩ := ha.1.kind1 ha.2
          obtain ⟨l2, e2⟩ := hb.1.kind1 hb.2
          have hb1 := beNat_lt (a.drop 1)
          have hb2 := beNat_lt (b.drop 1)
          rw [List.length_drop, l1] at hb1
          rw [List.length_drop, l2] at hb2
          have := beNat_inj 8 (a.drop 1) (b.drop 1) (by simp [l1]) (by simp [l2]) (i64_inj (by omega) (by omega) e)
          rw [e1, e2, this]
        · rw [cmpV, if_neg hne, if_neg (by rw [ha.2, hb.2]; simp), if_pos ha.2]
      · by_cases h2 : K = 2 ∨ K = 10
        · refine drop0 (f := strCmp) (TO_str.sub (fun _ _ => trivial)) (fun a b ha hb hne => ?_)
          rw [cmpV, if_neg hne, if_neg (by rw [ha.2, hb.2]; simp), if_neg (by rw [ha.2]; exact h1), if_pos (by rw [ha.2]; exact h2)]
        · refine drop0 (f := fun a b => lexCmp (cmpV k) (partsV k a) (partsV k b)) (ih.lex.inj (partsV k) (fun a b ha hb e => ?_) (fun a ha => ?_)) (fun a b ha hb hne => ?_)
          · obtain ⟨c, x, y, ps, rfl, hn, _, hp, _⟩ := ha.1.kindc (by rw [ha.2]; exact h1) (by rw [ha.2]; exact h2)
            obtain ⟨c', x', y', ps', rfl, hn', _, hp', _⟩ := hb.1.kindc (by rw [hb.2]; exact h1) (by rw [hb.2]; exact h2)
            rw [hp, hp'] at e
            subst e
            have hc : c = c' := by have h1 := ha.2; have h2 := hb.2; simp only [gi_0] at h1 h2; rw [h1, h2]
            have q1 := UInt8.toNat_lt y
            have q2 := UInt8.toNat_lt y'
            have hx : x = x' := u8_inj (by omega)
            have hy : y = y' := u8_inj (by omega)
            rw [hc, hx, hy]
          · obtain ⟨c, x, y, ps, rfl, hn, hs, hp, _⟩ := ha.1.kindc (by rw [ha.2]; exact h1) (by rw [ha.2]; exact h2)
            rw [hp]; exact hs
          · rw [cmpV, if_neg hne, if_neg (by rw [ha.2, hb.2]; simp), if_neg (by rw [ha.2]; exact h1), if_neg (by rw [ha.2]; exact h2)]
    · have hab : a ≠ b := fun e => hne (by rw [e])
      rw [cmpV, if_neg hab, if_pos hne]
theorem cmpV_mono : ∀ (k : Nat) {a b : List UInt8}, Sh k a → Sh k b → cmpV (k + 1) a b = cmpV k a b
  | 0, a, b, ha, _ => absurd ha.pos (by omega)
  | k + 1, a, b, ha, hb => by
    rw [cmpV, cmpV]
    by_cases e : a = b
    · simp [e]
    · rw [if_neg e, if_neg e]
      by_cases e1 : gi a 0 ≠ gi b 0
      · rw [if_pos e1, if_pos e1]
      · rw [if_neg e1, if_neg e1]
        by_cases e2 : gi a 0 = 1
        · rw [if_pos e2, if_pos e2]
        · rw [if_neg e2, if_neg e2]
          by_cases e3 : gi a 0 = 2 ∨ gi a 0 = 10
          · rw [if_pos e3, if_pos e3]
          · rw [if_neg e3, if_neg e3]
            have e1' : gi a 0 = gi b 0 := by simpa using e1
            obtain ⟨c, x, y, ps, rfl, hn, hs, hp, hc⟩ := ha.kindc e2 e3
            obtain ⟨c', x', y', ps', rfl, hn', hs', hp', hc'⟩ := hb.kindc (by rw [← e1']; exact e2) (by rw [← e1']; exact e3)
            rw [partsV_eq hn (fun p h => (hs p h).mono), partsV_eq hn' (fun p h => (hs' p h).mono), hp, hp']
            exact lexCmp_congr (fun p h q h' => cmpV_mono k (hs p h) (hs' q h'))
theorem cmpV_le {k j : Nat} {a b : List UInt8} (ha : Sh k a) (hb : Sh k b) (hj : k ≤ j) : cmpV j a b = cmpV k a b := by
  obtain ⟨d, rfl⟩ := Nat.exists_eq_add_of_le hj
  induction d with
  | zero => rfl
  | succ d ih => exact (cmpV_mono (k + d) (ha.le (by omega)) (hb.le (by omega))).trans (ih (by omega))
end Go.Proofs.YtdppkpiagdaigaaDoor
/- The program's numbers, spans, parts and comparisons of encoded values. -/
namespace Go.Proofs.YtdppkpiagdaigaaDoor
attribute [local irreducible] FU

theorem FU_k (k : Nat) (h : k ≤ 4611686018427387904) : ∃ n, FU = n + k := ⟨FU - k, by have := FU_ge; omega⟩
theorem need_len {ρ : Type} {s : List UInt8} {m : Option ρ} (h : 0 < s.length) : need ((0 : Int) ≤ 0 ∧ 0 < (List.length s : Int)) m = m := need_pos (by omega)
theorem wrap_u64 (x : Int) : IntKind.u64.wrap x = x % 18446744073709551616 := by
  unfold IntKind.wrap IntKind.bits IntKind.signed
  simp
theorem u64_step (n : Nat) (b : UInt8) (hn : n < 72057594037927936) : bOr .u64 (IntKind.u64.wrap ((n : Int) * 2 ^ min (Int.toNat 8) IntKind.u64.bits)) (UInt8.toNat b : Int) = ((n * 256 + b.toNat : Nat) : Int) := by
  have e1 : (2 : Int) ^ min (Int.toNat 8) IntKind.u64.bits = 256 := rfl
  have hb := UInt8.toNat_lt b
  have e2 : IntKind.u64.wrap ((n : Int) * 256) = ((n * 256 : Nat) : Int) := by rw [wrap_u64]; omega
  rw [e1, e2]
  unfold bOr
  rw [BitVec.toNat_or, show IntKind.u64.bits = 64 from rfl, bv_nat 64 (n * 256) (by omega), bv_nat 64 b.toNat (by omega)]
  have h3 := Nat.two_pow_add_eq_or_of_lt (i := 8) (b := b.toNat) (by omega) n
  rw [show n * 256 = 2 ^ 8 * n by omega, ← h3, wrap_u64]
  omega
theorem i64_step (h l : UInt8) : bOr .i64 (i64 ((UInt8.toNat h : Int) * 2 ^ min (Int.toNat 8) IntKind.i64.bits)) (UInt8.toNat l : Int) = ((h.toNat * 256 + l.toNat : Nat) : Int) := by
  have e1 : (2 : Int) ^ min (Int.toNat 8) IntKind.i64.bits = 256 := rfl
  have hh := UInt8.toNat_lt h
  have hl := UInt8.toNat_lt l
  have e2 : i64 ((h.toNat : Int) * 256) = ((h.toNat * 256 : Nat) : Int) := by rw [i64_id (by omega)]; omega
  rw [e1, e2, bOr_nat _ _ (by omega) (by omega)]
  have h3 := Nat.two_pow_add_eq_or_of_lt (i := 8) (b := l.toNat) (by omega) h.toNat
  rw [show h.toNat * 256 = 2 ^ 8 * h.toNat by omega, ← h3]
theorem take_snoc {s : List UInt8} {i : Nat} (h : i < s.length) : s.take (i + 1) = s.take i ++ [s[i]] := by rw [List.take_append_getElem h]
theorem vInteger (v : List UInt8) (h : 9 ≤ v.length) : m_value_integer v = some (i64 (beNat ((v.drop 1).take 8))) := by
  have hFU := FU_ge
  unfold m_value_integer
  rw [jn_eq]
  have loop : ∀ (m i n : Nat), i + m = 9 → 1 ≤ i → m < n → m_value_integer_L2 v (fun x3_j1 => some (i64 x3_j1)) n (beNat ((v.drop 1).take (i - 1))) i = some (i64 (beNat ((v.drop 1).take 8))) := by
    intro m
    induction m with
    | zero =>
      intro i n hi h1 hn
      obtain ⟨n, rfl⟩ : ∃ k, n = k + 1 := ⟨n - 1, by omega⟩
      obtain rfl : i = 9 := by omega
      rw [m_value_integer_L2, m_value_integer_B2, if_neg (by omega)]
    | succ m ih =>
      intro i n hi h1 hn
      obtain ⟨n, rfl⟩ : ∃ k, n = k + 1 := ⟨n - 1, by omega⟩
      have hb := beNat_lt ((v.drop 1).take (i - 1))
      have hl : ((v.drop 1).take (i - 1)).length = i - 1 := by simp; omega
      rw [hl] at hb
      have hp : 256 ^ (i - 1) ≤ 256 ^ 7 := Nat.pow_le_pow_right (by omega) (by omega)
      rw [m_value_integer_L2, m_value_integer_B2, if_pos (by omega), need_pos (by omega), u64_step _ _ (by omega), i64_succ (by omega), gi_nat (by omega)]
      have e : beNat ((v.drop 1).take (i - 1)) * 256 + v[i].toNat = beNat ((v.drop 1).take (i + 1 - 1)) := by
        rw [show i + 1 - 1 = (i - 1) + 1 by omega, take_snoc (by simp; omega), beNat_snoc]
        congr 2
        rw [List.getElem_drop]
        congr 1; omega
      rw [e]
      exact ih (i + 1) n (by omega) (by omega) (by omega)
  exact loop 8 1 FU (by omega) (by omega) (by omega)
theorem cByte (a b : UInt8) : m_cmp_Compare_byte a b = some (sgnB a b) := by
  unfold m_cmp_Compare_byte m_cmp_isNaN_byte sgnB
  simp only [bnd1_mk]
  by_cases h1 : a < b <;> by_cases h2 : b < a <;> simp [h1, h2]
theorem cI64 (a b : Int) : m_cmp_Compare_int64 a b = some (sgn a b) := by
  unfold m_cmp_Compare_int64 m_cmp_isNaN_int64 sgn
  simp only [bnd1_mk]
  by_cases h1 : a < b <;> by_cases h2 : b < a <;> simp [h1, h2]
theorem strCmp_cases (a b : List UInt8) : (ltS a b ∧ strCmp a b = -1) ∨ (¬ ltS a b ∧ ltS b a ∧ strCmp a b = 1) ∨ (¬ ltS a b ∧ ¬ ltS b a ∧ strCmp a b = 0) := by
  have h1 := TO_str.rng a b trivial trivial
  have h2 := TO_str.anti a b trivial trivial
  have e1 := ltB_iff a b
  have e2 := ltB_iff b a
  unfold ltS
  rw [e1, e2]
  simp only [decide_eq_true_eq]
  omega
theorem cStr (a b : List UInt8) : m_cmp_Compare_api_Value a b = some (strCmp a b) := by
  unfold m_cmp_Compare_api_Value m_cmp_isNaN_api_Value
  simp only [bnd1_mk]
  rcases strCmp_cases a b with ⟨h1, h2⟩ | ⟨h1, h2, h3⟩ | ⟨h1, h2, h3⟩
  · simp [h1, h2]
  · simp [h1, h2, h3]
  · simp [h1, h2, h3]
theorem vSimple (c : UInt8) : m_value_simple (c.toNat : Int) = some (decide (c = 0 ∨ c = 1 ∨ c = 2 ∨ c = 10)) := by
  unfold m_value_simple
  rw [jn_eq]
  have key : ∀ d : UInt8, ((c.toNat : Int) = (d.toNat : Int)) ↔ c = d := fun d => ⟨fun h => u8_inj (by omega), fun h => by rw [h]⟩
  have k0 := key 0
  have k1 := key 1
  have k2 := key 2
  have k10 := key 10
  simp only [show ((0 : UInt8).toNat : Int) = 0 from rfl, show ((1 : UInt8).toNat : Int) = 1 from rfl, show ((2 : UInt8).toNat : Int) = 2 from rfl, show ((10 : UInt8).toNat : Int) = 10 from rfl] at k0 k1 k2 k10
  simp only [k0, k1, k2, k10]
  by_cases h0 : c = 0 <;> by_cases h1 : c = 1 <;> by_cases h2 : c = 2 <;> simp [h0, h1, h2]

/-! ### Spans and parts -/
theorem vSpan : ∀ (k : Nat) (v : List UInt8), Sh k v → ∀ (n : Nat) (r : List UInt8), k ≤ n → v.length + r.length ≤ 1099511627776 → m_value_span_S n (v ++ r) = some (v.length : Int)
  | 0, v, h, _, _, _, _ => absurd h.pos (by omega)
  | k + 1, v, h, n, r, hn, hl => by
    have hFU := FU_ge
    obtain ⟨n, rfl⟩ : ∃ q, n = q + 1 := ⟨n - 1, by omega⟩
    have hlen := h.len
    rw [m_value_span_S, m_value_span_F, need_len (by simp; omega)]
    cases h with
    | int k b hb => simp [gi_0, hb]
    | bool k b hb => simp [gi_0]
    | name k h l => simp [gi_0]
    | comp k c h l ps hc hn' hp =>
      obtain ⟨n1, n2, n3⟩ := kind_ne hc
      simp only [List.cons_append, gi_0, gi_1, gi_2, n1, n2, n3, if_false, jn_eq]
      rw [need_pos (by simp; omega), need_pos (by simp; omega)]
      have hx : UInt8.toNat h < 256 := UInt8.toNat_lt h
      have hy : UInt8.toNat l < 256 := UInt8.toNat_lt l
      have htot : ps.flatten.length + 3 + r.length ≤ 1099511627776 := by simp at hl; simp; omega
      have loop : ∀ (m i q at_ : Nat), i + m = ps.length → m < q → at_ = 3 + (ps.take i).flatten.length → m_value_span_L2 (m_value_span_S n) (c :: h :: l :: (ps.flatten ++ r)) (fun x => some x) q at_ i = some ((3 + ps.flatten.length : Nat) : Int) := by
        intro m
        induction m with
        | zero =>
          intro i q at_ hi hq ha
          obtain ⟨q, rfl⟩ : ∃ k, q = k + 1 := ⟨q - 1, by omega⟩
          rw [m_value_span_L2, m_value_span_B2, gi_1, gi_2, i64_step, ← hn', if_neg (by omega)]
          rw [ha, show i = ps.length by omega, List.take_length]
        | succ m ih =>
          intro i q at_ hi hq ha
          obtain ⟨q, rfl⟩ : ∃ k, q = k + 1 := ⟨q - 1, by omega⟩
          have hip : i < ps.length := by omega
          have hsplit : ps.flatten = (ps.take i).flatten ++ (ps[i] ++ (ps.drop (i + 1)).flatten) := by
            conv => lhs; rw [← List.take_append_drop i ps, List.drop_eq_getElem_cons hip, List.flatten_append, List.flatten_cons]
          have hls : ps.flatten.length = (ps.take i).flatten.length + (ps[i].length + (ps.drop (i + 1)).flatten.length) := by rw [hsplit]; simp
          rw [m_value_span_L2, m_value_span_B2, gi_1, gi_2, i64_step, ← hn', if_pos (by omega), need_pos (by simp only [List.length_cons, List.length_append]; omega), Int.toNat_natCast]
          have hd : List.drop at_ (c :: h :: l :: (ps.flatten ++ r)) = ps[i] ++ ((ps.drop (i + 1)).flatten ++ r) := by
            rw [ha, show 3 + (ps.take i).flatten.length = (ps.take i).flatten.length + 3 by omega]
            simp only [List.drop_succ_cons]
            rw [hsplit, List.append_assoc, List.drop_left, List.append_assoc]
          rw [hd, vSpan k ps[i] (hp _ (List.getElem_mem _)) n _ (by omega) (by rw [List.length_append]; omega), bnd1_mk]
          rw [i64_succ (by omega)]
          have e : i64 ((at_ : Int) + (ps[i].length : Int)) = ((at_ + ps[i].length : Nat) : Int) := by rw [i64_id (by omega)]; omega
          rw [e]
          refine ih (i + 1) q (at_ + ps[i].length) (by omega) (by omega) ?_
          rw [← List.take_append_getElem hip, List.flatten_append, List.length_append, ha]
          simp; omega
      have := loop ps.length 0 FU 3 (by omega) (by omega) (by simp)
      rw [show ((3 : Nat) : Int) = 3 from rfl, show ((0 : Nat) : Int) = 0 from rfl] at this
      rw [this]
      congr 1
      simp; omega
theorem vClip (l : List (List UInt8)) : m_slices_Clip_L_api_Value_api_Value l = some l := by
  unfold m_slices_Clip_L_api_Value_api_Value
  rw [need_pos (by omega), Int.toNat_natCast, List.take_length]
theorem vParts {k : Nat} {c h l : UInt8} {ps : List (List UInt8)} (hp : ∀ p ∈ ps, Sh k p) (hk : k ≤ 1000) (hl : ps.flatten.length ≤ 1000000000) : m_value_parts (c :: h :: l :: ps.flatten) = some ps := by
  have hFU := FU_ge
  unfold m_value_parts
  simp only [jn_eq, vClip, bnd1_mk]
  have hps : ps.length ≤ ps.flatten.length := by
    have : ∀ qs : List (List UInt8), (∀ p ∈ qs, Sh k p) → qs.length ≤ qs.flatten.length := by
      intro qs
      induction qs with
      | nil => intro _; simp
      | cons q qs ih => intro h; have h1 := (h q (by simp)).len; have h2 := ih (fun p hp => h p (by simp [hp])); simp at h2 ⊢; omega
    exact this ps hp
  have loop : ∀ (m i q at_ : Nat), i + m = ps.length → m < q → at_ = 3 + (ps.take i).flatten.length → m_value_parts_L2 (c :: h :: l :: ps.flatten) (fun x => some x) q (ps.take i) at_ = some ps := by
    intro m
    induction m with
    | zero =>
      intro i q at_ hi hq ha
      obtain ⟨q, rfl⟩ : ∃ k, q = k + 1 := ⟨q - 1, by omega⟩
      rw [show i = ps.length by omega, List.take_length] at ha ⊢
      rw [m_value_parts_L2, m_value_parts_B2, if_neg (by simp only [List.length_cons]; omega)]
    | succ m ih =>
      intro i q at_ hi hq ha
      obtain ⟨q, rfl⟩ : ∃ k, q = k + 1 := ⟨q - 1, by omega⟩
      have hip : i < ps.length := by omega
      have hsplit : ps.flatten = (ps.take i).flatten ++ (ps[i] ++ (ps.drop (i + 1)).flatten) := by
        conv => lhs; rw [← List.take_append_drop i ps, List.drop_eq_getElem_cons hip, List.flatten_append, List.flatten_cons]
      have hls : ps.flatten.length = (ps.take i).flatten.length + (ps[i].length + (ps.drop (i + 1)).flatten.length) := by rw [hsplit]; simp
      have hpos := (hp _ (List.getElem_mem hip)).len
      have hall : (c :: h :: l :: ps.flatten).length = ps.flatten.length + 3 := rfl
      rw [m_value_parts_L2, m_value_parts_B2, hall, if_pos (by omega), need_pos (by omega), Int.toNat_natCast]
      have hd : List.drop at_ (c :: h :: l :: ps.flatten) = ps[i] ++ (ps.drop (i + 1)).flatten := by
        rw [ha, show 3 + (ps.take i).flatten.length = (ps.take i).flatten.length + 3 by omega]
        simp only [List.drop_succ_cons]
        conv => lhs; rw [hsplit]
        rw [List.drop_left]
      have hsp : m_value_span (ps[i] ++ (ps.drop (i + 1)).flatten) = some (ps[i].length : Int) := by
        unfold m_value_span
        exact vSpan k ps[i] (hp _ (List.getElem_mem _)) FU _ (by omega) (by omega)
      have e : i64 ((at_ : Int) + (ps[i].length : Int)) = ((at_ + ps[i].length : Nat) : Int) := by rw [i64_id (by omega)]; omega
      rw [hd, hsp, bnd1_mk, e, need_pos (by omega), Int.toNat_natCast, show at_ + ps[i].length - at_ = ps[i].length by omega, List.take_left]
      rw [need_pos (by simp; omega)]
      rw [List.take_append_getElem hip]
      refine ih (i + 1) q (at_ + ps[i].length) (by omega) (by omega) ?_
      rw [← List.take_append_getElem hip, List.flatten_append, List.length_append, ha]
      simp; omega
  have := loop ps.length 0 FU 3 (by omega) (by omega) (by simp)
  rw [show ((3 : Nat) : Int) = 3 from rfl, List.take_zero] at this
  exact this
theorem compareFunc_eq (f : List UInt8 → List UInt8 → Option Int) (c : List UInt8 → List UInt8 → Int) (a b : List (List UInt8)) (ha : a.length ≤ 1099511627776) (hb : b.length ≤ 1099511627776) (hf : ∀ x ∈ a, ∀ y ∈ b, f x y = some (c x y)) :
    m_slices_CompareFunc_L_api_Value_L_api_Value_api_Value_api_Value a b f = some (lexCmp c a b) := by
  have hFU := FU_ge
  unfold m_slices_CompareFunc_L_api_Value_L_api_Value_api_Value_api_Value
  rw [jn_eq]
  have loop : ∀ (m i n : Nat), i + m = a.length → m < n → i ≤ b.length → m_slices_CompareFunc_L_api_Value_L_api_Value_api_Value_api_Value_L2 a b f (fun _ => if (List.length a : Int) < (List.length b : Int) then (some (-1)) else (some 0)) n i = some (lexCmp c (a.drop i) (b.drop i)) := by
    intro m
    induction m with
    | zero =>
      intro i n hi hn hib
      obtain ⟨n, rfl⟩ : ∃ k, n = k + 1 := ⟨n - 1, by omega⟩
      rw [m_slices_CompareFunc_L_api_Value_L_api_Value_api_Value_api_Value_L2, m_slices_CompareFunc_L_api_Value_L_api_Value_api_Value_api_Value_B2, if_neg (by omega), List.drop_eq_nil_of_le (by omega)]
      by_cases h : (List.length a : Int) < (List.length b : Int)
      · rw [if_pos h, List.drop_eq_getElem_cons (show i < b.length by omega)]; rfl
      · rw [if_neg h, List.drop_eq_nil_of_le (show b.length ≤ i by omega)]; rfl
    | succ m ih =>
      intro i n hi hn hib
      obtain ⟨n, rfl⟩ : ∃ k, n = k + 1 := ⟨n - 1, by omega⟩
      rw [m_slices_CompareFunc_L_api_Value_L_api_Value_api_Value_api_Value_L2, m_slices_CompareFunc_L_api_Value_L_api_Value_api_Value_api_Value_B2, if_pos (by omega), need_pos (by omega), List.drop_eq_getElem_cons (show i < a.length by omega)]
      by_cases h : (List.length b : Int) ≤ i
      · rw [if_pos h, List.drop_eq_nil_of_le (show b.length ≤ i by omega)]; rfl
      · have hib' : i < b.length := by omega
        rw [if_neg h, need_pos (by omega), gi_nat (by omega), gi_nat hib', hf _ (List.getElem_mem _) _ (List.getElem_mem _), bnd1_mk, List.drop_eq_getElem_cons hib', lexCmp, i64_succ (by omega)]
        by_cases h0 : c a[i] b[i] = 0
        · simp only [h0, not_true_eq_false, ne_eq, if_false]
          exact ih (i + 1) n (by omega) (by omega) (by omega)
        · rw [if_pos h0, if_pos h0]
  have := loop a.length 0 FU (by omega) (by omega) (by omega)
  rwa [List.drop_zero, List.drop_zero] at this
theorem vCompareS : ∀ (k : Nat) (a b : List UInt8), Sh k a → Sh k b → k ≤ 1000 → a.length ≤ 1000000000 → b.length ≤ 1000000000 → ∀ n, k ≤ n → m_value_compare_S n a b = some (cmpV k a b)
  | 0, a, b, ha, _, _, _, _, _, _ => absurd ha.pos (by omega)
  | k + 1, a, b, ha, hb, hk, la, lb, n, hn => by
    obtain ⟨n, rfl⟩ : ∃ q, n = q + 1 := ⟨n - 1, by omega⟩
    have h1 := ha.len
    have h2 := hb.len
    rw [m_value_compare_S, m_value_compare_F, cmpV]
    by_cases e : a = b
    · simp [e]
    · rw [if_neg e, if_neg e, need_len (by omega), need_len (by omega), cByte, bnd1_mk]
      by_cases e1 : gi a 0 = gi b 0
      · have e1' : sgnB (gi a 0) (gi b 0) = 0 := (TO_sgnB.eq _ _ trivial trivial).2 e1
        rw [if_neg (show ¬ ¬ sgnB (gi a 0) (gi b 0) = 0 from fun h => h e1'), if_neg (show ¬ (gi a 0 ≠ gi b 0) from fun h => h e1), need_len (by omega)]
        by_cases e2 : gi a 0 = 1
        · simp only [if_pos e2]
          obtain ⟨l1, d1⟩ := ha.kind1 e2
          obtain ⟨l2, d2⟩ := hb.kind1 (by rw [← e1]; exact e2)
          rw [vInteger a (by omega), vInteger b (by omega), bnd1_mk, bnd1_mk, cI64, bnd1_mk, List.take_of_length_le (by simp [l1]), List.take_of_length_le (by simp [l2])]
          rfl
        · simp only [if_neg e2]
          rw [need_len (by omega), vSimple, bnd1_mk]
          have e0 : gi a 0 ≠ 0 := by
            cases ha with
            | int k b hb => simp [gi_0] at e2
            | bool k b hb => simp [gi_0]
            | name k h l => simp [gi_0]
            | comp k c h l ps hc hn hp => rw [gi_0]; rintro rfl; simp at hc
          by_cases e3 : gi a 0 = 2 ∨ gi a 0 = 10
          · rw [if_pos (decide_eq_true (show gi a 0 = 0 ∨ gi a 0 = 1 ∨ gi a 0 = 2 ∨ gi a 0 = 10 from .inr (.inr e3))), if_pos e3, cStr, bnd1_mk]
          · rw [if_neg (show ¬ (decide (gi a 0 = 0 ∨ gi a 0 = 1 ∨ gi a 0 = 2 ∨ gi a 0 = 10) = true) from fun h => (of_decide_eq_true h).elim e0 (fun h => h.elim e2 e3)), if_neg e3]
            obtain ⟨c, x, y, ps, rfl, hn1, hs, hp, _⟩ := ha.kindc e2 e3
            obtain ⟨c', x', y', ps', rfl, hn2, hs', hp', _⟩ := hb.kindc (by rw [← e1]; exact e2) (by rw [← e1]; exact e3)
            have f1 : ps.flatten.length ≤ 1000000000 := by simp at la ⊢; omega
            have f2 : ps'.flatten.length ≤ 1000000000 := by simp at lb ⊢; omega
            have hmem : ∀ {qs : List (List UInt8)} {q : List UInt8}, q ∈ qs → q.length ≤ qs.flatten.length := by
              intro qs q hq
              induction qs with
              | nil => cases hq
              | cons a qs ih =>
                rcases List.mem_cons.1 hq with rfl | hq
                · simp
                · have := ih hq; simp at this ⊢; omega
            have hx : UInt8.toNat x < 256 := UInt8.toNat_lt x
            have hy : UInt8.toNat y < 256 := UInt8.toNat_lt y
            have hx' : UInt8.toNat x' < 256 := UInt8.toNat_lt x'
            have hy' : UInt8.toNat y' < 256 := UInt8.toNat_lt y'
            rw [vParts hs (by omega) f1, bnd1_mk, vParts hs' (by omega) f2, bnd1_mk,
              compareFunc_eq (m_value_compare_S n) (cmpV k) ps ps' (by omega) (by omega) (fun p hp q hq => vCompareS k p q (hs p hp) (hs' q hq) (by omega) (Nat.le_trans (hmem hp) f1) (Nat.le_trans (hmem hq) f2) n (by omega)), bnd1_mk, hp, hp']
      · have e1' : sgnB (gi a 0) (gi b 0) ≠ 0 := fun h => e1 ((TO_sgnB.eq _ _ trivial trivial).1 h)
        rw [if_pos (show ¬ sgnB (gi a 0) (gi b 0) = 0 from e1'), if_pos (show gi a 0 ≠ gi b 0 from e1)]
theorem vCompare {k : Nat} {a b : List UInt8} (ha : Sh k a) (hb : Sh k b) (hk : k ≤ 1000) (la : a.length ≤ 1000000000) (lb : b.length ≤ 1000000000) : m_value_compare a b = some (cmpV k a b) :=
  vCompareS k a b ha hb hk la lb FU (by have := FU_ge; omega)
end Go.Proofs.YtdppkpiagdaigaaDoor
/- Valid values: what the program calls valid. -/
namespace Go.Proofs.YtdppkpiagdaigaaDoor
attribute [local irreducible] FU

/-- The order of values. -/
def cmpW (a b : List UInt8) : Int := cmpV 32 a b
theorem cmpW_eq {k : Nat} {a b : List UInt8} (ha : Sh k a) (hb : Sh k b) (hk : k ≤ 32) : cmpV k a b = cmpW a b := (cmpV_le ha hb hk).symm
def ascB : List (List UInt8) → Bool
  | [] => true
  | [_] => true
  | x :: y :: t => decide (cmpW x y < 0) && ascB (y :: t)
def evens {α : Type} : List α → List α
  | [] => []
  | [x] => [x]
  | x :: _ :: t => x :: evens t
def betB (v : List UInt8) (lo hi : Int) : Bool := gi v 0 == 1 && (decide (lo ≤ numV v) && decide (numV v ≤ hi))
/-- Whether these parts may be those of a value of kind c. -/
def formedB (c : UInt8) (ps : List (List UInt8)) : Bool :=
  if c = 3 then decide (2 ≤ ps.length) && decide (ps.length ≤ 8)
  else if c = 5 then ascB ps
  else if c = 6 then decide (ps.length % 2 = 0) && ascB (evens ps)
  else if c = 7 then decide (1 ≤ ps.length) && (decide (ps.length ≤ 9) && gi (gi ps 0) 0 == 10)
  else if c = 8 then decide (1 ≤ ps.length) && (decide (ps.length ≤ 33) && betB (gi ps 0) 0 65535)
  else if c = 9 then decide (1 ≤ ps.length) && betB (gi ps 0) 1 21
  else true
/-- v is the encoding of one valid value that is nested at most k deep. -/
inductive IsV : Nat → List UInt8 → Prop
  | int (k : Nat) (b : List UInt8) (h : b.length = 8) : IsV (k + 1) (1 :: b)
  | bool (k : Nat) (b : UInt8) (h : b.toNat ≤ 1) : IsV (k + 1) [2, b]
  | name (k : Nat) (h l : UInt8) : IsV (k + 1) [10, h, l]
  | comp (k : Nat) (c h l : UInt8) (ps : List (List UInt8)) (hc : 3 ≤ c.toNat ∧ c.toNat ≤ 9) (hn : ps.length = h.toNat * 256 + l.toNat) (hp : ∀ p ∈ ps, IsV k p) (hf : formedB c ps = true) : IsV (k + 1) (c :: h :: l :: ps.flatten)
theorem IsV.sh {k : Nat} {v : List UInt8} (h : IsV k v) : Sh k v := by
  induction h with
  | int k b h => exact .int _ b h
  | bool k b h => exact .bool _ b h
  | name k h l => exact .name _ h l
  | comp k c h l ps hc hn hp hf ih => exact .comp _ c h l ps hc hn ih
theorem IsV.mono {k : Nat} {v : List UInt8} (h : IsV k v) : IsV (k + 1) v := by
  induction h with
  | int k b h => exact .int _ b h
  | bool k b h => exact .bool _ b h
  | name k h l => exact .name _ h l
  | comp k c h l ps hc hn hp hf ih => exact .comp _ c h l ps hc hn ih hf
theorem IsV.le {k j : Nat} {v : List UInt8} (h : IsV k v) (hj : k ≤ j) : IsV j v := by
  obtain ⟨d, rfl⟩ := Nat.exists_eq_add_of_le hj
  induction d with
  | zero => exact h
  | succ d ih => exact (ih (by omega)).mono
theorem evens_get {α : Type} : ∀ (l : List α) (i : Nat), (evens l)[i]? = l[2 * i]?
  | [], i => by simp [evens]
  | [x], 0 => rfl
  | [x], i + 1 => by simp [evens]
  | x :: y :: t, 0 => rfl
  | x :: y :: t, i + 1 => by simp only [evens, List.getElem?_cons_succ]; rw [evens_get t i, show 2 * (i + 1) = 2 * i + 1 + 1 by omega]; simp
theorem evens_len {α : Type} : ∀ l : List α, (evens l).length = (l.length + 1) / 2
  | [] => by simp [evens]
  | [x] => by simp [evens]
  | x :: y :: t => by simp only [evens, List.length_cons]; rw [evens_len t]; omega
theorem evens_mem {α : Type} {x : α} : ∀ {l : List α}, x ∈ evens l → x ∈ l
  | [y], h => h
  | y :: z :: t, h => by
    simp only [evens, List.mem_cons] at h
    rcases h with rfl | h
    · simp
    · simp [evens_mem h]

theorem vAsc (ps : List (List UInt8)) (hl : ps.length ≤ 1000000) (hc : ∀ p ∈ ps, ∀ q ∈ ps, m_value_compare p q = some (cmpW p q)) : m_value_ascending ps = some (ascB ps) := by
  have hFU := FU_ge
  unfold m_value_ascending
  rw [jn_eq]
  have loop : ∀ (m i n : Nat), i + m = ps.length → 1 ≤ i → m < n → m_value_ascending_L2 ps (fun _ => some true) n i = some (ascB (ps.drop (i - 1))) := by
    intro m
    induction m with
    | zero =>
      intro i n hi h1 hn
      obtain ⟨n, rfl⟩ : ∃ k, n = k + 1 := ⟨n - 1, by omega⟩
      rw [m_value_ascending_L2, m_value_ascending_B2, if_neg (by omega), List.drop_eq_getElem_cons (show i - 1 < ps.length by omega), List.drop_eq_nil_of_le (by omega)]
      rfl
    | succ m ih =>
      intro i n hi h1 hn
      obtain ⟨n, rfl⟩ : ∃ k, n = k + 1 := ⟨n - 1, by omega⟩
      have hip : i < ps.length := by omega
      have e : ps.drop (i - 1) = ps[i - 1] :: ps[i] :: ps.drop (i + 1) := by
        rw [List.drop_eq_getElem_cons (show i - 1 < ps.length by omega), show i - 1 + 1 = i by omega, List.drop_eq_getElem_cons hip]
      have e2 : ps.drop (i + 1 - 1) = ps[i] :: ps.drop (i + 1) := by rw [show i + 1 - 1 = i by omega, List.drop_eq_getElem_cons hip]
      have e3 : gi ps ((i : Int) - 1) = ps[i - 1] := by rw [show (i : Int) - 1 = ((i - 1 : Nat) : Int) by omega, gi_nat (by omega)]
      rw [m_value_ascending_L2, m_value_ascending_B2, if_pos (by omega), i64_sub1 (by omega), need_pos (by omega), need_pos (by omega), e3, gi_nat hip, hc _ (List.getElem_mem _) _ (List.getElem_mem _), bnd1_mk, i64_succ (by omega), e, ascB]
      by_cases h : cmpW ps[i - 1] ps[i] < 0
      · rw [if_neg (by omega), ih (i + 1) n (by omega) (by omega) (by omega), e2]; simp [h]
      · rw [if_pos (by omega)]; simp [h]
  match hps : ps with
  | [] =>
    obtain ⟨n, hn⟩ := FU_k 1 (by omega)
    rw [hn, m_value_ascending_L2, m_value_ascending_B2, if_neg (by simp)]; rfl
  | p :: t =>
    have := loop t.length 1 FU (by simp; omega) (by omega) (by simp at hl; omega)
    rw [show ((1 : Nat) : Int) = 1 from rfl] at this
    rw [this]; rfl
theorem vBetween {k : Nat} {v : List UInt8} (h : Sh k v) (lo hi : Int) : m_value_between v lo hi = some (betB v lo hi) := by
  have hl := h.len
  unfold m_value_between betB
  rw [jn_eq, need_len (by omega)]
  by_cases h1 : gi v 0 = 1
  · obtain ⟨l1, _⟩ := h.kind1 h1
    rw [if_pos h1, vInteger v (by omega), bnd1_mk, bnd1_mk, List.take_of_length_le (by simp [l1])]
    have : i64 (beNat (v.drop 1) : Int) = numV v := rfl
    rw [this]
    by_cases h2 : lo ≤ numV v <;> simp [h1, h2]
  · rw [if_neg h1]; simp [h1]
theorem toNat_eq_iff (c d : UInt8) : ((c.toNat : Int) = (d.toNat : Int)) ↔ c = d := ⟨fun h => u8_inj (by omega), fun h => by rw [h]⟩
theorem toNat3 (c : UInt8) : ((c.toNat : Int) = 3) ↔ c = 3 := toNat_eq_iff c 3
theorem toNat5 (c : UInt8) : ((c.toNat : Int) = 5) ↔ c = 5 := toNat_eq_iff c 5
theorem toNat6 (c : UInt8) : ((c.toNat : Int) = 6) ↔ c = 6 := toNat_eq_iff c 6
theorem toNat7 (c : UInt8) : ((c.toNat : Int) = 7) ↔ c = 7 := toNat_eq_iff c 7
theorem toNat8 (c : UInt8) : ((c.toNat : Int) = 8) ↔ c = 8 := toNat_eq_iff c 8
theorem toNat9 (c : UInt8) : ((c.toNat : Int) = 9) ↔ c = 9 := toNat_eq_iff c 9
theorem tmod2 (n : Nat) : (Int.tmod (n : Int) 2 = 0) ↔ n % 2 = 0 := by
  have : Int.tmod (n : Int) 2 = ((n % 2 : Nat) : Int) := rfl
  rw [this]; omega
theorem vFormed {k : Nat} (c : UInt8) (ps : List (List UInt8)) (hp : ∀ p ∈ ps, Sh k p) (hk : k ≤ 32) (hl : ps.length ≤ 100000) (hs : ps.flatten.length ≤ 1000000000) : m_value_formed (c.toNat : Int) ps = some (formedB c ps) := by
  have hFU := FU_ge
  have hmem : ∀ {qs : List (List UInt8)} {q : List UInt8}, q ∈ qs → q.length ≤ qs.flatten.length := by
    intro qs q hq
    induction qs with
    | nil => cases hq
    | cons a qs ih =>
      rcases List.mem_cons.1 hq with rfl | hq
      · simp
      · have := ih hq; simp at this ⊢; omega
  have hc : ∀ p ∈ ps, ∀ q ∈ ps, m_value_compare p q = some (cmpW p q) := fun p h q h' => by
    rw [vCompare (hp p h) (hp q h') (by omega) (Nat.le_trans (hmem h) hs) (Nat.le_trans (hmem h') hs), cmpW_eq (hp p h) (hp q h') hk]
  have h0 : 1 ≤ ps.length → gi ps 0 ∈ ps := fun h => by
    rw [show (0 : Int) = ((0 : Nat) : Int) from rfl, gi_nat (by omega)]; exact List.getElem_mem _
  unfold m_value_formed formedB
  simp only [jn_eq, toNat3, toNat5, toNat6, toNat7, toNat8, toNat9]
  by_cases h3 : c = 3
  · simp only [h3, if_true]
    by_cases h : (2 : Int) ≤ (ps.length : Int)
    · rw [if_pos h]
      by_cases h8 : (ps.length : Int) ≤ 8
      · simp [show 2 ≤ ps.length by omega, show ps.length ≤ 8 by omega, h8]
      · simp [show ¬ ps.length ≤ 8 by omega, h8]
    · rw [if_neg h]; simp; omega
  · simp only [h3, if_false]
    by_cases h5 : c = 5
    · simp only [h5, if_true, vAsc ps (by omega) hc, bnd1_mk]
    · simp only [h5, if_false]
      by_cases h6 : c = 6
      · simp only [h6, if_true]
        have loop : ∀ (m i n : Nat), i + m = ps.length → m < n → i % 2 = 0 → m_value_formed_L4 ps (fun x6_j45 => if (Int.tmod (List.length ps : Int) 2) = 0 then (bnd1 (m_value_ascending x6_j45) (fun y67 => some y67)) else some false) n (evens (ps.take i)) i = some (decide (ps.length % 2 = 0) && ascB (evens ps)) := by
          intro m
          induction m using Nat.strongRecOn with
          | _ m ih =>
            intro i n hi hn h2
            obtain ⟨n, rfl⟩ : ∃ k, n = k + 1 := ⟨n - 1, by omega⟩
            rw [m_value_formed_L4, m_value_formed_B4]
            by_cases hm : m = 0
            · rw [if_neg (by omega), show i = ps.length by omega, List.take_length]
              simp only [tmod2]
              by_cases he : ps.length % 2 = 0
              · rw [if_pos he, vAsc (evens ps) (by rw [evens_len]; omega) (fun p h q h' => hc p (evens_mem h) q (evens_mem h')), bnd1_mk]; simp [he]
              · rw [if_neg he]; simp [he]
            · have hip : i < ps.length := by omega
              rw [if_pos (by omega), need_pos (by omega), need_pos (by rw [evens_len]; simp; omega), gi_nat hip]
              have e : i64 ((i : Int) + 2) = ((i + 2 : Nat) : Int) := by rw [i64_id (by omega)]; omega
              rw [e]
              have ee : evens (ps.take i) ++ [ps[i]] = evens (ps.take (i + 2)) := by
                apply List.ext_getElem?
                intro j
                rw [evens_get, List.getElem?_append, evens_len]
                simp only [List.length_take]
                by_cases hj : j < (min i ps.length + 1) / 2
                · rw [if_pos hj, evens_get, List.getElem?_take_of_lt (by omega), List.getElem?_take_of_lt (by omega)]
                · rw [if_neg hj]
                  by_cases hj2 : 2 * j = i
                  · rw [show j - (min i ps.length + 1) / 2 = 0 by omega, List.getElem?_take_of_lt (by omega), hj2, List.getElem?_eq_getElem hip]; rfl
                  · rw [List.getElem?_eq_none (by simp; omega), List.getElem?_eq_none (by simp; omega)]
              rw [ee]
              by_cases hm1 : m = 1
              · -- the last one
                obtain ⟨n, rfl⟩ : ∃ k, n = k + 1 := ⟨n - 1, by omega⟩
                rw [m_value_formed_L4, m_value_formed_B4, if_neg (by omega), List.take_of_length_le (by omega)]
                simp only [tmod2]
                rw [if_neg (by omega)]
                simp; omega
              · exact ih (m - 2) (by omega) (i + 2) n (by omega) (by omega) (by omega)
        have := loop ps.length 0 FU (by omega) (by omega) (by omega)
        rw [show ((0 : Nat) : Int) = 0 from rfl, List.take_zero] at this
        exact this
      · simp only [h6, if_false]
        by_cases h7 : c = 7
        · simp only [h7, if_true]
          by_cases h1 : (1 : Int) ≤ (ps.length : Int)
          · rw [if_pos h1]
            by_cases h9 : (ps.length : Int) ≤ 9
            · have hm := (hp _ (h0 (by omega))).len
              rw [if_pos h9, need_pos (by omega), need_pos (by omega)]
              simp only [show 1 ≤ ps.length by omega, show ps.length ≤ 9 by omega, decide_true, Bool.true_and]
              rfl
            · rw [if_neg h9]; simp; omega
          · rw [if_neg h1]; simp; omega
        · simp only [h7, if_false]
          by_cases h8 : c = 8
          · simp only [h8, if_true]
            by_cases h1 : (1 : Int) ≤ (ps.length : Int)
            · rw [if_pos h1]
              by_cases h9 : (ps.length : Int) ≤ 33
              · rw [if_pos h9, need_pos (by omega), vBetween (hp _ (h0 (by omega))), bnd1_mk]
                simp [show 1 ≤ ps.length by omega, show ps.length ≤ 33 by omega]
              · rw [if_neg h9]; simp; omega
            · rw [if_neg h1]; simp; omega
          · simp only [h8, if_false]
            by_cases h9 : c = 9
            · simp only [h9, if_true]
              by_cases h1 : (1 : Int) ≤ (ps.length : Int)
              · rw [if_pos h1, need_pos (by omega), vBetween (hp _ (h0 (by omega))), bnd1_mk]
                simp [show 1 ≤ ps.length by omega]
              · rw [if_neg h1]; simp; omega
            · simp only [h9, if_false]
end Go.Proofs.YtdppkpiagdaigaaDoor
/- What the program finds at the start of bytes: a valid value, or none. -/
namespace Go.Proofs.YtdppkpiagdaigaaDoor
attribute [local irreducible] FU

/-- At the start of s there is a value, of this length; or none. -/
def At (k : Nat) (s : List UInt8) (o : Option Int) : Prop := (∃ v r, s = v ++ r ∧ IsV k v ∧ o = some (v.length : Int)) ∨ ((∀ v r, s = v ++ r → ¬ IsV k v) ∧ o = some 0)
/-- So many values, one after another. -/
def Row (k m : Nat) (u : List UInt8) (qs : List (List UInt8)) (r : List UInt8) : Prop := qs.length = m ∧ (∀ q ∈ qs, IsV k q) ∧ u = qs.flatten ++ r
theorem Row.step {k m : Nat} {u v w : List UInt8} (hv : IsV k v) (hu : u = v ++ w) (qs : List (List UInt8)) (r : List UInt8) (h : Row k (m + 1) u qs r) : ∃ qs', qs = v :: qs' ∧ Row k m w qs' r := by
  obtain ⟨h1, h2, h3⟩ := h
  match qs, h1 with
  | q :: qs', h1 =>
    rw [hu, List.flatten_cons, List.append_assoc] at h3
    obtain ⟨e1, e2⟩ := hv.sh.uniq (h2 q (by simp)).sh _ _ h3
    exact ⟨qs', by rw [e1], by simpa using h1, fun x hx => h2 x (by simp [hx]), e2⟩
theorem noV_small {k : Nat} {s : List UInt8} (h : s.length < 2) : ∀ v r, s = v ++ r → ¬ IsV k v := fun v r e hv => by
  have := hv.sh.len
  rw [e, List.length_append] at h; omega
theorem vLength : ∀ (k : Nat), k ≤ 32 → ∀ (n : Nat), k < n → ∀ (s : List UInt8), s.length ≤ 1000000000 → At k s (m_value_length_S n s ((33 : Int) - k))
  | 0, _, n, hn, s, hs => by
    obtain ⟨n, rfl⟩ : ∃ q, n = q + 1 := ⟨n - 1, by omega⟩
    refine .inr ⟨fun v r _ hv => by have := hv.sh.pos; omega, ?_⟩
    rw [m_value_length_S, m_value_length_F, jn_eq]
    by_cases h : s = []
    · rw [if_pos h]; rfl
    · rw [if_neg h]; rfl
  | k + 1, hk, n, hn, s, hs => by
    have hFU := FU_ge
    obtain ⟨n, rfl⟩ : ∃ q, n = q + 1 := ⟨n - 1, by omega⟩
    rw [m_value_length_S, m_value_length_F]
    simp only [jn_eq]
    by_cases h0 : s = []
    · exact .inr ⟨noV_small (by rw [h0]; simp), by rw [if_pos h0]; rfl⟩
    obtain ⟨c, t, rfl⟩ : ∃ c t, s = c :: t := by cases s with | nil => exact absurd rfl h0 | cons c t => exact ⟨c, t, rfl⟩
    have hd : decide ((32 : Int) < 33 - ((k + 1 : Nat) : Int)) = false := by simp; omega
    rw [if_neg h0, hd, need_len (by simp)]
    simp only [Bool.false_eq_true, if_false, gi_0]
    -- a value that begins with this byte
    have kinds : ∀ v r, c :: t = v ++ r → IsV (k + 1) v → (c = 1 ∧ 8 ≤ t.length ∧ v.length = 9) ∨ (c = 2 ∧ 1 ≤ t.length ∧ (gi (c :: t) 1).toNat ≤ 1 ∧ v.length = 2) ∨ (c = 10 ∧ 2 ≤ t.length ∧ v.length = 3) ∨
        (∃ h l u ps, (3 ≤ c.toNat ∧ c.toNat ≤ 9) ∧ t = h :: l :: u ∧ Row k (h.toNat * 256 + l.toNat) u ps r ∧ formedB c ps = true ∧ v = c :: h :: l :: ps.flatten) := by
      intro v r e hv
      cases hv with
      | int k b hb =>
        simp only [List.cons_append, List.cons.injEq] at e
        refine .inl ⟨e.1, ?_, by simp [hb]⟩
        rw [e.2]; simp; omega
      | bool k b hb =>
        simp only [List.cons_append, List.nil_append, List.cons.injEq] at e
        refine .inr (.inl ⟨e.1, ?_, ?_, rfl⟩)
        · rw [e.2]; simp
        · rw [e.2, gi_1]; exact hb
      | name k h l =>
        simp only [List.cons_append, List.nil_append, List.cons.injEq] at e
        refine .inr (.inr (.inl ⟨e.1, ?_, rfl⟩))
        rw [e.2]; simp
      | comp k c' h l ps hc hn hp hf =>
        simp only [List.cons_append, List.cons.injEq] at e
        obtain ⟨rfl, e⟩ := e
        exact .inr (.inr (.inr ⟨h, l, ps.flatten ++ r, ps, hc, e, ⟨hn, hp, rfl⟩, hf, rfl⟩))
    by_cases h1 : c = 1
    · subst h1
      simp only [if_true]
      by_cases hl : (((1 : UInt8) :: t).length : Int) < 9
      · rw [if_pos hl]
        refine .inr ⟨fun v r e hv => ?_, rfl⟩
        rcases kinds v r e hv with ⟨_, h, _⟩ | ⟨h, _⟩ | ⟨h, _⟩ | ⟨_, _, _, _, h, _⟩
        · simp at hl; omega
        · simp at h
        · simp at h
        · simp at h
      · rw [if_neg hl]
        refine .inl ⟨1 :: t.take 8, t.drop 8, by simp, .int k _ (by simp at hl ⊢; omega), ?_⟩
        simp at hl
        simp; omega
    · simp only [h1, if_false]
      by_cases h2 : c = 2
      · subst h2
        simp only [if_true]
        have hn2 : ∀ v r, (2 : UInt8) :: t = v ++ r → IsV (k + 1) v → 1 ≤ t.length ∧ (gi ((2 : UInt8) :: t) 1).toNat ≤ 1 := by
          intro v r e hv
          rcases kinds v r e hv with ⟨h, _⟩ | ⟨_, h, h', _⟩ | ⟨h, _⟩ | ⟨_, _, _, _, h, _⟩
          · simp at h
          · exact ⟨h, h'⟩
          · simp at h
          · simp at h
        by_cases hl : (((2 : UInt8) :: t).length : Int) < 2
        · rw [if_pos hl]
          exact .inr ⟨noV_small (by omega), rfl⟩
        · rw [if_neg hl, need_pos (by omega)]
          by_cases hb : 1 < gi ((2 : UInt8) :: t) 1
          · refine .inr ⟨fun v r e hv => ?_, by simp [hb]⟩
            have := (hn2 v r e hv).2
            rw [UInt8.lt_iff_toNat_lt] at hb
            simp at hb; omega
          · obtain ⟨b, u, rfl⟩ : ∃ b u, t = b :: u := by cases t with | nil => simp at hl | cons b u => exact ⟨b, u, rfl⟩
            rw [gi_1] at hb
            refine .inl ⟨[2, b], u, rfl, .bool k b ?_, ?_⟩
            · rw [UInt8.lt_iff_toNat_lt] at hb; simp at hb; omega
            · simp [hb, gi_1]; omega
      · simp only [h2, if_false]
        by_cases h10 : c = 10
        · subst h10
          simp only [if_true]
          by_cases hl : (((10 : UInt8) :: t).length : Int) < 3
          · rw [if_pos hl]
            refine .inr ⟨fun v r e hv => ?_, rfl⟩
            rcases kinds v r e hv with ⟨h, _⟩ | ⟨h, _⟩ | ⟨_, h, _⟩ | ⟨_, _, _, _, h, _⟩
            · simp at h
            · simp at h
            · simp at hl; omega
            · simp at h
          · rw [if_neg hl]
            obtain ⟨x, y, u, rfl⟩ : ∃ x y u, t = x :: y :: u := by
              cases t with
              | nil => simp at hl
              | cons x t => cases t with
                | nil => simp at hl
                | cons y u => exact ⟨x, y, u, rfl⟩
            exact .inl ⟨[10, x, y], u, rfl, .name k x y, rfl⟩
        · simp only [h10, if_false]
          by_cases hc : 3 ≤ c.toNat ∧ c.toNat ≤ 9
          · -- a compound value
            have this : c = 3 ∨ c = 4 ∨ c = 5 ∨ c = 6 ∨ c = 7 ∨ c = 8 ∨ c = 9 := by
              have h : ∀ d : UInt8, c.toNat = d.toNat → c = d := fun d h => u8_inj h
              have e : c.toNat = 3 ∨ c.toNat = 4 ∨ c.toNat = 5 ∨ c.toNat = 6 ∨ c.toNat = 7 ∨ c.toNat = 8 ∨ c.toNat = 9 := by omega
              rcases e with e | e | e | e | e | e | e
              · exact .inl (h 3 e)
              · exact .inr (.inl (h 4 e))
              · exact .inr (.inr (.inl (h 5 e)))
              · exact .inr (.inr (.inr (.inl (h 6 e))))
              · exact .inr (.inr (.inr (.inr (.inl (h 7 e)))))
              · exact .inr (.inr (.inr (.inr (.inr (.inl (h 8 e))))))
              · exact .inr (.inr (.inr (.inr (.inr (.inr (h 9 e))))))
            suffices hmain : At (k + 1) (c :: t) (bnd1 (m_value_long (m_value_length_S n) (c :: t) (33 - ((k + 1 : Nat) : Int))) (fun y24 => some y24)) by
              rcases this with rfl | rfl | rfl | rfl | rfl | rfl | rfl <;> exact hmain
            clear this
            unfold m_value_long
            have kc : ∀ v r, c :: t = v ++ r → IsV (k + 1) v → ∃ h l u ps, t = h :: l :: u ∧ Row k (h.toNat * 256 + l.toNat) u ps r ∧ formedB c ps = true ∧ v = c :: h :: l :: ps.flatten := by
              intro v r e hv
              rcases kinds v r e hv with ⟨h, _⟩ | ⟨h, _⟩ | ⟨h, _⟩ | ⟨h, l, u, ps, _, h'⟩
              · exact absurd h h1
              · exact absurd h h2
              · exact absurd h h10
              · exact ⟨h, l, u, ps, h'⟩
            by_cases hl : ((c :: t).length : Int) < 3
            · rw [if_pos hl, bnd1_mk]
              refine .inr ⟨fun v r e hv => ?_, rfl⟩
              obtain ⟨h, l, u, ps, rfl, _⟩ := kc v r e hv
              simp at hl; omega
            · rw [if_neg hl]
              obtain ⟨h, l, u, rfl⟩ : ∃ x y u, t = x :: y :: u := by
                cases t with
                | nil => simp at hl
                | cons x t => cases t with
                  | nil => simp at hl
                  | cons y u => exact ⟨x, y, u, rfl⟩
              have hlen : (c :: h :: l :: u).length = u.length + 3 := rfl
              simp only [jn_eq, gi_0, hlen]
              rw [need_pos (by omega), need_pos (by omega)]
              have hx : UInt8.toNat h < 256 := UInt8.toNat_lt h
              have hy : UInt8.toNat l < 256 := UInt8.toNat_lt l
              have e33 : i64 ((33 : Int) - ((k + 1 : Nat) : Int) + 1) = 33 - (k : Int) := by rw [i64_id (by omega)]; omega
              have loop : ∀ (K : Int → List (List UInt8) → Option Int) (m i q : Nat) (ps' : List (List UInt8)) (u' : List UInt8), i + m = h.toNat * 256 + l.toNat → m < q → ps'.length = i → (∀ p ∈ ps', IsV k p) → u = ps'.flatten ++ u' →
                  (∃ qs r, Row k m u' qs r ∧ m_value_long_L2 (m_value_length_S n) (c :: h :: l :: u) (33 - ((k + 1 : Nat) : Int)) K q ((3 + ps'.flatten.length : Nat) : Int) ps' i = K ((3 + (ps' ++ qs).flatten.length : Nat) : Int) (ps' ++ qs)) ∨
                  ((∀ qs r, ¬ Row k m u' qs r) ∧ m_value_long_L2 (m_value_length_S n) (c :: h :: l :: u) (33 - ((k + 1 : Nat) : Int)) K q ((3 + ps'.flatten.length : Nat) : Int) ps' i = some 0) := by
                intro K m
                induction m with
                | zero =>
                  intro i q ps' u' hi hq hl' hp' hu
                  obtain ⟨q, rfl⟩ : ∃ k, q = k + 1 := ⟨q - 1, by omega⟩
                  refine .inl ⟨[], u', ⟨rfl, by simp, by simp⟩, ?_⟩
                  rw [m_value_long_L2, m_value_long_B2, gi_1, gi_2, i64_step, if_neg (by omega), List.append_nil]
                | succ m ih =>
                  intro i q ps' u' hi hq hl' hp' hu
                  obtain ⟨q, rfl⟩ : ∃ k, q = k + 1 := ⟨q - 1, by omega⟩
                  have hul : u.length = ps'.flatten.length + u'.length := by rw [hu]; simp
                  have hsl : u.length + 3 ≤ 1000000000 := by simpa using hs
                  have hdrop : List.drop (3 + ps'.flatten.length) (c :: h :: l :: u) = u' := by
                    rw [show 3 + ps'.flatten.length = ps'.flatten.length + 3 by omega]
                    simp only [List.drop_succ_cons]
                    rw [hu, List.drop_left]
                  rw [m_value_long_L2, m_value_long_B2, gi_1, gi_2, i64_step, if_pos (by omega), hlen, need_pos (by omega), Int.toNat_natCast, hdrop, e33]
                  rcases vLength k (by omega) n (by omega) u' (by omega) with ⟨v, w, hv1, hv2, hv3⟩ | ⟨hno, h0'⟩
                  · have hvl := hv2.sh.len
                    have hw : u'.length = v.length + w.length := by rw [hv1]; simp
                    have e1 : i64 (((3 + ps'.flatten.length : Nat) : Int) + (v.length : Int)) = ((3 + (ps' ++ [v]).flatten.length : Nat) : Int) := by rw [i64_id (by omega)]; simp; omega
                    have e2 : 3 + (ps' ++ [v]).flatten.length = 3 + ps'.flatten.length + v.length := by simp; omega
                    have e3 : List.take v.length u' = v := by rw [hv1, List.take_left]
                    rw [hv3, bnd1_mk, if_neg (by omega), e1, need_pos (by omega), Int.toNat_natCast, show 3 + (ps' ++ [v]).flatten.length - (3 + ps'.flatten.length) = v.length by omega, e3, need_pos (by simp; omega), i64_succ (by omega)]
                    rcases ih (i + 1) q (ps' ++ [v]) w (by omega) (by omega) (by simp [hl']) (fun p hp => by
                      rcases List.mem_append.1 hp with h | h
                      · exact hp' p h
                      · rw [List.mem_singleton.1 h]; exact hv2) (by rw [hu, hv1]; simp) with ⟨qs, r, hr, he⟩ | ⟨hno, he⟩
                    · refine .inl ⟨v :: qs, r, ⟨by simp [hr.1], fun x hx => ?_, by rw [hv1, hr.2.2]; simp⟩, ?_⟩
                      · rcases List.mem_cons.1 hx with rfl | hx
                        · exact hv2
                        · exact hr.2.1 x hx
                      · rw [he]; simp
                    · refine .inr ⟨fun qs r hr => ?_, he⟩
                      obtain ⟨qs', _, hr'⟩ := Row.step hv2 hv1 qs r hr
                      exact hno qs' r hr'
                  · rw [h0', bnd1_mk, if_pos rfl]
                    refine .inr ⟨fun qs r hr => ?_, rfl⟩
                    obtain ⟨h1', h2', h3'⟩ := hr
                    match qs, h1' with
                    | x :: qs', _ => exact hno x (qs'.flatten ++ r) (by rw [h3']; simp) (h2' x (by simp))
              rcases loop (fun x5_j1 x6_j1 => need ((0 : Int) ≤ 0 ∧ 0 < ((u.length + 3 : Nat) : Int)) (bnd1 (m_value_formed (c.toNat : Int) x6_j1) (fun y38 => if !y38 then some 0 else some x5_j1))) (h.toNat * 256 + l.toNat) 0 FU [] u (by omega) (by omega) rfl (by simp) rfl with ⟨qs, r, hr, he⟩ | ⟨hno, he⟩
              · rw [show ((3 + ([] : List (List UInt8)).flatten.length : Nat) : Int) = 3 from rfl, show ((0 : Nat) : Int) = 0 from rfl] at he
                have hsl : u.length + 3 ≤ 1000000000 := by simpa using hs
                have hql : u.length = qs.flatten.length + r.length := by rw [hr.2.2]; simp
                rw [he, List.nil_append, need_pos (by omega), vFormed (k := k) c qs (fun p hp => (hr.2.1 p hp).sh) (by omega) (by rw [hr.1]; omega) (by omega), bnd1_mk]
                cases hf : formedB c qs with
                | true =>
                  refine .inl ⟨c :: h :: l :: qs.flatten, r, by rw [hr.2.2]; simp, .comp k c h l qs hc hr.1 hr.2.1 hf, ?_⟩
                  simp only [Bool.not_true, Bool.false_eq_true, if_false, bnd1_mk]
                  congr 1
                  simp only [List.length_cons]; omega
                | false =>
                  refine .inr ⟨fun v r' e hv => ?_, by simp [bnd1_mk]⟩
                  obtain ⟨h', l', u', ps, e', hr', hf', _⟩ := kc v r' e hv
                  simp only [List.cons.injEq] at e'
                  obtain ⟨rfl, rfl, rfl⟩ := e'
                  have := (Sh.flat (fun p hp => (hr.2.1 p hp).sh) (fun p hp => (hr'.2.1 p hp).sh) (by rw [hr.1, hr'.1]) (by rw [← hr.2.2]; exact hr'.2.2)).1
                  rw [this, hf'] at hf; cases hf
              · rw [show ((3 + ([] : List (List UInt8)).flatten.length : Nat) : Int) = 3 from rfl, show ((0 : Nat) : Int) = 0 from rfl] at he
                rw [he, bnd1_mk]
                refine .inr ⟨fun v r' e hv => ?_, rfl⟩
                obtain ⟨h', l', u', ps, e', hr', _⟩ := kc v r' e hv
                simp only [List.cons.injEq] at e'
                obtain ⟨rfl, rfl, rfl⟩ := e'
                exact hno ps r' hr'
          · -- no kind
            have hne : ∀ d : UInt8, 3 ≤ d.toNat → d.toNat ≤ 9 → c ≠ d := fun d h h' e => hc (by rw [e]; exact ⟨h, h'⟩)
            refine .inr ⟨fun v r e hv => ?_, ?_⟩
            · rcases kinds v r e hv with ⟨h, _⟩ | ⟨h, _⟩ | ⟨h, _⟩ | ⟨_, _, _, _, h, _⟩
              · exact h1 h
              · exact h2 h
              · exact h10 h
              · exact hc h
            · have n3 := hne 3 (by decide) (by decide)
              have n4 := hne 4 (by decide) (by decide)
              have n5 := hne 5 (by decide) (by decide)
              have n6 := hne 6 (by decide) (by decide)
              have n7 := hne 7 (by decide) (by decide)
              have n8 := hne 8 (by decide) (by decide)
              have n9 := hne 9 (by decide) (by decide)
              simp only [n3, n4, n5, n6, n7, n8, n9, if_false, decide_false, Bool.false_eq_true]
              rw [if_neg (by simp; omega)]
end Go.Proofs.YtdppkpiagdaigaaDoor
/- The reference's reading and comparing of values: the same. -/
namespace Go.Proofs.YtdppkpiagdaigaaDoor
attribute [local irreducible] FU

/-- The parts of a value. -/
def prt (v : List UInt8) : List (List UInt8) := if gi v 0 = 1 ∨ gi v 0 = 2 ∨ gi v 0 = 10 then [] else partsV 40 v
theorem prt_comp {k : Nat} {c h l : UInt8} {ps : List (List UInt8)} (hc : 3 ≤ c.toNat ∧ c.toNat ≤ 9) (hn : ps.length = h.toNat * 256 + l.toNat) (hp : ∀ p ∈ ps, Sh k p) (hk : k ≤ 40) : prt (c :: h :: l :: ps.flatten) = ps := by
  obtain ⟨n1, n2, n3⟩ := kind_ne hc
  unfold prt
  rw [gi_0, if_neg (fun h => h.elim n1 (fun h => h.elim n2 n3))]
  exact partsV_eq hn (fun p h => (hp p h).le hk)
end Go.Proofs.YtdppkpiagdaigaaDoor
/- Valid values: what the reference calls valid; both agree. -/
namespace Go.Proofs.YtdppkpiagdaigaaDoor
attribute [local irreducible] FU

end Go.Proofs.YtdppkpiagdaigaaDoor
/- Values: valid, compared, sorted: program and reference agree. -/
namespace Go.Proofs.YtdppkpiagdaigaaDoor
attribute [local irreducible] FU

/-- Valid values. -/
def Vd (v : List UInt8) : Prop := IsV 32 v ∧ v.length ≤ 131072
noncomputable def vldB (v : List UInt8) : Bool := by classical exact decide (Vd v)
theorem vldB_iff {v : List UInt8} : vldB v = true ↔ Vd v := by unfold vldB; simp
theorem vldB_no {v : List UInt8} (h : ¬ Vd v) : vldB v = false := by cases e : vldB v with | true => exact absurd (vldB_iff.1 e) h | false => rfl
theorem Vd.ne {v : List UInt8} (h : Vd v) : v ≠ [] := fun e => by have := h.1.sh.len; rw [e] at this; simp at this
theorem vValid (v : List UInt8) : m_value_Valid v = some (vldB v) := by
  have hFU := FU_ge
  unfold m_value_Valid
  rw [jn_eq]
  by_cases h0 : v = []
  · rw [if_neg (fun h => h h0), vldB_no (fun h => h.ne h0)]
  rw [if_pos h0]
  by_cases hl : (v.length : Int) ≤ 131072
  · rw [if_pos hl]
    have h := vLength 32 (Nat.le_refl _) FU (by omega) v (by omega)
    rw [show (33 : Int) - ((32 : Nat) : Int) = 1 from rfl] at h
    unfold m_value_length
    rcases h with ⟨w, r, e, hv, h⟩ | ⟨hno, h⟩
    · rw [h, bnd1_mk]
      congr 1
      by_cases hr : r = []
      · subst hr
        rw [List.append_nil] at e
        subst e
        rw [vldB_iff.2 ⟨hv, by omega⟩]; simp
      · have : ¬ Vd v := fun hh => by
          have := (hv.sh.uniq hh.1.sh r [] (by rw [List.append_nil, ← e])).2
          exact hr this
        rw [vldB_no this]
        have hlr : 0 < r.length := List.length_pos_iff.2 hr
        rw [e]; simp; omega
    · rw [h, bnd1_mk, vldB_no (fun hh => hno v [] (by simp) hh.1)]
      congr 1
      have : 0 < v.length := List.length_pos_iff.2 h0
      simp; omega
  · rw [if_neg hl, vldB_no (fun h => hl (by have := h.2; omega))]
noncomputable def kindW (v : List UInt8) : Int := if vldB v = true then ((gi v 0).toNat : Int) else 0
theorem vKind (v : List UInt8) : m_value_Kind v = some (kindW v) := by
  unfold m_value_Kind kindW
  rw [vValid, bnd1_mk]
  cases h : vldB v with
  | true => have := (vldB_iff.1 h).1.sh.len; rw [if_neg (by simp), if_pos rfl, need_len (by omega)]
  | false => rfl
noncomputable def prtW (v : List UInt8) : List (List UInt8) := if vldB v = true then prt v else []
theorem vPartsW (v : List UInt8) : m_value_Parts v = some (prtW v) := by
  unfold m_value_Parts prtW
  rw [vKind, bnd1_mk]
  unfold kindW
  cases h : vldB v with
  | false =>
    simp only [Bool.false_eq_true, if_false]
    have := vSimple 0
    rw [show ((0 : UInt8).toNat : Int) = 0 from rfl] at this
    rw [this, bnd1_mk]; rfl
  | true =>
    obtain ⟨hv, hl⟩ := vldB_iff.1 h
    simp only [if_true, vSimple, bnd1_mk]
    by_cases hs : gi v 0 = 1 ∨ gi v 0 = 2 ∨ gi v 0 = 10
    · rw [if_pos (decide_eq_true (.inr hs))]; unfold prt; rw [if_pos hs]
    · have h1 : ¬ gi v 0 = 1 := fun h => hs (.inl h)
      have h2 : ¬ (gi v 0 = 2 ∨ gi v 0 = 10) := fun h => hs (.inr h)
      obtain ⟨c, x, y, ps, rfl, hn, hp, _, hc⟩ := hv.sh.kindc h1 h2
      have h0 : ¬ gi (c :: x :: y :: ps.flatten) 0 = 0 := by rw [gi_0]; rintro rfl; simp at hc
      rw [if_neg (fun h => (of_decide_eq_true h).elim h0 hs), vParts hp (by omega) (by simp at hl ⊢; omega), bnd1_mk, prt_comp hc hn hp (by omega)]
/-! ### Comparing -/
noncomputable def cmpC (a b : List UInt8) : Int := if vldB a = true ∧ vldB b = true then cmpW a b else if vldB a = true then 1 else if vldB b = true then -1 else strCmp a b
theorem vCompareW (a b : List UInt8) : m_value_Compare a b = some (cmpC a b) := by
  unfold m_value_Compare cmpC
  rw [vValid, bnd1_mk, vValid, bnd1_mk, jn_eq]
  cases ha : vldB a <;> cases hb : vldB b
  · simp [cStr, bnd1_mk]
  · simp
  · simp
  · obtain ⟨h1, l1⟩ := vldB_iff.1 ha
    obtain ⟨h2, l2⟩ := vldB_iff.1 hb
    simp only [if_true, and_self]
    rw [vCompare h1.sh h2.sh (by omega) (by omega) (by omega), bnd1_mk]; rfl
theorem cmpW_TO : TO (Sh 32) cmpW := cmpV_TO 32
theorem cmpC_TO : TO (fun _ => True) cmpC := by
  have hk : TO (fun _ : Bool => True) (fun a b : Bool => if a = b then 0 else if a = true then 1 else -1) := by
    refine ⟨fun a b _ _ => ?_, fun a b _ _ => ?_, fun a b d _ _ _ => ?_, fun a b _ _ => ?_⟩
    · cases a <;> cases b <;> simp
    · cases a <;> cases b <;> simp
    · cases a <;> cases b <;> cases d <;> simp
    · cases a <;> cases b <;> simp
  refine TO.byKey vldB hk (fun K => ?_) (fun a b _ _ hne => ?_)
  · cases K with
    | true => exact (cmpW_TO.sub (Q := fun v => True ∧ vldB v = true) (fun v hv => (vldB_iff.1 hv.2).1.sh)).congr (fun a b ha hb => by unfold cmpC; rw [if_pos ⟨ha.2, hb.2⟩])
    | false => exact (TO_str.sub (Q := fun v => True ∧ vldB v = false) (fun _ _ => trivial)).congr (fun a b ha hb => by unfold cmpC; simp [ha.2, hb.2])
  · unfold cmpC
    cases ha : vldB a <;> cases hb : vldB b
    · rw [ha, hb] at hne; exact absurd rfl hne
    · simp
    · simp
    · rw [ha, hb] at hne; exact absurd rfl hne
theorem cmpC_self (a : List UInt8) : cmpC a a = 0 := cmpC_TO.self a trivial
theorem cmpC_trans {a b c : List UInt8} (h : cmpC a b < 0) (h' : cmpC b c < 0) : cmpC a c < 0 := cmpC_TO.trans a b c trivial trivial trivial h h'
theorem cmpC_anti (a b : List UInt8) : cmpC b a = - cmpC a b := cmpC_TO.anti a b trivial trivial
theorem cmpC_eq {a b : List UInt8} : cmpC a b = 0 ↔ a = b := cmpC_TO.eq a b trivial trivial
theorem cmpC_ok : CmpOk m_value_Compare := by
  have e : ∀ x y, ltC m_value_Compare x y = decide (cmpC x y < 0) := fun x y => by unfold ltC cfOf; rw [vCompareW]; rfl
  refine ⟨fun x y => ⟨_, vCompareW x y⟩, fun x => ?_, fun x y z => ?_, fun x y z => ?_, fun x y => ?_⟩
  · rw [e, cmpC_self]; rfl
  · simp only [e, decide_eq_true_eq]; exact cmpC_trans
  · simp only [e, decide_eq_false_iff_not]
    intro h1 h2 h3
    have a1 := cmpC_anti x y
    have a2 := cmpC_anti y z
    by_cases e1 : cmpC x y = 0
    · rw [cmpC_eq] at e1; subst e1; exact h2 h3
    · have := cmpC_trans (a := y) (b := x) (c := z) (by omega) h3
      exact h2 this
  · simp only [e, decide_eq_false_iff_not]
    intro h1 h2
    have a1 := cmpC_anti x y
    exact cmpC_eq.1 (by omega)
abbrev SLC (l : List (List UInt8)) : Prop := l.Pairwise (fun a b => cmpC a b < 0)
theorem slc_ext {a b : List (List UInt8)} (ha : SLC a) (hb : SLC b) (h : ∀ x, x ∈ a ↔ x ∈ b) : a = b :=
  SL_ext (lt := fun a b => cmpC a b < 0) (fun a => by rw [cmpC_self]; omega) (fun h h' => cmpC_trans h h') ha hb h
noncomputable def sortW (l : List (List UInt8)) : List (List UInt8) := compactL (sortC m_value_Compare l)
theorem sortW_spec (l : List (List UInt8)) : SLC (sortW l) ∧ (∀ x, x ∈ sortW l ↔ x ∈ l) ∧ (sortW l).length ≤ l.length := by
  have e : ∀ x y, ltC m_value_Compare x y = decide (cmpC x y < 0) := fun x y => by unfold ltC cfOf; rw [vCompareW]; rfl
  unfold sortW sortC
  refine ⟨compactL_sorted (lt := fun a b => cmpC a b < 0) (fun a => by rw [cmpC_self]; omega) (fun h h' => cmpC_trans h h') _ ?_, fun x => by rw [compactL_mem]; exact List.mem_mergeSort, Nat.le_trans (compactL_len _) (by rw [List.length_mergeSort]; exact Nat.le_refl _)⟩
  have h := List.pairwise_mergeSort (le := fun x y : List UInt8 => !ltC m_value_Compare y x) (fun a b c h1 h2 => by
    simp only [Bool.not_eq_true'] at h1 h2 ⊢
    exact cmpC_ok.ntrans c b a h2 h1) (fun a b => by
    simp only [Bool.or_eq_true, Bool.not_eq_true', e, decide_eq_false_iff_not]
    have := cmpC_anti a b
    omega) l
  refine h.imp fun {a b} hab => ?_
  simp only [Bool.not_eq_true', e, decide_eq_false_iff_not] at hab
  have := cmpC_anti a b
  by_cases h0 : cmpC a b = 0
  · exact .inl (cmpC_eq.1 h0)
  · exact .inr (by omega)
end Go.Proofs.YtdppkpiagdaigaaDoor
/- Sorting values: program and reference agree. -/
namespace Go.Proofs.YtdppkpiagdaigaaDoor
attribute [local irreducible] FU
theorem m_slices_Compact_L_api_Value_api_Value_in (l : List (List UInt8)) (hl : l.length ≤ 1099511627776) (i : Nat) (K : List (List UInt8) → Int → Option (List (List UInt8))) : ∀ (m j n : Nat) (x0 : List (List UInt8)) (x3 : Nat), i + j + m = l.length → 1 ≤ j → m < n → x0.length = l.length → x3 + 1 ≤ i + j → x0.take x3 = compactL (l.take (i + j)) → x3 = (compactL (l.take (i + j))).length → (∀ q, i + j ≤ q + 1 → x0[q]? = l[q]?) →
    ∃ (x0' : List (List UInt8)) (x3' : Nat), m_slices_Compact_L_api_Value_api_Value_L26 l i K n x0 x3 j = K x0' x3' ∧ x0'.length = l.length ∧ x3' ≤ l.length ∧ x0'.take x3' = compactL l := by
  intro m
  induction m with
  | zero =>
    intro j n x0 x3 hi hj hn hx h3 ht h3' hq
    obtain ⟨n, rfl⟩ : ∃ k, n = k + 1 := ⟨n - 1, by omega⟩
    refine ⟨x0, x3, ?_, hx, by omega, ?_⟩
    · rw [m_slices_Compact_L_api_Value_api_Value_L26, m_slices_Compact_L_api_Value_api_Value_B26, if_neg (by omega)]
    · rw [ht, show i + j = l.length by omega, List.take_length]
  | succ m ih =>
    intro j n x0 x3 hi hj hn hx h3 ht h3' hq
    obtain ⟨n, rfl⟩ : ∃ k, n = k + 1 := ⟨n - 1, by omega⟩
    have hlt : i + j < l.length := by omega
    have g1 : gi x0 ((i : Int) + (j : Int)) = l[i + j] := by
      rw [show (i : Int) + (j : Int) = ((i + j : Nat) : Int) by omega, gi_nat (by omega)]
      have := hq (i + j) (by omega)
      rw [List.getElem?_eq_getElem (by omega), List.getElem?_eq_getElem hlt] at this
      exact Option.some.inj this
    have g2 : gi x0 ((i : Int) + ((j : Int) - 1)) = l[i + j - 1] := by
      rw [show (i : Int) + ((j : Int) - 1) = ((i + j - 1 : Nat) : Int) by omega, gi_nat (by omega)]
      have := hq (i + j - 1) (by omega)
      rw [List.getElem?_eq_getElem (by omega), List.getElem?_eq_getElem (by omega)] at this
      exact Option.some.inj this
    have hsn : compactL (l.take (i + (j + 1))) = cstep (compactL (l.take (i + j))) l[i + j] := by
      rw [show i + (j + 1) = (i + j) + 1 by omega, ← List.take_append_getElem hlt, compactL_snoc]
    have hla : (compactL (l.take (i + j))).getLast? = some l[i + j - 1] := by
      rw [compactL_last, List.getLast?_eq_getElem?]
      simp only [List.length_take]
      rw [show min (i + j) l.length - 1 = i + j - 1 by omega, List.getElem?_take_of_lt (by omega), List.getElem?_eq_getElem (by omega)]
    rw [m_slices_Compact_L_api_Value_api_Value_L26, m_slices_Compact_L_api_Value_api_Value_B26]
    simp (disch := omega) only [if_pos, jn_eq, need_pos, i64_sub1, i64_succ, g1, g2]
    by_cases he : l[i + j] = l[i + j - 1]
    · rw [if_neg (by simp [he])]
      refine ih (j + 1) n x0 x3 (by omega) (by omega) (by omega) hx (by omega) ?_ ?_ (fun q h => hq q (by omega))
      · rw [ht, hsn, cstep, if_pos (by rw [hla, he])]
      · rw [hsn, cstep, if_pos (by rw [hla, he])]; exact h3'
    · rw [if_pos he]
      simp (disch := omega) only [need_pos, Int.toNat_natCast, i64_succ]
      have hc : cstep (compactL (l.take (i + j))) l[i + j] = compactL (l.take (i + j)) ++ [l[i + j]] := by
        rw [cstep, if_neg]
        rw [hla]; exact fun e => he (Option.some.inj e).symm
      refine ih (j + 1) n _ (x3 + 1) (by omega) (by omega) (by omega) (by simp [hx]) (by omega) ?_ ?_ (fun q h => ?_)
      · rw [hsn, hc, ← ht]
        rw [List.take_succ_eq_append_getElem (by simp; omega)]
        congr 1
        · rw [List.take_set_of_le (by omega)]
        · simp
      · rw [hsn, hc]; simp; omega
      · rw [List.getElem?_set_ne (by omega)]
        exact hq q (by omega)
theorem m_slices_Compact_L_api_Value_api_Value_out (l : List (List UInt8)) (hl : l.length ≤ 1099511627776) : ∀ (m i n : Nat), i + m = l.length → 1 ≤ i → m < n → compactL (l.take i) = l.take i →
    m_slices_Compact_L_api_Value_api_Value_L14 l (fun _ => some l) n i = some (compactL l) := by
  intro m
  induction m with
  | zero =>
    intro i n hi h1 hn hc
    obtain ⟨n, rfl⟩ : ∃ k, n = k + 1 := ⟨n - 1, by omega⟩
    rw [m_slices_Compact_L_api_Value_api_Value_L14, m_slices_Compact_L_api_Value_api_Value_B14, if_neg (by omega)]
    rw [show i = l.length by omega, List.take_length] at hc
    rw [hc]
  | succ m ih =>
    intro i n hi h1 hn hc
    obtain ⟨n, rfl⟩ : ∃ k, n = k + 1 := ⟨n - 1, by omega⟩
    have hlt : i < l.length := by omega
    have g2 : gi l ((i : Int) - 1) = l[i - 1] := by
      rw [show (i : Int) - 1 = ((i - 1 : Nat) : Int) by omega, gi_nat (by omega)]
    have hla : (l.take i).getLast? = some l[i - 1] := by
      rw [List.getLast?_eq_getElem?]
      simp only [List.length_take]
      rw [show min i l.length - 1 = i - 1 by omega, List.getElem?_take_of_lt (by omega), List.getElem?_eq_getElem (by omega)]
    have hsn : compactL (l.take (i + 1)) = cstep (l.take i) l[i] := by
      rw [← List.take_append_getElem hlt, compactL_snoc, hc]
    rw [m_slices_Compact_L_api_Value_api_Value_L14, m_slices_Compact_L_api_Value_api_Value_B14]
    simp (disch := omega) only [if_pos, jn_eq, need_pos, i64_sub1, i64_succ, g2, gi_nat]
    by_cases he : l[i] = l[i - 1]
    · rw [if_pos he]
      have hct : compactL (l.take (i + 1)) = l.take i := by rw [hsn, cstep, if_pos (by rw [hla, he])]
      have hFU := FU_ge
      obtain ⟨x0', x3', e1, e2, e3, e4⟩ := m_slices_Compact_L_api_Value_api_Value_in l hl i (fun x0_j694 x3_j694 => need ((0 : Int) ≤ x3_j694 ∧ x3_j694 ≤ (List.length x0_j694 : Int) ∧ (List.length x0_j694 : Int) ≤ (List.length x0_j694 : Int)) (need (0 ≤ x3_j694 ∧ x3_j694 ≤ (List.length (List.take (Int.toNat x3_j694) x0_j694 ++ List.replicate (Int.toNat (List.length x0_j694 : Int) - Int.toNat x3_j694) ([] : (List UInt8)) ++ List.drop (Int.toNat x3_j694 + (Int.toNat (List.length x0_j694 : Int) - Int.toNat x3_j694)) x0_j694) : Int)) (some (List.take (Int.toNat x3_j694) (List.take (Int.toNat x3_j694) x0_j694 ++ List.replicate (Int.toNat (List.length x0_j694 : Int) - Int.toNat x3_j694) ([] : (List UInt8)) ++ List.drop (Int.toNat x3_j694 + (Int.toNat (List.length x0_j694 : Int) - Int.toNat x3_j694)) x0_j694)))))
        (l.length - i - 1) 1 FU l i (by omega) (by omega) (by omega) rfl (by omega) hct.symm (by rw [hct]; simp; omega) (fun q _ => rfl)
      rw [show ((1 : Nat) : Int) = 1 from rfl] at e1
      rw [e1]
      have hlen : (List.take x3' x0' ++ List.replicate (x0'.length - x3') ([] : (List UInt8)) ++ List.drop (x3' + (x0'.length - x3')) x0').length = x0'.length := by simp; omega
      simp only [Int.toNat_natCast, hlen]
      rw [need_pos (by omega), need_pos (by omega), List.append_assoc, List.take_append_of_le_length (by simp; omega), List.take_take, Nat.min_self, e4]
    · rw [if_neg he]
      refine ih (i + 1) n (by omega) (by omega) (by omega) ?_
      rw [hsn, cstep, if_neg, List.take_append_getElem hlt]
      rw [hla]; exact fun e => he (Option.some.inj e).symm
theorem m_slices_Compact_L_api_Value_api_Value_eq (l : List (List UInt8)) (hl : l.length ≤ 1099511627776) : m_slices_Compact_L_api_Value_api_Value l = some (compactL l) := by
  unfold m_slices_Compact_L_api_Value_api_Value
  have hFU := FU_ge
  by_cases h : (List.length l : Int) < 2
  · rw [if_pos h]
    congr 1
    match l, h with
    | [], _ => rfl
    | [x], _ => simp [compactL, cstep]
    | x :: y :: t, h => simp at h; omega
  · rw [if_neg h, jn_eq]
    have h1 : compactL (l.take 1) = l.take 1 := by
      match l with
      | [] => rfl
      | x :: t => simp [compactL, cstep]
    exact m_slices_Compact_L_api_Value_api_Value_out l hl (l.length - 1) 1 FU (by omega) (by omega) (by omega) h1


theorem vClone (l : List (List UInt8)) (hl : l.length ≤ 100000000) : m_slices_Clone_L_api_Value_api_Value l = some l := by
  unfold m_slices_Clone_L_api_Value_api_Value
  rw [nilc_eq (fun h => by subst h; simp [need]), need_pos (by simp; omega)]
  simp
theorem vSort (l : List (List UInt8)) (hl : l.length ≤ 100000000) : m_value_Sort l = some (sortW l) := by
  unfold m_value_Sort
  have hs := m_sortby_eq (c := m_value_Compare) (xs := l) (by omega) cmpC_ok
  have hlen : (sortC m_value_Compare l).length = l.length := List.length_mergeSort _
  rw [vClone l hl, bnd1_mk, hs, bnd1_mk, m_slices_Compact_L_api_Value_api_Value_eq _ (by rw [hlen]; omega), bnd1_mk, vClip, bnd1_mk]
  rfl
end Go.Proofs.YtdppkpiagdaigaaDoor
/- Making values: program and reference agree. -/
namespace Go.Proofs.YtdppkpiagdaigaaDoor
attribute [local irreducible] FU

/-- The bytes of a compound value. -/
def raw (c : UInt8) (l : List (List UInt8)) : List UInt8 := c :: u8i ((l.length / 256 : Nat) : Int) :: u8i ((l.length : Nat) : Int) :: l.flatten
theorem raw_len (c : UInt8) (l : List (List UInt8)) : (raw c l).length = l.flatten.length + 3 := rfl
theorem raw_count {l : List (List UInt8)} (h : l.length ≤ 65535) : l.length = (u8i ((l.length / 256 : Nat) : Int)).toNat * 256 + (u8i ((l.length : Nat) : Int)).toNat := by
  rw [u8i_nat, u8i_nat]; omega
noncomputable def cmpd (c : UInt8) (l : List (List UInt8)) : List UInt8 := by
  classical exact if l.length ≤ 65535 ∧ (∀ x ∈ l, Vd x) ∧ Vd (raw c l) then raw c l else []
theorem cmpd_yes {c : UInt8} {l : List (List UInt8)} (h : l.length ≤ 65535 ∧ (∀ x ∈ l, Vd x) ∧ Vd (raw c l)) : cmpd c l = raw c l := by unfold cmpd; rw [if_pos h]
theorem cmpd_no {c : UInt8} {l : List (List UInt8)} (h : ¬ (l.length ≤ 65535 ∧ (∀ x ∈ l, Vd x) ∧ Vd (raw c l))) : cmpd c l = [] := by unfold cmpd; rw [if_neg h]
theorem prt_raw {c : UInt8} {l : List (List UInt8)} (hc : 3 ≤ c.toNat ∧ c.toNat ≤ 9) (hl : l.length ≤ 65535) (hv : ∀ x ∈ l, Vd x) : prt (raw c l) = l := prt_comp hc (raw_count hl) (fun x h => (hv x h).1.sh) (by omega)
theorem indexFunc_eq (f : List UInt8 → Option Bool) (p : List UInt8 → Bool) (hf : ∀ x, f x = some (p x)) (l : List (List UInt8)) (hl : l.length ≤ 1099511627776) : m_slices_ContainsFunc_L_api_Value_api_Value l f = some (l.any p) := by
  have hFU := FU_ge
  unfold m_slices_ContainsFunc_L_api_Value_api_Value m_slices_IndexFunc_L_api_Value_api_Value
  rw [jn_eq]
  have loop : ∀ (m i n : Nat), i + m = l.length → m < n → ∃ r, m_slices_IndexFunc_L_api_Value_api_Value_L2 l f (fun _ => some (-1)) n i = some r ∧ decide (0 ≤ r) = (l.drop i).any p := by
    intro m
    induction m with
    | zero =>
      intro i n hi hn
      obtain ⟨n, rfl⟩ : ∃ k, n = k + 1 := ⟨n - 1, by omega⟩
      refine ⟨-1, by rw [m_slices_IndexFunc_L_api_Value_api_Value_L2, m_slices_IndexFunc_L_api_Value_api_Value_B2, if_neg (by omega)], ?_⟩
      rw [List.drop_eq_nil_of_le (by omega)]; rfl
    | succ m ih =>
      intro i n hi hn
      obtain ⟨n, rfl⟩ : ∃ k, n = k + 1 := ⟨n - 1, by omega⟩
      have hil : i < l.length := by omega
      rw [m_slices_IndexFunc_L_api_Value_api_Value_L2, m_slices_IndexFunc_L_api_Value_api_Value_B2, if_pos (by omega), need_pos (by omega), gi_nat hil, hf, bnd1_mk, List.drop_eq_getElem_cons hil, List.any_cons]
      cases hp : p l[i] with
      | true => exact ⟨i, rfl, by simp⟩
      | false =>
        rw [if_neg (by simp), i64_succ (by omega)]
        obtain ⟨r, h1, h2⟩ := ih (i + 1) n (by omega) (by omega)
        exact ⟨r, h1, by rw [h2]; simp⟩
  obtain ⟨r, h1, h2⟩ := loop l.length 0 FU (by omega) (by omega)
  rw [Int.natCast_zero] at h1
  rw [h1, bnd1_mk, h2, List.drop_zero]
theorem vChecked (b : List UInt8) : m_value_checked b = some (if vldB b = true then b else []) := by
  unfold m_value_checked
  rw [vValid, bnd1_mk]
  cases vldB b <;> rfl
theorem vCompound (c : UInt8) (l : List (List UInt8)) (hx : ∀ x ∈ l, x.length ≤ 1099511627776) : m_value_compound (c.toNat : Int) l = some (cmpd c l) := by
  have hFU := FU_ge
  unfold m_value_compound
  by_cases hl : (65535 : Int) < l.length
  · rw [if_pos hl, cmpd_no (fun h => by have := h.1; omega)]
  · rw [if_neg hl, u8i_toNat]
    have e16 : IntKind.u16.wrap (l.length : Int) = (l.length : Int) := by
      unfold IntKind.wrap IntKind.bits IntKind.signed
      simp; omega
    have e8 : Int.fdiv (l.length : Int) (2 ^ min (Int.toNat 8) IntKind.u16.bits) = ((l.length / 256 : Nat) : Int) := by
      rw [show (2 : Int) ^ min (Int.toNat 8) IntKind.u16.bits = 256 from rfl, Int.fdiv_eq_ediv_of_nonneg _ (by omega)]; omega
    unfold m_value_append16
    rw [e16, e8, need_pos (by simp), bnd1_mk, jn_eq]
    have loop : ∀ (K : List UInt8 → Option (List UInt8)) (m i n : Nat) (b : List UInt8), i + m = l.length → m < n → b.length ≤ 131072 →
        ((∀ x ∈ l.drop i, x ≠ []) ∧ b.length + (l.drop i).flatten.length ≤ 131072 ∧ m_value_compound_L2 l K n b i = K (b ++ (l.drop i).flatten)) ∨ (¬ ((∀ x ∈ l.drop i, x ≠ []) ∧ b.length + (l.drop i).flatten.length ≤ 131072) ∧ m_value_compound_L2 l K n b i = some []) := by
      intro K m
      induction m with
      | zero =>
        intro i n b hi hn hb
        obtain ⟨n, rfl⟩ : ∃ k, n = k + 1 := ⟨n - 1, by omega⟩
        rw [List.drop_eq_nil_of_le (by omega)]
        refine .inl ⟨by simp, by simpa using hb, ?_⟩
        rw [m_value_compound_L2, m_value_compound_B2, if_neg (by omega)]; simp
      | succ m ih =>
        intro i n b hi hn hb
        obtain ⟨n, rfl⟩ : ∃ k, n = k + 1 := ⟨n - 1, by omega⟩
        have hil : i < l.length := by omega
        have hxi := hx _ (List.getElem_mem hil)
        rw [m_value_compound_L2, m_value_compound_B2, if_pos (by omega), need_pos (by omega)]
        simp only [jn_eq]
        rw [gi_nat hil, List.drop_eq_getElem_cons hil]
        by_cases he : l[i] = []
        · rw [if_pos he, if_pos trivial]
          exact .inr ⟨fun h => h.1 _ List.mem_cons_self he, rfl⟩
        · have e1 : i64 ((b.length : Int) + (l[i].length : Int)) = ((b.length + l[i].length : Nat) : Int) := by rw [i64_id (by omega)]; omega
          rw [if_neg he, e1]
          by_cases hs : (131072 : Int) < ((b.length + l[i].length : Nat) : Int)
          · rw [if_pos (decide_eq_true hs)]
            exact .inr ⟨fun h => by have := h.2; simp only [List.flatten_cons, List.length_append] at this; omega, rfl⟩
          · rw [if_neg (fun h => hs (of_decide_eq_true h)), need_pos (by omega), i64_succ (by omega)]
            have hlb : (b ++ l[i]).length = b.length + l[i].length := List.length_append
            rcases ih (i + 1) n (b ++ l[i]) (by omega) (by omega) (by omega) with ⟨h1, h2, h3⟩ | ⟨h1, h2⟩
            · refine .inl ⟨fun x h => ?_, ?_, ?_⟩
              · rcases List.mem_cons.1 h with rfl | h
                · exact he
                · exact h1 x h
              · rw [hlb] at h2; simp only [List.flatten_cons, List.length_append]; omega
              · rw [h3, List.append_assoc, List.flatten_cons]
            · refine .inr ⟨fun h => h1 ⟨fun x hx' => h.1 x (List.mem_cons_of_mem _ hx'), ?_⟩, h2⟩
              have := h.2
              simp only [List.flatten_cons, List.length_append] at this
              rw [hlb]; omega
    have hraw : [c] ++ [u8i ((l.length / 256 : Nat) : Int), u8i ((l.length : Nat) : Int)] ++ l.flatten = raw c l := rfl
    rcases loop _ l.length 0 FU ([c] ++ [u8i ((l.length / 256 : Nat) : Int), u8i ((l.length : Nat) : Int)]) (by omega) (by omega) (by simp) with ⟨h1, h2, h3⟩ | ⟨h1, h2⟩
    · rw [Int.natCast_zero, List.drop_zero, hraw] at h3
      rw [List.drop_zero] at h1 h2
      rw [h3, indexFunc_eq m_value_compound_1 (fun x => !vldB x) (fun x => by unfold m_value_compound_1; rw [vValid, bnd1_mk]) l (by omega), bnd1_mk]
      cases hall : l.any (fun x => !vldB x) with
      | true =>
        rw [if_neg (by simp), cmpd_no]
        intro h
        obtain ⟨x, hx, hv⟩ := List.any_eq_true.1 hall
        rw [vldB_iff.2 (h.2.1 x hx)] at hv; cases hv
      | false =>
        have hv : ∀ x ∈ l, Vd x := fun x hx => by
          have := List.any_eq_false.1 hall x hx
          simp at this; exact vldB_iff.1 this
        rw [if_pos (show (!false) = true from rfl), vChecked, bnd1_mk]
        by_cases hr : Vd (raw c l)
        · rw [if_pos (vldB_iff.2 hr), cmpd_yes ⟨by omega, hv, hr⟩]
        · rw [if_neg (fun h => hr (vldB_iff.1 h)), cmpd_no (fun h => hr h.2.2)]
    · rw [Int.natCast_zero] at h2
      rw [h2, cmpd_no]
      intro h
      rw [List.drop_zero] at h1
      refine h1 ⟨fun x hx => (h.2.1 x hx).ne, ?_⟩
      have := h.2.2.2
      rw [raw_len] at this
      simp; simp at this; omega
noncomputable def setW (l : List (List UInt8)) : List UInt8 := cmpd 5 (sortW l)
theorem vSet (l : List (List UInt8)) (hl : l.length ≤ 10000000) (hx : ∀ x ∈ l, x.length ≤ 1099511627776) : m_value_Set l = some (setW l) := by
  unfold m_value_Set setW
  have := vCompound 5 (sortW l) (fun x h => hx x ((sortW_spec l).2.1 x |>.1 h))
  rw [show ((5 : UInt8).toNat : Int) = 5 from rfl] at this
  rw [vSort l (by omega), bnd1_mk, this, bnd1_mk]
end Go.Proofs.YtdppkpiagdaigaaDoor
/- Sets of values: elements, merging, bounded results. -/
namespace Go.Proofs.YtdppkpiagdaigaaDoor
attribute [local irreducible] FU

theorem cmpC_val {a b : List UInt8} (ha : Vd a) (hb : Vd b) : cmpC a b = cmpW a b := by unfold cmpC; rw [if_pos ⟨vldB_iff.2 ha, vldB_iff.2 hb⟩]
theorem flat_mem {ps : List (List UInt8)} {p : List UInt8} (h : p ∈ ps) : p.length ≤ ps.flatten.length := by
  obtain ⟨a, b, rfl⟩ := List.append_of_mem h
  simp; omega
noncomputable def isSet (v : List UInt8) : Bool := decide (kindW v = 5)
/-! ### Results -/
/-! ### Merging -/
def MS (F : Bool → Bool → Bool) (A B r : List (List UInt8)) : Prop := SLC r ∧ ∀ y, y ∈ r ↔ F (decide (y ∈ A)) (decide (y ∈ B)) = true ∧ (y ∈ A ∨ y ∈ B)
theorem MS.push {F : Bool → Bool → Bool} {x : List UInt8} {A B r : List (List UInt8)} (fa fb : Bool) (hor : (fa || fb) = true) (hxA : ∀ y ∈ A, cmpC x y < 0) (hxB : ∀ y ∈ B, cmpC x y < 0) (h : MS F A B r) :
    MS F ((if fa then [x] else []) ++ A) ((if fb then [x] else []) ++ B) ((if F fa fb then [x] else []) ++ r) := by
  obtain ⟨hr, hm⟩ := h
  have hA : x ∉ A := fun hh => by have := hxA x hh; rw [cmpC_self] at this; omega
  have hB : x ∉ B := fun hh => by have := hxB x hh; rw [cmpC_self] at this; omega
  refine ⟨?_, fun y => ?_⟩
  · split
    · refine List.pairwise_cons.2 ⟨fun y hy => ?_, hr⟩
      rcases ((hm y).1 hy).2 with h | h
      · exact hxA y h
      · exact hxB y h
    · exact hr
  · by_cases hy : y = x
    · subst hy
      have hnr : y ∉ r := fun hh => by rcases ((hm y).1 hh).2 with h | h; exact hA h; exact hB h
      cases fa <;> cases fb <;> simp_all <;> split <;> simp_all
    · have e1 : (y ∈ (if fa = true then [x] else []) ++ A) ↔ y ∈ A := by cases fa <;> simp [hy]
      have e2 : (y ∈ (if fb = true then [x] else []) ++ B) ↔ y ∈ B := by cases fb <;> simp [hy]
      have e3 : (y ∈ (if F fa fb = true then [x] else []) ++ r) ↔ y ∈ r := by cases F fa fb <;> simp [hy]
      rw [e3, hm]
      simp only [e1, e2]
theorem nodup_len {α : Type} : ∀ {r l : List α}, r.Nodup → (∀ x ∈ r, x ∈ l) → r.length ≤ l.length
  | [], _, _, _ => by simp
  | x :: r, l, hn, hs => by
    obtain ⟨s, t, rfl⟩ := List.append_of_mem (hs x (by simp))
    obtain ⟨h1, h2⟩ := List.nodup_cons.1 hn
    have := nodup_len (r := r) (l := s ++ t) h2 (fun y hy => by
      have h := hs y (List.mem_cons_of_mem _ hy)
      have hne : y ≠ x := fun e => h1 (e ▸ hy)
      simpa [hne] using h)
    simp only [List.length_append, List.length_cons] at this ⊢
    omega
theorem slc_nodup {r : List (List UInt8)} (h : SLC r) : r.Nodup := h.imp (fun {a b} hab he => by subst he; rw [cmpC_self] at hab; omega)
theorem MS.len {F : Bool → Bool → Bool} {A B r : List (List UInt8)} (h : MS F A B r) : r.length ≤ A.length + B.length := by
  have := nodup_len (l := A ++ B) (slc_nodup h.1) (fun x hx => by rcases ((h.2 x).1 hx).2 with h | h <;> simp [h])
  simpa using this
end Go.Proofs.YtdppkpiagdaigaaDoor
/- Operations on sets: program and reference agree. -/
namespace Go.Proofs.YtdppkpiagdaigaaDoor
attribute [local irreducible] FU

theorem gi2_0 {α : Type} [Inhabited α] (x y : α) : gi [x, y] 0 = x := rfl
end Go.Proofs.YtdppkpiagdaigaaDoor
/- Operations on sets of sets and maps: program and reference agree. -/
namespace Go.Proofs.YtdppkpiagdaigaaDoor
attribute [local irreducible] FU

end Go.Proofs.YtdppkpiagdaigaaDoor
/- Subsets and keys: program and reference agree. -/
namespace Go.Proofs.YtdppkpiagdaigaaDoor
attribute [local irreducible] FU

/-! ### Keys -/
end Go.Proofs.YtdppkpiagdaigaaDoor
/- Integers as values; sets of them; the check of awake. -/
namespace Go.Proofs.YtdppkpiagdaigaaDoor
attribute [local irreducible] FU

/-- The last k bytes of w. -/
def byD (w : Nat) : Nat → List UInt8
  | 0 => []
  | k + 1 => u8i ((w / 2 ^ (8 * k) : Nat) : Int) :: byD w k
theorem byD_len (w : Nat) : ∀ k, (byD w k).length = k
  | 0 => rfl
  | k + 1 => by simp [byD, byD_len w k]
theorem beNat_cons (b : UInt8) (l : List UInt8) : beNat (b :: l) = b.toNat * 256 ^ l.length + beNat l := by
  have key : ∀ (l : List UInt8) (a : Nat), l.foldl (fun n b => n * 256 + b.toNat) a = a * 256 ^ l.length + beNat l := by
    intro l
    induction l with
    | nil => intro a; simp [beNat]
    | cons x l ih =>
      intro a
      have e : beNat (x :: l) = x.toNat * 256 ^ l.length + beNat l := by
        have := ih (0 * 256 + x.toNat)
        simpa [beNat] using this
      rw [List.foldl_cons, ih, e, List.length_cons, Nat.pow_succ, Nat.add_mul, Nat.mul_assoc, Nat.mul_comm 256]
      omega
  have := key l b.toNat
  simpa [beNat] using this
theorem pow8 (k : Nat) : 256 ^ k = 2 ^ (8 * k) := by rw [Nat.pow_mul]
theorem beNat_byD (w : Nat) : ∀ k, beNat (byD w k) = w % 2 ^ (8 * k)
  | 0 => by simp [byD, beNat, Nat.mod_one]
  | k + 1 => by
    rw [byD, beNat_cons, byD_len, u8i_nat, beNat_byD w k, pow8, show 8 * (k + 1) = 8 * k + 8 by omega, Nat.pow_add, Nat.mod_mul, Nat.mul_comm, Nat.add_comm, Nat.mul_comm]
def wOf (n : Int) : Nat := (n % 18446744073709551616).toNat
theorem u64_mod (x : Int) : IntKind.u64.wrap x = (wOf x : Int) := by rw [wrap_u64]; unfold wOf; omega
theorem fdiv_pow (w k : Nat) (hk : 8 * k ≤ 64) : Int.fdiv (w : Int) (2 ^ min (Int.toNat ((8 * k : Nat) : Int)) IntKind.u64.bits) = ((w / 2 ^ (8 * k) : Nat) : Int) := by
  rw [Int.toNat_natCast, show IntKind.u64.bits = 64 from rfl, Nat.min_eq_left hk]
  have : (2 : Int) ^ (8 * k) = ((2 ^ (8 * k) : Nat) : Int) := by simp
  rw [this, Int.fdiv_eq_ediv_of_nonneg _ (Int.natCast_nonneg _)]
  rfl
noncomputable def intW (n : Int) : List UInt8 := 1 :: byD (wOf n) 8
theorem vAppend64 (w : Nat) (K : List UInt8 → Option (List UInt8)) : ∀ (k n : Nat) (out : List UInt8), k ≤ 8 → k < n → out.length + k ≤ 100 → m_value_append64_L2 w K n out (8 * (k : Int) - 8) = K (out ++ byD w k) := by
  intro k
  induction k with
  | zero =>
    intro n out hk hn ho
    obtain ⟨n, rfl⟩ : ∃ q, n = q + 1 := ⟨n - 1, by omega⟩
    rw [m_value_append64_L2, m_value_append64_B2, if_neg (by omega)]
    simp [byD]
  | succ k ih =>
    intro n out hk hn ho
    obtain ⟨n, rfl⟩ : ∃ q, n = q + 1 := ⟨n - 1, by omega⟩
    have e : 8 * ((k + 1 : Nat) : Int) - 8 = ((8 * k : Nat) : Int) := by omega
    have e2 : i64 (((8 * k : Nat) : Int) - 8) = 8 * (k : Int) - 8 := by rw [i64_id (by omega)]; omega
    rw [e, m_value_append64_L2, m_value_append64_B2, if_pos (by omega), need_pos (by omega), fdiv_pow w k (by omega), need_pos (by simp; omega), e2, ih n _ (by omega) (by omega) (by simp; omega)]
    simp [byD]
theorem vInt (n : Int) : m_value_Int n = some (intW n) := by
  have hFU := FU_ge
  unfold m_value_Int m_value_append64
  have h := vAppend64 (wOf n) (fun x => some x) 8 FU [1] (by omega) (by omega) (by simp)
  rw [show 8 * ((8 : Nat) : Int) - 8 = 56 from rfl] at h
  rw [u64_mod, jn_eq]
  rw [h, bnd1_mk]; rfl
theorem intW_IsV (n : Int) (k : Nat) : IsV (k + 1) (intW n) := .int k _ (byD_len _ 8)
theorem intW_len (n : Int) : (intW n).length = 9 := by simp [intW, byD_len]
theorem numV_intW {n : Int} (h : -9223372036854775808 ≤ n ∧ n ≤ 9223372036854775807) : numV (intW n) = n := by
  unfold numV intW
  rw [List.drop_succ_cons, List.drop_zero, beNat_byD]
  have e : wOf n % 2 ^ (8 * 8) = wOf n := Nat.mod_eq_of_lt (by unfold wOf; omega)
  rw [e]
  unfold wOf i64
  rw [show (((n % 18446744073709551616).toNat : Nat) : Int) = n % 18446744073709551616 by omega]
  unfold IntKind.wrap IntKind.bits IntKind.signed
  simp; split <;> omega
theorem intW_inj {a b : Int} (ha : -9223372036854775808 ≤ a ∧ a ≤ 9223372036854775807) (hb : -9223372036854775808 ≤ b ∧ b ≤ 9223372036854775807) (h : intW a = intW b) : a = b := by
  rw [← numV_intW ha, ← numV_intW hb, h]

/-! ### Sets that are valid -/
theorem SLC_ascB : ∀ {ps : List (List UInt8)}, (∀ p ∈ ps, Vd p) → SLC ps → ascB ps = true
  | [], _, _ => rfl
  | [_], _, _ => rfl
  | x :: y :: t, hv, h => by
    obtain ⟨h1, h2⟩ := List.pairwise_cons.1 h
    have := h1 y (by simp)
    rw [cmpC_val (hv x (by simp)) (hv y (by simp))] at this
    rw [ascB, SLC_ascB (fun p hp => hv p (by simp [hp])) h2, decide_eq_true this]; rfl
/-- A set of valid values that is neither too deep nor too long. -/
theorem set_ok {l : List (List UInt8)} {k : Nat} (hk : k ≤ 31) (hv : ∀ x ∈ l, IsV k x) (hl : (sortW l).length ≤ 65535) (hs : 3 + (sortW l).flatten.length ≤ 131072) :
    setW l = raw 5 (sortW l) ∧ IsV (k + 1) (setW l) ∧ prtW (setW l) = sortW l ∧ isSet (setW l) = true ∧ setW l ≠ [] ∧ (setW l).length ≤ 131072 := by
  have hm := (sortW_spec l).2.1
  have hV : ∀ x ∈ sortW l, Vd x := fun x hx => ⟨(hv x ((hm x).1 hx)).le (by omega), by have := flat_mem hx; omega⟩
  have hI : IsV (k + 1) (raw 5 (sortW l)) := .comp k 5 _ _ (sortW l) (by decide) (raw_count hl) (fun x hx => hv x ((hm x).1 hx)) (by
    have := SLC_ascB hV (sortW_spec l).1
    simpa [formedB] using this)
  have hVr : Vd (raw 5 (sortW l)) := ⟨hI.le (by omega), by rw [raw_len]; omega⟩
  have he : setW l = raw 5 (sortW l) := cmpd_yes ⟨hl, hV, hVr⟩
  have hvb := vldB_iff.2 hVr
  rw [he]
  refine ⟨rfl, hI, ?_, ?_, by simp [raw], hVr.2⟩
  · unfold prtW; rw [if_pos hvb]; exact prt_raw (by decide) hl hV
  · unfold isSet kindW; rw [if_pos hvb]; rfl
/-! ### The subsets are different -/
/-! ### Ranges -/
end Go.Proofs.YtdppkpiagdaigaaDoor
/- The generator of values always returns. -/
namespace Go.Proofs.YtdppkpiagdaigaaDoor
attribute [local irreducible] FU

/-! ### What is made always comes back -/
end Go.Proofs.YtdppkpiagdaigaaDoor
/- The check of layer 9: text, kind and order of one set. -/
namespace Go.Proofs.YtdppkpiagdaigaaDoor
attribute [local irreducible] FU

theorem cmpC_int {a b : Int} (ha : -9223372036854775808 ≤ a ∧ a ≤ 9223372036854775807) (hb : -9223372036854775808 ≤ b ∧ b ≤ 9223372036854775807) : cmpC (intW a) (intW b) = sgn a b := by
  have va : Vd (intW a) := ⟨intW_IsV a 31, by rw [intW_len]; omega⟩
  have vb : Vd (intW b) := ⟨intW_IsV b 31, by rw [intW_len]; omega⟩
  rw [cmpC_val va vb]
  unfold cmpW
  show (if intW a = intW b then 0 else if gi (intW a) 0 ≠ gi (intW b) 0 then sgnB (gi (intW a) 0) (gi (intW b) 0) else if gi (intW a) 0 = 1 then sgn (numV (intW a)) (numV (intW b)) else _) = _
  by_cases h : intW a = intW b
  · rw [if_pos h, intW_inj ha hb h]; unfold sgn; simp
  · rw [if_neg h, if_neg (fun hn => hn rfl), if_pos (show gi (intW a) 0 = 1 from rfl), numV_intW ha, numV_intW hb]
theorem sort12 : sortW [intW 2, intW 1, intW 2] = [intW 1, intW 2] := by
  refine slc_ext (sortW_spec _).1 ?_ (fun x => ?_)
  · refine List.pairwise_cons.2 ⟨fun y hy => ?_, by simp⟩
    rw [List.mem_singleton] at hy
    subst hy
    rw [cmpC_int (by omega) (by omega)]; decide
  · rw [(sortW_spec _).2.1]; simp; exact fun h => .inr h
theorem text_small (i : Int) (n : Nat) (h : i = 1 ∨ i = 2) (names : List (List UInt8)) : m_value_text_S (n + 1) (intW i) names = some (if i = 1 then [49] else [50]) := by
  have hi : numV (intW i) = i := numV_intW (by omega)
  rw [m_value_text_S]
  unfold m_value_text_F
  rw [need_pos (by rw [intW_len]; omega), if_pos (show gi (intW i) 0 = 1 from rfl), vInteger _ (by rw [intW_len]; omega), bnd1_mk]
  have e : i64 (beNat (((intW i).drop 1).take 8)) = i := by
    rw [List.take_of_length_le (by rw [List.length_drop, intW_len]; omega)]; exact hi
  rw [e]
  rcases h with rfl | rfl
  · unfold m_strconv_FormatInt m_internal_strconv_FormatInt m_internal_strconv_small
    simp only [jn_eq]
    rfl
  · unfold m_strconv_FormatInt m_internal_strconv_FormatInt m_internal_strconv_small
    simp only [jn_eq]
    rfl
theorem set12 : setW [intW 2, intW 1, intW 2] = raw 5 [intW 1, intW 2] ∧ prtW (setW [intW 2, intW 1, intW 2]) = [intW 1, intW 2] ∧ isSet (setW [intW 2, intW 1, intW 2]) = true ∧ vldB (setW [intW 2, intW 1, intW 2]) = true := by
  have hl : ∀ x ∈ [intW 2, intW 1, intW 2], IsV 1 x := fun x hx => by
    simp at hx
    rcases hx with rfl | rfl | rfl <;> exact intW_IsV _ 0
  obtain ⟨a1, a2, a3, a4, _, a6⟩ := set_ok (l := [intW 2, intW 1, intW 2]) (k := 1) (by omega) hl (by rw [sort12]; simp) (by rw [sort12]; simp [intW_len])
  rw [sort12] at a1 a3
  exact ⟨a1, a3, a4, vldB_iff.2 ⟨a2.le (by omega), a6⟩⟩
theorem text_12 : m_value_text (raw 5 [intW 1, intW 2]) [] = some [123, 49, 44, 32, 50, 125] := by
  obtain ⟨n, hn⟩ := FU_k 2 (by omega)
  obtain ⟨q, hq⟩ := FU_k 3 (by omega)
  unfold m_value_text
  rw [hn]
  have h1 := text_small 1 n (.inl rfl) []
  have h2 := text_small 2 n (.inr rfl) []
  rw [if_pos rfl] at h1
  rw [if_neg (by decide)] at h2
  rw [m_value_text_S]
  generalize m_value_text_S (n + 1) = T at h1 h2
  have hp : m_value_parts (raw 5 [intW 1, intW 2]) = some [intW 1, intW 2] := vParts (k := 1) (fun p hp => by
    simp at hp
    rcases hp with rfl | rfl
    · exact (intW_IsV 1 0).sh
    · exact (intW_IsV 2 0).sh) (by omega) (by simp [intW_len])
  have g0 : gi (raw 5 [intW 1, intW 2]) 0 = 5 := rfl
  unfold m_value_text_F
  rw [need_pos (by rw [raw_len]; omega), g0, if_neg (by decide), if_neg (by decide), if_neg (by decide), jn_eq, hp, bnd1_mk]
  rw [hq, m_value_text_L2, m_value_text_B2, if_pos (by simp), need_pos (by simp), gi2_0, h1, bnd1_mk, need_pos (by simp), i64_id (by omega), m_value_text_L2, m_value_text_B2, if_pos (by simp), need_pos (by simp), show gi [intW 1, intW 2] (0 + 1) = intW 2 from rfl, h2, bnd1_mk, need_pos (by simp), i64_id (by omega), m_value_text_L2, m_value_text_B2, if_neg (by simp)]
  have hj : m_join ([] ++ [[49]] ++ [[50]]) [44, 32] = some [49, 44, 32, 50] := by
    unfold m_join
    rw [show Lib.join ([] ++ [[49]] ++ [[50]]) [44, 32] = ([49, 44, 32, 50] : List UInt8) from rfl, need_pos (by simp)]
  rw [hj, bnd1_mk, need_pos (by rw [raw_len]; omega), if_neg (by decide), if_pos rfl, need_pos (by simp), need_pos (by simp)]
  rfl
theorem awake9_true : m_law9_awake = some true := by
  obtain ⟨s1, s2, s3, s4⟩ := set12
  unfold m_law9_awake
  have hk : kindW (setW [intW 2, intW 1, intW 2]) = 5 := of_decide_eq_true s3
  have hT : m_value_Text (setW [intW 2, intW 1, intW 2]) [] = some [123, 49, 44, 32, 50, 125] := by
    unfold m_value_Text
    rw [vValid, s4, bnd1_mk, if_neg (by simp), s1, text_12, bnd1_mk]
  simp only [vInt, bnd1_mk, vSet [intW 2, intW 1, intW 2] (by simp) (fun x hx => by
    simp at hx
    rcases hx with rfl | rfl | rfl <;> rw [intW_len] <;> omega), jn_eq, vKind, hk, vPartsW, s2, hT, vCompareW]
  rw [if_pos (show intW 1 = [1, 0, 0, 0, 0, 0, 0, 0, 1] from rfl), if_pos trivial, if_pos (by simp), if_pos trivial, cmpC_int (by omega) (by omega)]
  rfl
end Go.Proofs.YtdppkpiagdaigaaDoor
/- Values are nested exactly as deeply as permitted. -/
namespace Go.Proofs.YtdppkpiagdaigaaDoor
attribute [local irreducible] FU

theorem vSeqN (l : List (List UInt8)) (hx : ∀ x ∈ l, x.length ≤ 1099511627776) : m_value_Seq l = some (cmpd 4 l) := by
  unfold m_value_Seq
  have := vCompound 4 l hx
  rw [show ((4 : UInt8).toNat : Int) = 4 from rfl] at this
  rw [this, bnd1_mk]
noncomputable def nestV : Nat → List UInt8
  | 0 => intW 1
  | n + 1 => cmpd 4 [nestV n]
theorem raw1_inv {k : Nat} {v : List UInt8} (h : IsV (k + 1) (raw 4 [v])) : IsV k v := by
  generalize hr : raw 4 [v] = r at h
  cases h with
  | int k b hb => simp [raw] at hr
  | bool k b hb => simp [raw] at hr
  | name k x y => simp [raw] at hr
  | comp k c x y ps hc hn hp hf =>
    unfold raw at hr
    simp only [List.cons.injEq, List.flatten_cons, List.flatten_nil, List.append_nil] at hr
    obtain ⟨_, h1, h2, h3⟩ := hr
    have hl : ps.length = 1 := by rw [hn, ← h1, ← h2, ← raw_count (l := [v]) (by simp)]; rfl
    obtain ⟨p, rfl⟩ := List.length_eq_one_iff.1 hl
    have : v = p := by simpa using h3
    subst this
    exact hp v (by simp)
theorem nest_ok : ∀ n : Nat, n ≤ 31 → IsV (n + 1) (nestV n) ∧ ¬ IsV n (nestV n) ∧ (nestV n).length = 9 + 3 * n
  | 0, _ => ⟨intW_IsV 1 0, fun h => absurd h.sh.pos (by omega), by simp [nestV, intW_len]⟩
  | n + 1, h => by
    obtain ⟨h1, h2, h3⟩ := nest_ok n (by omega)
    have hI : IsV (n + 2) (raw 4 [nestV n]) := .comp (n + 1) 4 _ _ [nestV n] (by decide) (raw_count (by simp)) (fun x hx => by rw [List.mem_singleton.1 hx]; exact h1) (by simp [formedB])
    have hl : (raw 4 [nestV n]).length = 9 + 3 * (n + 1) := by rw [raw_len]; simp [h3]; omega
    have he : nestV (n + 1) = raw 4 [nestV n] := cmpd_yes ⟨by simp, fun x hx => by rw [List.mem_singleton.1 hx]; exact ⟨h1.le (by omega), by omega⟩, hI.le (by omega), by omega⟩
    rw [he]
    exact ⟨hI, fun h => h2 (raw1_inv h), hl⟩
theorem nest_no : ∀ n : Nat, nestV (n + 32) = []
  | 0 => by
    obtain ⟨h1, h2, h3⟩ := nest_ok 31 (by omega)
    show cmpd 4 [nestV 31] = []
    exact cmpd_no (fun h => h2 (raw1_inv h.2.2.1))
  | n + 1 => by
    show cmpd 4 [nestV (n + 32)] = []
    rw [nest_no n]
    exact cmpd_no (fun h => (h.2.1 [] (by simp)).ne rfl)
theorem nest_len (n : Nat) : (nestV n).length ≤ 131072 := by
  by_cases h : n ≤ 31
  · have := (nest_ok n h).2.2; omega
  · rw [show n = (n - 32) + 32 by omega, nest_no]; simp
theorem nest_loop (a : UInt8) (K : List UInt8 → Option Bool) : ∀ (m i n : Nat), i + m = (a % 40).toNat → m < n → m_law9_ValueNesting_L2 a K n (nestV i) i = K (nestV (a % 40).toNat) := by
  have hr : (a % 40).toNat < 40 := by rw [UInt8.toNat_mod]; exact Nat.mod_lt _ (by decide)
  intro m
  induction m with
  | zero =>
    intro i n hi hn
    obtain ⟨n, rfl⟩ : ∃ q, n = q + 1 := ⟨n - 1, by omega⟩
    rw [m_law9_ValueNesting_L2, m_law9_ValueNesting_B2, if_neg (by omega), show i = (a % 40).toNat by omega]
  | succ m ih =>
    intro i n hi hn
    obtain ⟨n, rfl⟩ : ∃ q, n = q + 1 := ⟨n - 1, by omega⟩
    rw [m_law9_ValueNesting_L2, m_law9_ValueNesting_B2, if_pos (by omega), vSeqN _ (fun x hx => by
      rw [List.mem_singleton.1 hx]; have := nest_len i; omega), bnd1_mk, i64_succ (by omega)]
    exact ih (i + 1) n (by omega) (by omega)
theorem valueNesting_true (a : UInt8) (_ : True) : m_law9_ValueNesting a = some true := by
  have hFU := FU_ge
  have hr : (a % 40).toNat < 40 := by rw [UInt8.toNat_mod]; exact Nat.mod_lt _ (by decide)
  unfold m_law9_ValueNesting
  rw [vInt, bnd1_mk, jn_eq]
  have h := fun K => nest_loop a K (a % 40).toNat 0 FU (by omega) (by omega)
  rw [show nestV 0 = intW 1 from rfl] at h
  simp only [Int.natCast_zero] at h
  rw [h]
  simp only [jn_eq, awake9_true, bnd1_mk, vValid, i64_succ (show (a % 40).toNat < 4611686018427387904 by omega)]
  generalize (a % 40).toNat = r at hr
  rw [if_pos trivial]
  by_cases hd : r ≤ 31
  · obtain ⟨h1, h2, h3⟩ := nest_ok r hd
    have hV : vldB (nestV r) = true := vldB_iff.2 ⟨h1.le (by omega), by omega⟩
    have hne : nestV r ≠ [] := fun e => by rw [e] at h3; simp only [List.length_nil] at h3; omega
    rw [hV, if_pos (decide_eq_true (show ¬ (32 : Int) < ((r + 1 : Nat) : Int) by omega)).symm, decide_eq_false hne, decide_eq_false (show ¬ (32 : Int) < ((r + 1 : Nat) : Int) by omega)]
    rfl
  · have he : nestV r = [] := by rw [show r = (r - 32) + 32 by omega, nest_no]
    have hV : vldB (nestV r) = false := vldB_no (fun h => h.ne he)
    rw [hV, if_pos (decide_eq_false (show ¬ ¬ (32 : Int) < ((r + 1 : Nat) : Int) by omega)).symm, decide_eq_true he, decide_eq_true (show (32 : Int) < ((r + 1 : Nat) : Int) by omega)]
    rfl
end Go.Proofs.YtdppkpiagdaigaaDoor
