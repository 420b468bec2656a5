/- Models, by program: what the functions compute. -/
import Derived.Test.YtkplmgdmkfgjhaaWo
import Derived.Test.YtkplmgdmkfgjhaaSm
namespace Go.Proofs.Ytkplmgdmkfgjhaa

/- cspcheck.cspcheckref35.Has -/
noncomputable def m_ref35_Has_B2 (a0 : List (Int × Int)) (a1 : Int × Int) (k1 : Unit → Option Bool) (rec2 : Int → Option Bool) (x5_l2 : Int) : Option Bool :=
  if x5_l2 < (List.length a0 : Int) then (need ((0 : Int) ≤ x5_l2 ∧ x5_l2 < (List.length a0 : Int)) (if (gi a0 x5_l2) = a1 then (some true) else (rec2 (i64 (x5_l2 + 1))))) else (k1 ())
noncomputable def m_ref35_Has_L2 (a0 : List (Int × Int)) (a1 : Int × Int) (k1 : Unit → Option Bool) : Nat → Int → Option Bool
  | 0, _ => none
  | n + 1, x5_l2 => m_ref35_Has_B2 a0 a1 k1 (m_ref35_Has_L2 a0 a1 k1 n) x5_l2
noncomputable def m_ref35_Has (a0 : List (Int × Int)) (a1 : Int × Int) : Option Bool :=
  jn (fun (_ : Unit) => some false) (fun k1 => m_ref35_Has_L2 a0 a1 k1 FU 0)
/- cspcheck.cspcheckref35.Less -/
noncomputable def m_ref35_Less (a0 : Int × Int) (a1 : Int × Int) : Option Bool :=
  jn (fun (x4_j1 : Bool) => some x4_j1) (fun k1 => if a0.1 < a1.1 then (k1 true) else (if a0.1 = a1.1 then (k1 (decide (a0.2 < a1.2))) else (k1 false)))
/- cspcheck.cspcheckref35.Add -/
noncomputable def m_ref35_Add_B2 (a0 : List (Int × Int)) (a1 : Int × Int) (k1 : Int → Option (List (Int × Int))) (rec2 : Int → Option (List (Int × Int))) (x5_l2 : Int) : Option (List (Int × Int)) :=
  jn (fun (x18_j64 : Bool) => if x18_j64 then (rec2 (i64 (x5_l2 + 1))) else (k1 x5_l2)) (fun k64 => if x5_l2 < (List.length a0 : Int) then (need ((0 : Int) ≤ x5_l2 ∧ x5_l2 < (List.length a0 : Int)) (bnd1 (m_ref35_Less (gi a0 x5_l2) a1) (fun y68 => k64 y68))) else (k64 false))
noncomputable def m_ref35_Add_L2 (a0 : List (Int × Int)) (a1 : Int × Int) (k1 : Int → Option (List (Int × Int))) : Nat → Int → Option (List (Int × Int))
  | 0, _ => none
  | n + 1, x5_l2 => m_ref35_Add_B2 a0 a1 k1 (m_ref35_Add_L2 a0 a1 k1 n) x5_l2
noncomputable def m_ref35_Add (a0 : List (Int × Int)) (a1 : Int × Int) : Option (List (Int × Int)) :=
  jn (fun (x5_j1 : Int) => jn (fun (x32_j73 : Bool) => if x32_j73 then (some a0) else (need (0 ≤ x5_j1 ∧ x5_j1 ≤ (List.length a0 : Int)) (need (List.length ([] : List (Int × Int)) + List.length (List.take (Int.toNat x5_j1) a0) ≤ 137438953472) (need (List.length (([] : List (Int × Int)) ++ (List.take (Int.toNat x5_j1) a0)) + List.length [a1] ≤ 137438953472) (need ((0 : Int) ≤ x5_j1 ∧ x5_j1 ≤ (List.length a0 : Int)) (need (List.length ((([] : List (Int × Int)) ++ (List.take (Int.toNat x5_j1) a0)) ++ [a1]) + List.length (List.drop (Int.toNat x5_j1) a0) ≤ 137438953472) (some (((([] : List (Int × Int)) ++ (List.take (Int.toNat x5_j1) a0)) ++ [a1]) ++ (List.drop (Int.toNat x5_j1) a0))))))))) (fun k73 => if x5_j1 < (List.length a0 : Int) then (need ((0 : Int) ≤ x5_j1 ∧ x5_j1 < (List.length a0 : Int)) (k73 (decide ((gi a0 x5_j1) = a1)))) else (k73 false))) (fun k1 => m_ref35_Add_L2 a0 a1 k1 FU 0)
/- cspcheck.cspcheckref35.isPair -/
noncomputable def m_ref35_isPair (a0 : Int × Int) : Option Bool :=
  jn (fun (x2_j1 : Bool) => some x2_j1) (fun k1 => if 0 ≤ a0.1 then (if a0.1 ≤ 2147483647 then (if 0 ≤ a0.2 then (k1 (decide (a0.2 ≤ 2147483647))) else (k1 false)) else (k1 false)) else (k1 false))
/- cspcheck.cspcheckref35.Sorted -/
noncomputable def m_ref35_Sorted_B2 (a0 : List (Int × Int)) (k1 : Unit → Option (List (Int × Int))) (rec2 : Int → Option (List (Int × Int))) (x4_l2 : Int) : Option (List (Int × Int)) :=
  if x4_l2 < (List.length a0 : Int) then (need ((0 : Int) ≤ x4_l2 ∧ x4_l2 < (List.length a0 : Int)) (bnd1 (m_ref35_isPair (gi a0 x4_l2)) (fun y14 => if !y14 then (some []) else (rec2 (i64 (x4_l2 + 1)))))) else (k1 ())
noncomputable def m_ref35_Sorted_L2 (a0 : List (Int × Int)) (k1 : Unit → Option (List (Int × Int))) : Nat → Int → Option (List (Int × Int))
  | 0, _ => none
  | n + 1, x4_l2 => m_ref35_Sorted_B2 a0 k1 (m_ref35_Sorted_L2 a0 k1 n) x4_l2
noncomputable def m_ref35_Sorted_B4 (a0 : List (Int × Int)) (k15 : (List (Int × Int)) → Option (List (Int × Int))) (rec4 : (List (Int × Int)) → Int → Option (List (Int × Int))) (x3_l4 : List (Int × Int)) (x5_l4 : Int) : Option (List (Int × Int)) :=
  if x5_l4 < (List.length a0 : Int) then (need ((0 : Int) ≤ x5_l4 ∧ x5_l4 < (List.length a0 : Int)) (bnd1 (m_ref35_Add x3_l4 (gi a0 x5_l4)) (fun y35 => rec4 y35 (i64 (x5_l4 + 1))))) else (k15 x3_l4)
noncomputable def m_ref35_Sorted_L4 (a0 : List (Int × Int)) (k15 : (List (Int × Int)) → Option (List (Int × Int))) : Nat → (List (Int × Int)) → Int → Option (List (Int × Int))
  | 0, _, _ => none
  | n + 1, x3_l4, x5_l4 => m_ref35_Sorted_B4 a0 k15 (m_ref35_Sorted_L4 a0 k15 n) x3_l4 x5_l4
noncomputable def m_ref35_Sorted (a0 : List (Int × Int)) : Option (List (Int × Int)) :=
  jn (fun (_ : Unit) => jn (fun (x3_j15 : List (Int × Int)) => some x3_j15) (fun k15 => m_ref35_Sorted_L4 a0 k15 FU [] 0)) (fun k1 => m_ref35_Sorted_L2 a0 k1 FU 0)
/- cspcheck.frontier.number -/
noncomputable def m_frontier_number_B2 (a0 : List UInt8) (a1 : Int) (k1 : Unit → Option (Int × Int × Int)) (rec2 : Int → Int → Option (Int × Int × Int)) (x7_l2 : Int) (x10_l2 : Int) : Option (Int × Int × Int) :=
  if x10_l2 < 5 then (if (List.length a0 : Int) ≤ (i64 (a1 + x10_l2)) then (some (0, 0, 23)) else (need ((0 : Int) ≤ i64 (a1 + x10_l2) ∧ (i64 (a1 + x10_l2)) < (List.length a0 : Int)) (need (¬ (i64 (7 * x10_l2)) < 0) (if (gi a0 (i64 (a1 + x10_l2))) < 128 then (some (bOr .i64 x7_l2 (i64 ((UInt8.toNat ((gi a0 (i64 (a1 + x10_l2))) &&& 127) : Int) * 2 ^ min (Int.toNat (i64 (7 * x10_l2))) IntKind.i64.bits)), i64 ((i64 (a1 + x10_l2)) + 1), 0)) else (rec2 (bOr .i64 x7_l2 (i64 ((UInt8.toNat ((gi a0 (i64 (a1 + x10_l2))) &&& 127) : Int) * 2 ^ min (Int.toNat (i64 (7 * x10_l2))) IntKind.i64.bits))) (i64 (x10_l2 + 1))))))) else (k1 ())
noncomputable def m_frontier_number_L2 (a0 : List UInt8) (a1 : Int) (k1 : Unit → Option (Int × Int × Int)) : Nat → Int → Int → Option (Int × Int × Int)
  | 0, _, _ => none
  | n + 1, x7_l2, x10_l2 => m_frontier_number_B2 a0 a1 k1 (m_frontier_number_L2 a0 a1 k1 n) x7_l2 x10_l2
noncomputable def m_frontier_number (a0 : List UInt8) (a1 : Int) : Option (Int × Int × Int) :=
  jn (fun (_ : Unit) => some (0, 0, 22)) (fun k1 => m_frontier_number_L2 a0 a1 k1 FU 0 0)
/- cspcheck.cspcheckref35.uvarint -/
noncomputable def m_ref35_uvarint_B2 (a0 : List UInt8) (k1 : Int → Option (Int × Int × Int)) (rec2 : Int → Int → Int → Int → Option (Int × Int × Int)) (x1_l2 : Int) (x7_l2 : Int) (x8_l2 : Int) (x9_l2 : Int) : Option (Int × Int × Int) :=
  if x9_l2 < 5 then (if (List.length a0 : Int) ≤ x1_l2 then (some (0, x1_l2, 23)) else (need ((0 : Int) ≤ x1_l2 ∧ x1_l2 < (List.length a0 : Int)) (need ((0 : Int) ≤ i64 ((i64 (x1_l2 + 1)) - 1) ∧ (i64 ((i64 (x1_l2 + 1)) - 1)) < (List.length a0 : Int)) (if (gi a0 (i64 ((i64 (x1_l2 + 1)) - 1))) < 128 then (some (i64 (x7_l2 + (i64 ((Int.tmod (UInt8.toNat (gi a0 x1_l2) : Int) 128) * x8_l2))), i64 (x1_l2 + 1), 0)) else (rec2 (i64 (x1_l2 + 1)) (i64 (x7_l2 + (i64 ((Int.tmod (UInt8.toNat (gi a0 x1_l2) : Int) 128) * x8_l2)))) (i64 (x8_l2 * 128)) (i64 (x9_l2 + 1))))))) else (k1 x1_l2)
noncomputable def m_ref35_uvarint_L2 (a0 : List UInt8) (k1 : Int → Option (Int × Int × Int)) : Nat → Int → Int → Int → Int → Option (Int × Int × Int)
  | 0, _, _, _, _ => none
  | n + 1, x1_l2, x7_l2, x8_l2, x9_l2 => m_ref35_uvarint_B2 a0 k1 (m_ref35_uvarint_L2 a0 k1 n) x1_l2 x7_l2 x8_l2 x9_l2
noncomputable def m_ref35_uvarint (a0 : List UInt8) (a1 : Int) : Option (Int × Int × Int) :=
  jn (fun (x1_j1 : Int) => some (0, x1_j1, 22)) (fun k1 => m_ref35_uvarint_L2 a0 k1 FU a1 0 1 0)
/- cspcheck.codec.Checksum -/
noncomputable def m_codec_Checksum_B14 (k58 : Int → Option Int) (rec14 : Int → Int → Option Int) (x3_l14 : Int) (x16_l14 : Int) : Option Int :=
  if x16_l14 < 8 then (jn (fun (x3_j67 : Int) => rec14 x3_j67 (i64 (x16_l14 + 1))) (fun k67 => if ¬ (bAnd .u32 x3_l14 1) = 0 then (k67 (bXor .u32 (Int.fdiv x3_l14 (2 ^ min (Int.toNat 1) IntKind.u32.bits)) 3988292384)) else (k67 (Int.fdiv x3_l14 (2 ^ min (Int.toNat 1) IntKind.u32.bits))))) else (k58 x3_l14)
noncomputable def m_codec_Checksum_L14 (k58 : Int → Option Int) : Nat → Int → Int → Option Int
  | 0, _, _ => none
  | n + 1, x3_l14, x16_l14 => m_codec_Checksum_B14 k58 (m_codec_Checksum_L14 k58 n) x3_l14 x16_l14
noncomputable def m_codec_Checksum_B8 (a0 : List UInt8) (k1 : Int → Option Int) (rec8 : Int → Int → Option Int) (x3_l8 : Int) (x8_l8 : Int) : Option Int :=
  if x8_l8 < (List.length a0 : Int) then (jn (fun (x3_j58 : Int) => rec8 x3_j58 (i64 (x8_l8 + 1))) (fun k58 => need ((0 : Int) ≤ x8_l8 ∧ x8_l8 < (List.length a0 : Int)) (m_codec_Checksum_L14 k58 FU (bXor .u32 x3_l8 (UInt8.toNat (gi a0 x8_l8) : Int)) 0))) else (k1 x3_l8)
noncomputable def m_codec_Checksum_L8 (a0 : List UInt8) (k1 : Int → Option Int) : Nat → Int → Int → Option Int
  | 0, _, _ => none
  | n + 1, x3_l8, x8_l8 => m_codec_Checksum_B8 a0 k1 (m_codec_Checksum_L8 a0 k1 n) x3_l8 x8_l8
noncomputable def m_codec_Checksum (a0 : List UInt8) : Option Int :=
  jn (fun (x3_j1 : Int) => some (bXor .u32 4294967295 x3_j1)) (fun k1 => m_codec_Checksum_L8 a0 k1 FU 4294967295 0)
/- cspcheck.codec.Sealed -/
noncomputable def m_codec_Sealed (a0 : List UInt8) : Option Bool :=
  if (i64 ((List.length a0 : Int) - 4)) < 0 then (some false) else (need (0 ≤ i64 ((List.length a0 : Int) - 4) ∧ (i64 ((List.length a0 : Int) - 4)) ≤ (List.length a0 : Int)) (bnd1 (m_codec_Checksum (List.take (Int.toNat (i64 ((List.length a0 : Int) - 4))) a0)) (fun y2 => jn (fun (x2_j3 : Bool) => some x2_j3) (fun k3 => need ((0 : Int) ≤ i64 ((List.length a0 : Int) - 4) ∧ (i64 ((List.length a0 : Int) - 4)) < (List.length a0 : Int)) (if (gi a0 (i64 ((List.length a0 : Int) - 4))) = (u8i (Int.fdiv y2 (2 ^ min (Int.toNat 24) IntKind.u32.bits))) then (need ((0 : Int) ≤ i64 ((i64 ((List.length a0 : Int) - 4)) + 1) ∧ (i64 ((i64 ((List.length a0 : Int) - 4)) + 1)) < (List.length a0 : Int)) (if (gi a0 (i64 ((i64 ((List.length a0 : Int) - 4)) + 1))) = (u8i (Int.fdiv y2 (2 ^ min (Int.toNat 16) IntKind.u32.bits))) then (need ((0 : Int) ≤ i64 ((i64 ((List.length a0 : Int) - 4)) + 2) ∧ (i64 ((i64 ((List.length a0 : Int) - 4)) + 2)) < (List.length a0 : Int)) (if (gi a0 (i64 ((i64 ((List.length a0 : Int) - 4)) + 2))) = (u8i (Int.fdiv y2 (2 ^ min (Int.toNat 8) IntKind.u32.bits))) then (need ((0 : Int) ≤ i64 ((i64 ((List.length a0 : Int) - 4)) + 3) ∧ (i64 ((i64 ((List.length a0 : Int) - 4)) + 3)) < (List.length a0 : Int)) (k3 (decide ((gi a0 (i64 ((i64 ((List.length a0 : Int) - 4)) + 3))) = (u8i y2))))) else (k3 false))) else (k3 false))) else (k3 false))))))
/- cspcheck.frontier.isPair -/
noncomputable def m_frontier_isPair (a0 : Int × Int) : Option Bool :=
  jn (fun (x2_j1 : Bool) => some x2_j1) (fun k1 => if 0 ≤ a0.1 then (if 0 ≤ a0.2 then (if a0.1 ≤ 2147483647 then (k1 (decide (a0.2 ≤ 2147483647))) else (k1 false)) else (k1 false)) else (k1 false))
/- cmp.isNaN(int) -/
noncomputable def m_cmp_isNaN_int (a0 : Int) : Option Bool :=
  some (decide (¬ a0 = a0))
/- cmp.Compare(int) -/
noncomputable def m_cmp_Compare_int (a0 : Int) (a1 : Int) : Option Int :=
  bnd1 (m_cmp_isNaN_int a0) (fun y1 => bnd1 (m_cmp_isNaN_int a1) (fun y2 => if y1 then (if y2 then (some 0) else (some (-1))) else (if y2 then (some 1) else (if a0 < a1 then (some (-1)) else (if a1 < a0 then (some 1) else (some 0))))))
/- slices.Compare(()int,int) -/
noncomputable def m_slices_Compare_L_int_int_B2 (a0 : List Int) (a1 : List Int) (k1 : Unit → Option Int) (rec2 : Int → Option Int) (x11_l2 : Int) : Option Int :=
  if x11_l2 < (List.length a0 : Int) then (need ((0 : Int) ≤ x11_l2 ∧ x11_l2 < (List.length a0 : Int)) (if (List.length a1 : Int) ≤ x11_l2 then (some 1) else (need ((0 : Int) ≤ x11_l2 ∧ x11_l2 < (List.length a1 : Int)) (bnd1 (m_cmp_Compare_int (gi a0 x11_l2) (gi a1 x11_l2)) (fun y20 => if ¬ y20 = 0 then (some y20) else (rec2 (i64 (x11_l2 + 1)))))))) else (k1 ())
noncomputable def m_slices_Compare_L_int_int_L2 (a0 : List Int) (a1 : List Int) (k1 : Unit → Option Int) : Nat → Int → Option Int
  | 0, _ => none
  | n + 1, x11_l2 => m_slices_Compare_L_int_int_B2 a0 a1 k1 (m_slices_Compare_L_int_int_L2 a0 a1 k1 n) x11_l2
noncomputable def m_slices_Compare_L_int_int (a0 : List Int) (a1 : List Int) : Option Int :=
  jn (fun (_ : Unit) => if (List.length a0 : Int) < (List.length a1 : Int) then (some (-1)) else (some 0)) (fun k1 => m_slices_Compare_L_int_int_L2 a0 a1 k1 FU 0)
/- cspcheck.frontier.compare -/
noncomputable def m_frontier_compare (a0 : Int × Int) (a1 : Int × Int) : Option Int :=
  bnd1 (m_slices_Compare_L_int_int [a0.1, a0.2] [a1.1, a1.2]) (fun y1 => some y1)
/- cspcheck.frontier.isRun -/
noncomputable def m_frontier_isRun_B2 (a0 : List (Int × Int)) (k1 : Unit → Option Bool) (rec2 : Int → Option Bool) (x7_l2 : Int) : Option Bool :=
  if x7_l2 < (List.length a0 : Int) then (need ((0 : Int) ≤ x7_l2 ∧ x7_l2 < (List.length a0 : Int)) (jn (fun (x28_j110 : Bool) => if x28_j110 then (some false) else (rec2 (i64 (x7_l2 + 1)))) (fun k110 => bnd1 (m_frontier_isPair ((gi a0 x7_l2).1, (gi a0 x7_l2).2)) (fun y114 => if !y114 then (k110 true) else (if 0 < x7_l2 then (need ((0 : Int) ≤ i64 (x7_l2 - 1) ∧ (i64 (x7_l2 - 1)) < (List.length a0 : Int)) (bnd1 (m_frontier_compare (gi a0 (i64 (x7_l2 - 1))) ((gi a0 x7_l2).1, (gi a0 x7_l2).2)) (fun y116 => k110 (decide (0 ≤ y116))))) else (k110 false)))))) else (k1 ())
noncomputable def m_frontier_isRun_L2 (a0 : List (Int × Int)) (k1 : Unit → Option Bool) : Nat → Int → Option Bool
  | 0, _ => none
  | n + 1, x7_l2 => m_frontier_isRun_B2 a0 k1 (m_frontier_isRun_L2 a0 k1 n) x7_l2
noncomputable def m_frontier_isRun (a0 : List (Int × Int)) : Option Bool :=
  jn (fun (_ : Unit) => some true) (fun k1 => m_frontier_isRun_L2 a0 k1 FU 0)
/- cspcheck.frontier.isBlock -/
noncomputable def m_frontier_isBlock (a0 : List (Int × Int)) : Option Bool :=
  jn (fun (x2_j1 : Bool) => some x2_j1) (fun k1 => if 1 ≤ (List.length a0 : Int) then (if (List.length a0 : Int) ≤ 1024 then (bnd1 (m_frontier_isRun a0) (fun y3 => k1 y3)) else (k1 false)) else (k1 false))
/- cspcheck.codec.AppendUvarint -/
noncomputable def m_codec_AppendUvarint_B2 (k1 : (List UInt8) → Int → Option (List UInt8)) (rec2 : (List UInt8) → Int → Option (List UInt8)) (x0_l2 : List UInt8) (x1_l2 : Int) : Option (List UInt8) :=
  if 128 ≤ x1_l2 then (need (List.length x0_l2 + List.length [u8i (bOr .i64 (bAnd .i64 x1_l2 127) 128)] ≤ 137438953472) (rec2 (x0_l2 ++ [u8i (bOr .i64 (bAnd .i64 x1_l2 127) 128)]) (Int.fdiv x1_l2 (2 ^ min (Int.toNat 7) IntKind.i64.bits)))) else (k1 x0_l2 x1_l2)
noncomputable def m_codec_AppendUvarint_L2 (k1 : (List UInt8) → Int → Option (List UInt8)) : Nat → (List UInt8) → Int → Option (List UInt8)
  | 0, _, _ => none
  | n + 1, x0_l2, x1_l2 => m_codec_AppendUvarint_B2 k1 (m_codec_AppendUvarint_L2 k1 n) x0_l2 x1_l2
noncomputable def m_codec_AppendUvarint (a0 : List UInt8) (a1 : Int) : Option (List UInt8) :=
  jn (fun (x0_j1 : List UInt8) (x1_j1 : Int) => need (List.length x0_j1 + List.length [u8i x1_j1] ≤ 137438953472) (some (x0_j1 ++ [u8i x1_j1]))) (fun k1 => m_codec_AppendUvarint_L2 k1 FU a0 a1)
/- cspcheck.codec.AppendSum -/
noncomputable def m_codec_AppendSum (a0 : List UInt8) (a1 : Int) : Option (List UInt8) :=
  need ((0 : Int) ≤ a1 ∧ a1 ≤ (List.length a0 : Int) ∧ (List.length a0 : Int) ≤ (List.length a0 : Int)) (bnd1 (m_codec_Checksum (List.take (Int.toNat (List.length a0 : Int) - Int.toNat a1) (List.drop (Int.toNat a1) a0))) (fun y2 => need (List.length a0 + List.length [u8i (Int.fdiv y2 (2 ^ min (Int.toNat 24) IntKind.u32.bits)), u8i (Int.fdiv y2 (2 ^ min (Int.toNat 16) IntKind.u32.bits)), u8i (Int.fdiv y2 (2 ^ min (Int.toNat 8) IntKind.u32.bits)), u8i y2] ≤ 137438953472) (some (a0 ++ [u8i (Int.fdiv y2 (2 ^ min (Int.toNat 24) IntKind.u32.bits)), u8i (Int.fdiv y2 (2 ^ min (Int.toNat 16) IntKind.u32.bits)), u8i (Int.fdiv y2 (2 ^ min (Int.toNat 8) IntKind.u32.bits)), u8i y2]))))
/- cspcheck.frontier.encode -/
noncomputable def m_frontier_encode_B2 (a0 : List (Int × Int)) (k4 : (List UInt8) → Option (List UInt8)) (rec2 : (List UInt8) → Int → Option (List UInt8)) (x3_l2 : List UInt8) (x12_l2 : Int) : Option (List UInt8) :=
  if x12_l2 < (List.length a0 : Int) then (jn (fun (x3_j141 : List UInt8) => rec2 x3_j141 (i64 (x12_l2 + 1))) (fun k141 => need ((0 : Int) ≤ x12_l2 ∧ x12_l2 < (List.length a0 : Int)) (jn (fun (x6_0_j158 : Int) (x6_1_j158 : Int) => bnd1 (m_codec_AppendUvarint x3_l2 (i64 (((gi a0 x12_l2).1) - x6_0_j158))) (fun y161 => jn (fun (x40_j163 : Bool) => if x40_j163 then (bnd1 (m_codec_AppendUvarint y161 (i64 ((i64 (((gi a0 x12_l2).2) - x6_1_j158)) - 1))) (fun y164 => k141 y164)) else (bnd1 (m_codec_AppendUvarint y161 ((gi a0 x12_l2).2)) (fun y166 => k141 y166))) (fun k163 => if 0 < x12_l2 then (k163 (decide (((gi a0 x12_l2).1) = x6_0_j158))) else (k163 false)))) (fun k158 => if 0 < x12_l2 then (need ((0 : Int) ≤ i64 (x12_l2 - 1) ∧ (i64 (x12_l2 - 1)) < (List.length a0 : Int)) (k158 ((gi a0 (i64 (x12_l2 - 1))).1) ((gi a0 (i64 (x12_l2 - 1))).2))) else (k158 ((0, 0).1) ((0, 0).2)))))) else (k4 x3_l2)
noncomputable def m_frontier_encode_L2 (a0 : List (Int × Int)) (k4 : (List UInt8) → Option (List UInt8)) : Nat → (List UInt8) → Int → Option (List UInt8)
  | 0, _, _ => none
  | n + 1, x3_l2, x12_l2 => m_frontier_encode_B2 a0 k4 (m_frontier_encode_L2 a0 k4 n) x3_l2 x12_l2
noncomputable def m_frontier_encode (a0 : List (Int × Int)) : Option (List UInt8) :=
  bnd1 (m_codec_AppendUvarint [] (List.length a0 : Int)) (fun y2 => jn (fun (x3_j4 : List UInt8) => bnd1 (m_codec_AppendSum x3_j4 0) (fun y168 => some y168)) (fun k4 => m_frontier_encode_L2 a0 k4 FU y2 0))
/- bytes.Equal -/
noncomputable def m_bytes_Equal (a0 : List UInt8) (a1 : List UInt8) : Option Bool :=
  some (decide (a0 = a1))
/- cspcheck.frontier.DecodeBlock -/
noncomputable def m_frontier_DecodeBlock_B26 (a0 : List UInt8) (k572 : Int → Int → Int → Int → Option ((List (Int × Int)) × Int × Int)) (rec26 : Int → Int → Int → Int → Int → Option ((List (Int × Int)) × Int × Int)) (x8_l26 : Int) (x9_l26 : Int) (x12_0_l26 : Int) (x12_1_l26 : Int) (x13_l26 : Int) : Option ((List (Int × Int)) × Int × Int) :=
  jn (fun (x55_j609 : Bool) => if x55_j609 then (bnd1 (m_frontier_number a0 x8_l26) (fun y610 => need ((0 : Int) ≤ x13_l26 ∧ x13_l26 < 2) (rec26 y610.2.1 y610.2.2 (if x13_l26 = 0 then y610.1 else x12_0_l26) (if x13_l26 = 0 then x12_1_l26 else y610.1) (i64 (x13_l26 + 1))))) else (k572 x8_l26 x9_l26 x12_0_l26 x12_1_l26)) (fun k609 => if x13_l26 < 2 then (k609 (decide (x9_l26 = 0))) else (k609 false))
noncomputable def m_frontier_DecodeBlock_L26 (a0 : List UInt8) (k572 : Int → Int → Int → Int → Option ((List (Int × Int)) × Int × Int)) : Nat → Int → Int → Int → Int → Int → Option ((List (Int × Int)) × Int × Int)
  | 0, _, _, _, _, _ => none
  | n + 1, x8_l26, x9_l26, x12_0_l26, x12_1_l26, x13_l26 => m_frontier_DecodeBlock_B26 a0 k572 (m_frontier_DecodeBlock_L26 a0 k572 n) x8_l26 x9_l26 x12_0_l26 x12_1_l26 x13_l26
noncomputable def m_frontier_DecodeBlock_B14 (a0 : List UInt8) (y4 : Int × Int × Int) (k8 : Int → Int → (List (Int × Int)) → Option ((List (Int × Int)) × Int × Int)) (rec14 : Int → Int → (List (Int × Int)) → Int → Option ((List (Int × Int)) × Int × Int)) (x8_l14 : Int) (x9_l14 : Int) (x10_l14 : List (Int × Int)) (x11_l14 : Int) : Option ((List (Int × Int)) × Int × Int) :=
  jn (fun (x47_j518 : Bool) => if x47_j518 then (jn (fun (x8_j519 : Int) (x9_j519 : Int) (x10_j519 : List (Int × Int)) => rec14 x8_j519 x9_j519 x10_j519 (i64 (x11_l14 + 1))) (fun k519 => jn (fun (x8_j572 : Int) (x9_j572 : Int) (x12_0_j572 : Int) (x12_1_j572 : Int) => jn (fun (x12_0_j612 : Int) (x12_1_j612 : Int) => need (List.length x10_l14 + List.length [(x12_0_j612, x12_1_j612)] ≤ 137438953472) (k519 x8_j572 x9_j572 (x10_l14 ++ [(x12_0_j612, x12_1_j612)]))) (fun k612 => if 0 < x11_l14 then (need ((0 : Int) ≤ i64 (x11_l14 - 1) ∧ (i64 (x11_l14 - 1)) < (List.length x10_l14 : Int)) (jn (fun (x12_1_j618 : Int) => k612 (i64 (x12_0_j572 + ((gi x10_l14 (i64 (x11_l14 - 1))).1))) x12_1_j618) (fun k618 => if x12_0_j572 = 0 then (k618 (i64 (x12_1_j572 + (i64 (((gi x10_l14 (i64 (x11_l14 - 1))).2) + 1))))) else (k618 x12_1_j572)))) else (k612 x12_0_j572 x12_1_j572))) (fun k572 => m_frontier_DecodeBlock_L26 a0 k572 FU x8_l14 x9_l14 ((0, 0).1) ((0, 0).2) 0))) else (k8 x8_l14 x9_l14 x10_l14)) (fun k518 => if x11_l14 < y4.1 then (k518 (decide (x9_l14 = 0))) else (k518 false))
noncomputable def m_frontier_DecodeBlock_L14 (a0 : List UInt8) (y4 : Int × Int × Int) (k8 : Int → Int → (List (Int × Int)) → Option ((List (Int × Int)) × Int × Int)) : Nat → Int → Int → (List (Int × Int)) → Int → Option ((List (Int × Int)) × Int × Int)
  | 0, _, _, _, _ => none
  | n + 1, x8_l14, x9_l14, x10_l14, x11_l14 => m_frontier_DecodeBlock_B14 a0 y4 k8 (m_frontier_DecodeBlock_L14 a0 y4 k8 n) x8_l14 x9_l14 x10_l14 x11_l14
noncomputable def m_frontier_DecodeBlock (a0 : List UInt8) (a1 : Int) : Option ((List (Int × Int)) × Int × Int) :=
  jn (fun (x23_j3 : Bool) => if x23_j3 then (some ([], 0, 1)) else (bnd1 (m_frontier_number a0 a1) (fun y4 => jn (fun (x9_j5 : Int) => jn (fun (x8_j8 : Int) (x9_j8 : Int) (x10_j8 : List (Int × Int)) => if ¬ x9_j8 = 0 then (some ([], 0, x9_j8)) else (if (i64 ((List.length a0 : Int) - x8_j8)) < 4 then (some ([], 0, 23)) else (need ((0 : Int) ≤ a1 ∧ a1 ≤ i64 (x8_j8 + 4) ∧ (i64 (x8_j8 + 4)) ≤ (List.length a0 : Int)) (bnd1 (m_codec_Sealed (List.take (Int.toNat (i64 (x8_j8 + 4)) - Int.toNat a1) (List.drop (Int.toNat a1) a0))) (fun y632 => if !y632 then (some ([], 0, 24)) else (jn (fun (x114_j633 : Bool) => if x114_j633 then (some ([], 0, 22)) else (some (x10_j8, i64 (x8_j8 + 4), 0))) (fun k633 => bnd1 (m_frontier_isBlock x10_j8) (fun y637 => if !y637 then (k633 true) else (bnd1 (m_frontier_encode x10_j8) (fun y638 => bnd1 (m_bytes_Equal y638 (List.take (Int.toNat (i64 (x8_j8 + 4)) - Int.toNat a1) (List.drop (Int.toNat a1) a0))) (fun y639 => k633 (!y639)))))))))))) (fun k8 => m_frontier_DecodeBlock_L14 a0 y4 k8 FU y4.2.1 x9_j5 [] 0)) (fun k5 => jn (fun (x40_j7 : Bool) => if x40_j7 then (k5 22) else (k5 y4.2.2)) (fun k7 => if y4.2.2 = 0 then (if y4.1 < 1 then (k7 true) else (k7 (decide (1024 < y4.1)))) else (k7 false)))))) (fun k3 => if a1 < 0 then (k3 true) else (k3 (decide ((List.length a0 : Int) < a1))))
/- cspcheck.cspcheckref23.Checksum -/
noncomputable def m_ref23_Checksum_B14 (k58 : Int → Option Int) (rec14 : Int → Int → Option Int) (x3_l14 : Int) (x5_l14 : Int) : Option Int :=
  if x5_l14 < 8 then (jn (fun (x3_j67 : Int) => rec14 x3_j67 (i64 (x5_l14 + 1))) (fun k67 => if (Int.tmod x3_l14 2) = 1 then (k67 (bXor .u32 (Int.fdiv x3_l14 (2 ^ min (Int.toNat 1) IntKind.u32.bits)) 3988292384)) else (k67 (Int.fdiv x3_l14 (2 ^ min (Int.toNat 1) IntKind.u32.bits))))) else (k58 x3_l14)
noncomputable def m_ref23_Checksum_L14 (k58 : Int → Option Int) : Nat → Int → Int → Option Int
  | 0, _, _ => none
  | n + 1, x3_l14, x5_l14 => m_ref23_Checksum_B14 k58 (m_ref23_Checksum_L14 k58 n) x3_l14 x5_l14
noncomputable def m_ref23_Checksum_B8 (a0 : List UInt8) (k1 : Int → Option Int) (rec8 : Int → Int → Option Int) (x3_l8 : Int) (x4_l8 : Int) : Option Int :=
  if x4_l8 < (List.length a0 : Int) then (jn (fun (x3_j58 : Int) => rec8 x3_j58 (i64 (x4_l8 + 1))) (fun k58 => need ((0 : Int) ≤ x4_l8 ∧ x4_l8 < (List.length a0 : Int)) (m_ref23_Checksum_L14 k58 FU (bXor .u32 x3_l8 (UInt8.toNat (gi a0 x4_l8) : Int)) 0))) else (k1 x3_l8)
noncomputable def m_ref23_Checksum_L8 (a0 : List UInt8) (k1 : Int → Option Int) : Nat → Int → Int → Option Int
  | 0, _, _ => none
  | n + 1, x3_l8, x4_l8 => m_ref23_Checksum_B8 a0 k1 (m_ref23_Checksum_L8 a0 k1 n) x3_l8 x4_l8
noncomputable def m_ref23_Checksum (a0 : List UInt8) : Option Int :=
  jn (fun (x3_j1 : Int) => some (bXor .u32 4294967295 x3_j1)) (fun k1 => m_ref23_Checksum_L8 a0 k1 FU 4294967295 0)
/- cspcheck.cspcheckref23.Sealed -/
noncomputable def m_ref23_Sealed (a0 : List UInt8) : Option (List UInt8) :=
  bnd1 (m_ref23_Checksum a0) (fun y1 => need (List.length ([] : List UInt8) + List.length a0 ≤ 137438953472) (need (List.length (([] : List UInt8) ++ a0) + List.length [u8i (Int.fdiv y1 (2 ^ min (Int.toNat 24) IntKind.u32.bits)), u8i (Int.fdiv y1 (2 ^ min (Int.toNat 16) IntKind.u32.bits)), u8i (Int.fdiv y1 (2 ^ min (Int.toNat 8) IntKind.u32.bits)), u8i y1] ≤ 137438953472) (some ((([] : List UInt8) ++ a0) ++ [u8i (Int.fdiv y1 (2 ^ min (Int.toNat 24) IntKind.u32.bits)), u8i (Int.fdiv y1 (2 ^ min (Int.toNat 16) IntKind.u32.bits)), u8i (Int.fdiv y1 (2 ^ min (Int.toNat 8) IntKind.u32.bits)), u8i y1]))))
/- cspcheck.cspcheckref35.IsRun -/
noncomputable def m_ref35_IsRun_B2 (a0 : List (Int × Int)) (k1 : Unit → Option Bool) (rec2 : Int → Option Bool) (x3_l2 : Int) : Option Bool :=
  if x3_l2 < (List.length a0 : Int) then (jn (fun (x32_j130 : Bool) => if x32_j130 then (some false) else (rec2 (i64 (x3_l2 + 1)))) (fun k130 => need ((0 : Int) ≤ x3_l2 ∧ x3_l2 < (List.length a0 : Int)) (bnd1 (m_ref35_isPair (gi a0 x3_l2)) (fun y137 => if !y137 then (k130 true) else (if 0 < x3_l2 then (need ((0 : Int) ≤ i64 (x3_l2 - 1) ∧ (i64 (x3_l2 - 1)) < (List.length a0 : Int)) (need ((0 : Int) ≤ x3_l2 ∧ x3_l2 < (List.length a0 : Int)) (bnd1 (m_ref35_Less (gi a0 (i64 (x3_l2 - 1))) (gi a0 x3_l2)) (fun y140 => k130 (!y140))))) else (k130 false)))))) else (k1 ())
noncomputable def m_ref35_IsRun_L2 (a0 : List (Int × Int)) (k1 : Unit → Option Bool) : Nat → Int → Option Bool
  | 0, _ => none
  | n + 1, x3_l2 => m_ref35_IsRun_B2 a0 k1 (m_ref35_IsRun_L2 a0 k1 n) x3_l2
noncomputable def m_ref35_IsRun (a0 : List (Int × Int)) : Option Bool :=
  jn (fun (_ : Unit) => some true) (fun k1 => m_ref35_IsRun_L2 a0 k1 FU 0)
/- cspcheck.cspcheckref23.Uvarint -/
noncomputable def m_ref23_Uvarint_B2 (k1 : (List UInt8) → Int → Option (List UInt8)) (rec2 : (List UInt8) → Int → Option (List UInt8)) (x0_l2 : List UInt8) (x1_l2 : Int) : Option (List UInt8) :=
  if 128 ≤ x1_l2 then (need (List.length x0_l2 + List.length [u8i (i64 ((Int.tmod x1_l2 128) + 128))] ≤ 137438953472) (rec2 (x0_l2 ++ [u8i (i64 ((Int.tmod x1_l2 128) + 128))]) (i64 (Int.tdiv x1_l2 128)))) else (k1 x0_l2 x1_l2)
noncomputable def m_ref23_Uvarint_L2 (k1 : (List UInt8) → Int → Option (List UInt8)) : Nat → (List UInt8) → Int → Option (List UInt8)
  | 0, _, _ => none
  | n + 1, x0_l2, x1_l2 => m_ref23_Uvarint_B2 k1 (m_ref23_Uvarint_L2 k1 n) x0_l2 x1_l2
noncomputable def m_ref23_Uvarint (a0 : List UInt8) (a1 : Int) : Option (List UInt8) :=
  jn (fun (x0_j1 : List UInt8) (x1_j1 : Int) => need (List.length x0_j1 + List.length [u8i x1_j1] ≤ 137438953472) (some (x0_j1 ++ [u8i x1_j1]))) (fun k1 => m_ref23_Uvarint_L2 k1 FU a0 a1)
/- cspcheck.cspcheckref35.EncodeBlock -/
noncomputable def m_ref35_EncodeBlock_B2 (a0 : List (Int × Int)) (k11 : (List UInt8) → Option ((List UInt8) × Int)) (rec2 : (List UInt8) → Int → Option ((List UInt8) × Int)) (x4_l2 : List UInt8) (x5_l2 : Int) : Option ((List UInt8) × Int) :=
  if x5_l2 < (List.length a0 : Int) then (jn (fun (x4_j228 : List UInt8) => rec2 x4_j228 (i64 (x5_l2 + 1))) (fun k228 => if x5_l2 = 0 then (need ((0 : Int) ≤ 0 ∧ 0 < (List.length a0 : Int)) (need ((0 : Int) ≤ 0 ∧ 0 < (List.length a0 : Int)) (bnd1 (m_ref23_Uvarint x4_l2 ((gi a0 0).1)) (fun y252 => bnd1 (m_ref23_Uvarint y252 ((gi a0 0).2)) (fun y254 => k228 y254))))) else (need ((0 : Int) ≤ x5_l2 ∧ x5_l2 < (List.length a0 : Int)) (need ((0 : Int) ≤ i64 (x5_l2 - 1) ∧ (i64 (x5_l2 - 1)) < (List.length a0 : Int)) (if ((gi a0 x5_l2).1) = ((gi a0 (i64 (x5_l2 - 1))).1) then (need ((0 : Int) ≤ x5_l2 ∧ x5_l2 < (List.length a0 : Int)) (need ((0 : Int) ≤ i64 (x5_l2 - 1) ∧ (i64 (x5_l2 - 1)) < (List.length a0 : Int)) (bnd1 (m_ref23_Uvarint x4_l2 0) (fun y260 => bnd1 (m_ref23_Uvarint y260 (i64 ((i64 (((gi a0 x5_l2).2) - ((gi a0 (i64 (x5_l2 - 1))).2))) - 1))) (fun y262 => k228 y262))))) else (need ((0 : Int) ≤ x5_l2 ∧ x5_l2 < (List.length a0 : Int)) (need ((0 : Int) ≤ i64 (x5_l2 - 1) ∧ (i64 (x5_l2 - 1)) < (List.length a0 : Int)) (need ((0 : Int) ≤ x5_l2 ∧ x5_l2 < (List.length a0 : Int)) (bnd1 (m_ref23_Uvarint x4_l2 (i64 (((gi a0 x5_l2).1) - ((gi a0 (i64 (x5_l2 - 1))).1)))) (fun y267 => bnd1 (m_ref23_Uvarint y267 ((gi a0 x5_l2).2)) (fun y269 => k228 y269))))))))))) else (k11 x4_l2)
noncomputable def m_ref35_EncodeBlock_L2 (a0 : List (Int × Int)) (k11 : (List UInt8) → Option ((List UInt8) × Int)) : Nat → (List UInt8) → Int → Option ((List UInt8) × Int)
  | 0, _, _ => none
  | n + 1, x4_l2, x5_l2 => m_ref35_EncodeBlock_B2 a0 k11 (m_ref35_EncodeBlock_L2 a0 k11 n) x4_l2 x5_l2
noncomputable def m_ref35_EncodeBlock (a0 : List (Int × Int)) : Option ((List UInt8) × Int) :=
  jn (fun (x18_j5 : Bool) => if x18_j5 then (some ([], 1)) else (bnd1 (m_ref23_Uvarint [] (List.length a0 : Int)) (fun y9 => jn (fun (x4_j11 : List UInt8) => bnd1 (m_ref23_Sealed x4_j11) (fun y271 => some (y271, 0))) (fun k11 => m_ref35_EncodeBlock_L2 a0 k11 FU y9 0)))) (fun k5 => bnd1 (m_ref35_IsRun a0) (fun y7 => if !y7 then (k5 true) else (if (List.length a0 : Int) < 1 then (k5 true) else (k5 (decide (1024 < (List.length a0 : Int)))))))
/- cspcheck.cspcheckref35.DecodeBlock -/
noncomputable def m_ref35_DecodeBlock_B2 (a0 : List UInt8) (y4 : Int × Int × Int) (k8 : Int → Int → (List (Int × Int)) → Option ((List (Int × Int)) × Int × Int)) (rec2 : Int → Int → (List (Int × Int)) → Int → Option ((List (Int × Int)) × Int × Int)) (x8_l2 : Int) (x9_l2 : Int) (x10_l2 : List (Int × Int)) (x11_l2 : Int) : Option ((List (Int × Int)) × Int × Int) :=
  jn (fun (x47_j134 : Bool) => if x47_j134 then (jn (fun (x8_j135 : Int) (x9_j135 : Int) (x10_j135 : List (Int × Int)) => rec2 x8_j135 x9_j135 x10_j135 (i64 (x11_l2 + 1))) (fun k135 => bnd1 (m_ref35_uvarint a0 x8_l2) (fun y149 => jn (fun (x8_j150 : Int) (x9_j150 : Int) (x13_j150 : Int) => if x11_l2 = 0 then (need (List.length x10_l2 + List.length [(y149.1, x13_j150)] ≤ 137438953472) (k135 x8_j150 x9_j150 (x10_l2 ++ [(y149.1, x13_j150)]))) else (if y149.1 = 0 then (need ((0 : Int) ≤ i64 (x11_l2 - 1) ∧ (i64 (x11_l2 - 1)) < (List.length x10_l2 : Int)) (need ((0 : Int) ≤ i64 (x11_l2 - 1) ∧ (i64 (x11_l2 - 1)) < (List.length x10_l2 : Int)) (need (List.length x10_l2 + List.length [((gi x10_l2 (i64 (x11_l2 - 1))).1, i64 ((i64 (((gi x10_l2 (i64 (x11_l2 - 1))).2) + 1)) + x13_j150))] ≤ 137438953472) (k135 x8_j150 x9_j150 (x10_l2 ++ [((gi x10_l2 (i64 (x11_l2 - 1))).1, i64 ((i64 (((gi x10_l2 (i64 (x11_l2 - 1))).2) + 1)) + x13_j150))]))))) else (need ((0 : Int) ≤ i64 (x11_l2 - 1) ∧ (i64 (x11_l2 - 1)) < (List.length x10_l2 : Int)) (need (List.length x10_l2 + List.length [(i64 (((gi x10_l2 (i64 (x11_l2 - 1))).1) + y149.1), x13_j150)] ≤ 137438953472) (k135 x8_j150 x9_j150 (x10_l2 ++ [(i64 (((gi x10_l2 (i64 (x11_l2 - 1))).1) + y149.1), x13_j150)])))))) (fun k150 => if y149.2.2 = 0 then (bnd1 (m_ref35_uvarint a0 y149.2.1) (fun y152 => k150 y152.2.1 y152.2.2 y152.1)) else (k150 y149.2.1 y149.2.2 0))))) else (k8 x8_l2 x9_l2 x10_l2)) (fun k134 => if x11_l2 < y4.1 then (k134 (decide (x9_l2 = 0))) else (k134 false))
noncomputable def m_ref35_DecodeBlock_L2 (a0 : List UInt8) (y4 : Int × Int × Int) (k8 : Int → Int → (List (Int × Int)) → Option ((List (Int × Int)) × Int × Int)) : Nat → Int → Int → (List (Int × Int)) → Int → Option ((List (Int × Int)) × Int × Int)
  | 0, _, _, _, _ => none
  | n + 1, x8_l2, x9_l2, x10_l2, x11_l2 => m_ref35_DecodeBlock_B2 a0 y4 k8 (m_ref35_DecodeBlock_L2 a0 y4 k8 n) x8_l2 x9_l2 x10_l2 x11_l2
noncomputable def m_ref35_DecodeBlock (a0 : List UInt8) (a1 : Int) : Option ((List (Int × Int)) × Int × Int) :=
  jn (fun (x23_j3 : Bool) => if x23_j3 then (some ([], 0, 1)) else (bnd1 (m_ref35_uvarint a0 a1) (fun y4 => jn (fun (x9_j5 : Int) => jn (fun (x8_j8 : Int) (x9_j8 : Int) (x10_j8 : List (Int × Int)) => if ¬ x9_j8 = 0 then (some ([], 0, x9_j8)) else (if (List.length a0 : Int) < (i64 (x8_j8 + 4)) then (some ([], 0, 23)) else (need ((0 : Int) ≤ a1 ∧ a1 ≤ x8_j8 ∧ x8_j8 ≤ (List.length a0 : Int)) (bnd1 (m_ref23_Sealed (List.take (Int.toNat x8_j8 - Int.toNat a1) (List.drop (Int.toNat a1) a0))) (fun y163 => need ((0 : Int) ≤ a1 ∧ a1 ≤ i64 (x8_j8 + 4) ∧ (i64 (x8_j8 + 4)) ≤ (List.length a0 : Int)) (if ¬ y163 = (List.take (Int.toNat (i64 (x8_j8 + 4)) - Int.toNat a1) (List.drop (Int.toNat a1) a0)) then (some ([], 0, 24)) else (bnd1 (m_ref35_EncodeBlock x10_j8) (fun y165 => jn (fun (x148_j170 : Bool) => if x148_j170 then (some ([], 0, 22)) else (some (x10_j8, i64 (x8_j8 + 4), 0))) (fun k170 => if ¬ y165.2 = 0 then (k170 true) else (need ((0 : Int) ≤ a1 ∧ a1 ≤ i64 (x8_j8 + 4) ∧ (i64 (x8_j8 + 4)) ≤ (List.length a0 : Int)) (k170 (decide (¬ y165.1 = (List.take (Int.toNat (i64 (x8_j8 + 4)) - Int.toNat a1) (List.drop (Int.toNat a1) a0))))))))))))))) (fun k8 => m_ref35_DecodeBlock_L2 a0 y4 k8 FU y4.2.1 x9_j5 [] 0)) (fun k5 => jn (fun (x40_j7 : Bool) => if x40_j7 then (k5 22) else (k5 y4.2.2)) (fun k7 => if y4.2.2 = 0 then (if y4.1 < 1 then (k7 true) else (k7 (decide (1024 < y4.1)))) else (k7 false)))))) (fun k3 => if a1 < 0 then (k3 true) else (k3 (decide ((List.length a0 : Int) < a1))))
/- cspcheck.cspchecklaw36.same -/
noncomputable def m_law36_same_B2 (a0 : List (Int × Int)) (a1 : List (Int × Int)) (k1 : Unit → Option Bool) (rec2 : Int → Option Bool) (x5_l2 : Int) : Option Bool :=
  if x5_l2 < (List.length a0 : Int) then (need ((0 : Int) ≤ x5_l2 ∧ x5_l2 < (List.length a0 : Int)) (need ((0 : Int) ≤ x5_l2 ∧ x5_l2 < (List.length a1 : Int)) (if ¬ (gi a0 x5_l2) = (gi a1 x5_l2) then (some false) else (rec2 (i64 (x5_l2 + 1)))))) else (k1 ())
noncomputable def m_law36_same_L2 (a0 : List (Int × Int)) (a1 : List (Int × Int)) (k1 : Unit → Option Bool) : Nat → Int → Option Bool
  | 0, _ => none
  | n + 1, x5_l2 => m_law36_same_B2 a0 a1 k1 (m_law36_same_L2 a0 a1 k1 n) x5_l2
noncomputable def m_law36_same (a0 : List (Int × Int)) (a1 : List (Int × Int)) : Option Bool :=
  if ¬ (List.length a0 : Int) = (List.length a1 : Int) then (some false) else (jn (fun (_ : Unit) => some true) (fun k1 => m_law36_same_L2 a0 a1 k1 FU 0))
/- cspcheck.cspcheckref35.Subtract -/
noncomputable def m_ref35_Subtract_B2 (a0 : List (Int × Int)) (a1 : List (Int × Int)) (k12 : (List (Int × Int)) → Option (List (Int × Int))) (rec2 : (List (Int × Int)) → Int → Option (List (Int × Int))) (x5_l2 : List (Int × Int)) (x6_l2 : Int) : Option (List (Int × Int)) :=
  if x6_l2 < (List.length a0 : Int) then (jn (fun (x5_j69 : List (Int × Int)) => rec2 x5_j69 (i64 (x6_l2 + 1))) (fun k69 => need ((0 : Int) ≤ x6_l2 ∧ x6_l2 < (List.length a0 : Int)) (bnd1 (m_ref35_Has a1 (gi a0 x6_l2)) (fun y76 => if !y76 then (need ((0 : Int) ≤ x6_l2 ∧ x6_l2 < (List.length a0 : Int)) (need (List.length x5_l2 + List.length [gi a0 x6_l2] ≤ 137438953472) (k69 (x5_l2 ++ [gi a0 x6_l2])))) else (k69 x5_l2))))) else (k12 x5_l2)
noncomputable def m_ref35_Subtract_L2 (a0 : List (Int × Int)) (a1 : List (Int × Int)) (k12 : (List (Int × Int)) → Option (List (Int × Int))) : Nat → (List (Int × Int)) → Int → Option (List (Int × Int))
  | 0, _, _ => none
  | n + 1, x5_l2, x6_l2 => m_ref35_Subtract_B2 a0 a1 k12 (m_ref35_Subtract_L2 a0 a1 k12 n) x5_l2 x6_l2
noncomputable def m_ref35_Subtract (a0 : List (Int × Int)) (a1 : List (Int × Int)) : Option (List (Int × Int)) :=
  jn (fun (x14_j7 : Bool) => if x14_j7 then (some []) else (jn (fun (x5_j12 : List (Int × Int)) => some x5_j12) (fun k12 => m_ref35_Subtract_L2 a0 a1 k12 FU [] 0))) (fun k7 => bnd1 (m_ref35_IsRun a0) (fun y10 => if !y10 then (k7 true) else (bnd1 (m_ref35_IsRun a1) (fun y11 => k7 (!y11)))))
/- cspcheck.cspcheckref35.Merge -/
noncomputable def m_ref35_Merge_B2 (a1 : List (Int × Int)) (k15 : (List (Int × Int)) → Option (List (Int × Int))) (rec2 : (List (Int × Int)) → Int → Option (List (Int × Int))) (x5_l2 : List (Int × Int)) (x6_l2 : Int) : Option (List (Int × Int)) :=
  if x6_l2 < (List.length a1 : Int) then (need ((0 : Int) ≤ x6_l2 ∧ x6_l2 < (List.length a1 : Int)) (bnd1 (m_ref35_Add x5_l2 (gi a1 x6_l2)) (fun y33 => rec2 y33 (i64 (x6_l2 + 1))))) else (k15 x5_l2)
noncomputable def m_ref35_Merge_L2 (a1 : List (Int × Int)) (k15 : (List (Int × Int)) → Option (List (Int × Int))) : Nat → (List (Int × Int)) → Int → Option (List (Int × Int))
  | 0, _, _ => none
  | n + 1, x5_l2, x6_l2 => m_ref35_Merge_B2 a1 k15 (m_ref35_Merge_L2 a1 k15 n) x5_l2 x6_l2
noncomputable def m_ref35_Merge (a0 : List (Int × Int)) (a1 : List (Int × Int)) : Option (List (Int × Int)) :=
  jn (fun (x14_j7 : Bool) => if x14_j7 then (some []) else (need (List.length ([] : List (Int × Int)) + List.length a0 ≤ 137438953472) (jn (fun (x5_j15 : List (Int × Int)) => some x5_j15) (fun k15 => m_ref35_Merge_L2 a1 k15 FU (([] : List (Int × Int)) ++ a0) 0)))) (fun k7 => bnd1 (m_ref35_IsRun a0) (fun y10 => if !y10 then (k7 true) else (bnd1 (m_ref35_IsRun a1) (fun y11 => k7 (!y11)))))
/- slices.BinarySearchFunc(()(2)int,(2)int,(2)int) -/
noncomputable def m_slices_BinarySearchFunc_L_2_int_2_int_2_int_B2 (a0 : List (Int × Int)) (a1 : Int × Int) (a2 : (Int × Int) → (Int × Int) → Option Int) (k1 : Int → Option (Int × Bool)) (rec2 : Int → Int → Option (Int × Bool)) (x9_l2 : Int) (x10_l2 : Int) : Option (Int × Bool) :=
  if x9_l2 < x10_l2 then (need ((0 : Int) ≤ i64 (Int.fdiv (IntKind.u64.wrap (i64 (x9_l2 + x10_l2))) (2 ^ min (Int.toNat 1) IntKind.u64.bits)) ∧ (i64 (Int.fdiv (IntKind.u64.wrap (i64 (x9_l2 + x10_l2))) (2 ^ min (Int.toNat 1) IntKind.u64.bits))) < (List.length a0 : Int)) (bnd1 (a2 (gi a0 (i64 (Int.fdiv (IntKind.u64.wrap (i64 (x9_l2 + x10_l2))) (2 ^ min (Int.toNat 1) IntKind.u64.bits)))) a1) (fun y14 => if y14 < 0 then (rec2 (i64 ((i64 (Int.fdiv (IntKind.u64.wrap (i64 (x9_l2 + x10_l2))) (2 ^ min (Int.toNat 1) IntKind.u64.bits))) + 1)) x10_l2) else (rec2 x9_l2 (i64 (Int.fdiv (IntKind.u64.wrap (i64 (x9_l2 + x10_l2))) (2 ^ min (Int.toNat 1) IntKind.u64.bits))))))) else (k1 x9_l2)
noncomputable def m_slices_BinarySearchFunc_L_2_int_2_int_2_int_L2 (a0 : List (Int × Int)) (a1 : Int × Int) (a2 : (Int × Int) → (Int × Int) → Option Int) (k1 : Int → Option (Int × Bool)) : Nat → Int → Int → Option (Int × Bool)
  | 0, _, _ => none
  | n + 1, x9_l2, x10_l2 => m_slices_BinarySearchFunc_L_2_int_2_int_2_int_B2 a0 a1 a2 k1 (m_slices_BinarySearchFunc_L_2_int_2_int_2_int_L2 a0 a1 a2 k1 n) x9_l2 x10_l2
noncomputable def m_slices_BinarySearchFunc_L_2_int_2_int_2_int (a0 : List (Int × Int)) (a1 : Int × Int) (a2 : (Int × Int) → (Int × Int) → Option Int) : Option (Int × Bool) :=
  jn (fun (x9_j1 : Int) => jn (fun (x7_j15 : Bool) => some (x9_j1, x7_j15)) (fun k15 => if x9_j1 < (List.length a0 : Int) then (need ((0 : Int) ≤ x9_j1 ∧ x9_j1 < (List.length a0 : Int)) (bnd1 (a2 (gi a0 x9_j1) a1) (fun y19 => k15 (decide (y19 = 0))))) else (k15 false))) (fun k1 => m_slices_BinarySearchFunc_L_2_int_2_int_2_int_L2 a0 a1 a2 k1 FU 0 (List.length a0 : Int))
/- cspcheck.frontier.Subtract -/
noncomputable def m_frontier_Subtract_B2 (a0 : List (Int × Int)) (a1 : List (Int × Int)) (k12 : (List (Int × Int)) → Option (List (Int × Int))) (rec2 : (List (Int × Int)) → Int → Option (List (Int × Int))) (x5_l2 : List (Int × Int)) (x20_l2 : Int) : Option (List (Int × Int)) :=
  if x20_l2 < (List.length a0 : Int) then (jn (fun (x5_j69 : List (Int × Int)) => rec2 x5_j69 (i64 (x20_l2 + 1))) (fun k69 => need ((0 : Int) ≤ x20_l2 ∧ x20_l2 < (List.length a0 : Int)) (bnd1 (m_slices_BinarySearchFunc_L_2_int_2_int_2_int a1 ((gi a0 x20_l2).1, (gi a0 x20_l2).2) m_frontier_compare) (fun y77 => if !y77.2 then (need (List.length x5_l2 + List.length [((gi a0 x20_l2).1, (gi a0 x20_l2).2)] ≤ 137438953472) (k69 (x5_l2 ++ [((gi a0 x20_l2).1, (gi a0 x20_l2).2)]))) else (k69 x5_l2))))) else (k12 x5_l2)
noncomputable def m_frontier_Subtract_L2 (a0 : List (Int × Int)) (a1 : List (Int × Int)) (k12 : (List (Int × Int)) → Option (List (Int × Int))) : Nat → (List (Int × Int)) → Int → Option (List (Int × Int))
  | 0, _, _ => none
  | n + 1, x5_l2, x20_l2 => m_frontier_Subtract_B2 a0 a1 k12 (m_frontier_Subtract_L2 a0 a1 k12 n) x5_l2 x20_l2
noncomputable def m_frontier_Subtract (a0 : List (Int × Int)) (a1 : List (Int × Int)) : Option (List (Int × Int)) :=
  jn (fun (x17_j7 : Bool) => if x17_j7 then (some []) else (jn (fun (x5_j12 : List (Int × Int)) => some x5_j12) (fun k12 => m_frontier_Subtract_L2 a0 a1 k12 FU [] 0))) (fun k7 => bnd1 (m_frontier_isRun a0) (fun y10 => if !y10 then (k7 true) else (bnd1 (m_frontier_isRun a1) (fun y11 => k7 (!y11)))))
/- cspcheck.frontier.EncodeBlock -/
noncomputable def m_frontier_EncodeBlock (a0 : List (Int × Int)) : Option ((List UInt8) × Int) :=
  bnd1 (m_frontier_isBlock a0) (fun y1 => if !y1 then (some ([], 1)) else (bnd1 (m_frontier_encode a0) (fun y2 => some (y2, 0))))
/- cspcheck.cspchecklaw36.sane -/
noncomputable def m_law36_sane  : Option Bool :=
  bnd1 (m_frontier_EncodeBlock [(0, 5), (0, 7), (2, 1)]) (fun y1 => jn (fun (x0_j2 : Bool) => some x0_j2) (fun k2 => if y1.2 = 0 then (if (List.length y1.1 : Int) = 11 then (need (7 ≤ (List.length y1.1 : Int)) (k2 (decide ((List.take (Int.toNat 7) y1.1) = [3, 0, 5, 0, 1, 2, 1])))) else (k2 false)) else (k2 false)))
/- (*cspcheck.cspcheckgen2.Tape).Next -/
noncomputable def m_gen2_Tape_Next (a0 : (List Int) × Int) (a1 : Int) : Option (Int × ((List Int) × Int)) :=
  jn (fun (x5_j1 : Int) => if a1 < 1 then (some (0, (a0.1, i64 (a0.2 + 1)))) else (need (a1 ≠ 0) (jn (fun (x5_j5 : Int) => some (x5_j5, (a0.1, i64 (a0.2 + 1)))) (fun k5 => if (Int.tmod x5_j1 a1) < 0 then (k5 (i64 ((Int.tmod x5_j1 a1) + a1))) else (k5 (Int.tmod x5_j1 a1)))))) (fun k1 => if a0.2 < (List.length a0.1 : Int) then (need ((0 : Int) ≤ a0.2 ∧ a0.2 < (List.length a0.1 : Int)) (k1 (gi a0.1 a0.2))) else (k1 (i64 ((i64 (5 * a0.2)) + 3))))
/- cspcheck.cspchecklaw36.pairs -/
noncomputable def m_law36_pairs_B2 (k1 : (List Int) → Int → (List (Int × Int)) → Option ((List (Int × Int)) × ((List Int) × Int))) (rec2 : (List Int) → Int → (List (Int × Int)) → Int → Option ((List (Int × Int)) × ((List Int) × Int))) (x0_0_l2 : List Int) (x0_1_l2 : Int) (x5_l2 : List (Int × Int)) (x6_l2 : Int) : Option ((List (Int × Int)) × ((List Int) × Int)) :=
  if 0 < x6_l2 then (bnd1 (m_gen2_Tape_Next (x0_0_l2, x0_1_l2) 4) (fun y35 => bnd1 (m_gen2_Tape_Next (y35.2.1, y35.2.2) 2) (fun y36 => bnd1 (m_gen2_Tape_Next (y36.2.1, y36.2.2) 6) (fun y37 => bnd1 (m_gen2_Tape_Next (y37.2.1, y37.2.2) 3) (fun y38 => need (List.length x5_l2 + List.length [(i64 (y35.1 * (i64 (1 + (i64 (200 * y36.1))))), i64 (y37.1 * (i64 (1 + (i64 (90 * y38.1))))))] ≤ 137438953472) (rec2 y38.2.1 y38.2.2 (x5_l2 ++ [(i64 (y35.1 * (i64 (1 + (i64 (200 * y36.1))))), i64 (y37.1 * (i64 (1 + (i64 (90 * y38.1))))))]) (i64 (x6_l2 - 1)))))))) else (k1 x0_0_l2 x0_1_l2 x5_l2)
noncomputable def m_law36_pairs_L2 (k1 : (List Int) → Int → (List (Int × Int)) → Option ((List (Int × Int)) × ((List Int) × Int))) : Nat → (List Int) → Int → (List (Int × Int)) → Int → Option ((List (Int × Int)) × ((List Int) × Int))
  | 0, _, _, _, _ => none
  | n + 1, x0_0_l2, x0_1_l2, x5_l2, x6_l2 => m_law36_pairs_B2 k1 (m_law36_pairs_L2 k1 n) x0_0_l2 x0_1_l2 x5_l2 x6_l2
noncomputable def m_law36_pairs (a0 : (List Int) × Int) (a1 : Int) : Option ((List (Int × Int)) × ((List Int) × Int)) :=
  jn (fun (x0_0_j1 : List Int) (x0_1_j1 : Int) (x5_j1 : List (Int × Int)) => some (x5_j1, (x0_0_j1, x0_1_j1))) (fun k1 => bnd1 (m_gen2_Tape_Next (a0.1, a0.2) (i64 (a1 + 1))) (fun y22 => m_law36_pairs_L2 k1 FU y22.2.1 y22.2.2 [] y22.1))
/- (*cspcheck.cspcheckgen2.Tape).Bytes -/
noncomputable def m_gen2_Tape_Bytes (a0 : (List Int) × Int) (a1 : List UInt8) : Option ((List UInt8) × ((List Int) × Int)) :=
  need (List.length ([] : List UInt8) + List.length a1 ≤ 137438953472) (if (List.length (([] : List UInt8) ++ a1) : Int) = 0 then (bnd1 (m_gen2_Tape_Next (a0.1, a0.2) 256) (fun y4 => some ([u8i y4.1], (y4.2.1, y4.2.2)))) else (bnd1 (m_gen2_Tape_Next (a0.1, a0.2) (List.length (([] : List UInt8) ++ a1) : Int)) (fun y5 => jn (fun (x0_0_j6 : List Int) (x0_1_j6 : Int) (x5_j6 : List UInt8) => some (x5_j6, (x0_0_j6, x0_1_j6))) (fun k6 => bnd1 (m_gen2_Tape_Next (y5.2.1, y5.2.2) 4) (fun y20 => if y20.1 = 0 then (need ((0 : Int) ≤ y5.1 ∧ y5.1 < (List.length (([] : List UInt8) ++ a1) : Int)) (bnd1 (m_gen2_Tape_Next (y20.2.1, y20.2.2) 255) (fun y22 => need ((0 : Int) ≤ y5.1 ∧ y5.1 < (List.length (([] : List UInt8) ++ a1) : Int)) (k6 y22.2.1 y22.2.2 (List.set (([] : List UInt8) ++ a1) (Int.toNat y5.1) ((gi (([] : List UInt8) ++ a1) y5.1) ^^^ (u8i (i64 (1 + y22.1))))))))) else (if y20.1 = 1 then (need ((0 : Int) ≤ y5.1 ∧ y5.1 ≤ (List.length (([] : List UInt8) ++ a1) : Int)) (k6 y20.2.1 y20.2.2 (List.take (Int.toNat y5.1) (([] : List UInt8) ++ a1)))) else (if y20.1 = 2 then (bnd1 (m_gen2_Tape_Next (y20.2.1, y20.2.2) 256) (fun y26 => need (List.length (([] : List UInt8) ++ a1) + List.length [u8i y26.1] ≤ 137438953472) (k6 y26.2.1 y26.2.2 ((([] : List UInt8) ++ a1) ++ [u8i y26.1])))) else (need ((0 : Int) ≤ 0 ∧ 0 ≤ y5.1 ∧ y5.1 ≤ (List.length (([] : List UInt8) ++ a1) : Int)) (need ((0 : Int) ≤ i64 (y5.1 + 1) ∧ (i64 (y5.1 + 1)) ≤ (List.length (([] : List UInt8) ++ a1) : Int) ∧ (List.length (([] : List UInt8) ++ a1) : Int) ≤ (List.length (([] : List UInt8) ++ a1) : Int)) (need (y5.1 ≤ i64 (y5.1 + 1)) (k6 y20.2.1 y20.2.2 (List.take (Int.toNat y5.1) (([] : List UInt8) ++ a1) ++ List.take (Int.toNat (List.length (([] : List UInt8) ++ a1) : Int) - Int.toNat (i64 (y5.1 + 1))) (List.drop (Int.toNat (i64 (y5.1 + 1))) (([] : List UInt8) ++ a1))))))))))))))
/- cspcheck.cspcheckgen2.New -/
noncomputable def m_gen2_New (a0 : List Int) : Option ((List Int) × Int) :=
  some ((a0, 0).1, (a0, 0).2)
/- cspcheck.cspchecklaw36.decodes -/
noncomputable def m_law36_decodes (a0 : List UInt8) (a1 : Int) : Option Bool :=
  bnd1 (m_frontier_DecodeBlock a0 a1) (fun y1 => bnd1 (m_ref35_DecodeBlock a0 a1) (fun y2 => jn (fun (x4_j3 : Bool) => some x4_j3) (fun k3 => if y1.2.2 = y2.2.2 then (if y1.2.1 = y2.2.1 then (bnd1 (m_law36_same y1.1 y2.1) (fun y5 => k3 y5)) else (k3 false)) else (k3 false))))
/- cspcheck.cspchecklaw36.run -/
noncomputable def m_law36_run (a0 : (List Int) × Int) (a1 : Int) : Option ((List (Int × Int)) × ((List Int) × Int)) :=
  bnd1 (m_law36_pairs (a0.1, a0.2) a1) (fun y1 => bnd1 (m_ref35_Sorted y1.1) (fun y2 => some (y2, (y1.2.1, y1.2.2))))
/- cspcheck.cspchecklaw36.FrontierDecode -/
noncomputable def m_law36_FrontierDecode_B2 (a2 : Int) (k3 : Unit → Option Bool) (rec2 : (List Int) → Int → Int → Option Bool) (x7_0_l2 : List Int) (x7_1_l2 : Int) (x8_l2 : Int) : Option Bool :=
  if x8_l2 < 5 then (bnd1 (m_law36_run (x7_0_l2, x7_1_l2) 6) (fun y419 => bnd1 (m_ref35_Subtract y419.1 [(0, 0)]) (fun y421 => need (List.length [(0, 0)] + List.length y421 ≤ 137438953472) (bnd1 (m_ref35_EncodeBlock ([(0, 0)] ++ y421)) (fun y424 => bnd1 (m_gen2_Tape_Next (y419.2.1, y419.2.2) 300) (fun y425 => bnd1 (m_ref35_EncodeBlock [(1, y425.1), (900, 2)]) (fun y426 => need (List.length ([] : List UInt8) + List.length y424.1 ≤ 137438953472) (need (List.length (([] : List UInt8) ++ y424.1) + List.length y426.1 ≤ 137438953472) (need (0 ≤ i64 ((List.length y424.1 : Int) - 4) ∧ (i64 ((List.length y424.1 : Int) - 4)) ≤ (List.length y424.1 : Int)) (bnd1 (m_gen2_Tape_Bytes (y425.2.1, y425.2.2) (List.take (Int.toNat (i64 ((List.length y424.1 : Int) - 4))) y424.1)) (fun y433 => jn (fun (x7_0_j434 : List Int) (x7_1_j434 : Int) (x98_j434 : Bool) => if x98_j434 then (some false) else (rec2 x7_0_j434 x7_1_j434 (i64 (x8_l2 + 1)))) (fun k434 => bnd1 (m_law36_decodes ((([] : List UInt8) ++ y424.1) ++ y426.1) 0) (fun y445 => if !y445 then (k434 y433.2.1 y433.2.2 true) else (bnd1 (m_law36_decodes ((([] : List UInt8) ++ y424.1) ++ y426.1) (List.length y424.1 : Int)) (fun y446 => if !y446 then (k434 y433.2.1 y433.2.2 true) else (bnd1 (m_law36_decodes ((([] : List UInt8) ++ y424.1) ++ y426.1) (List.length ((([] : List UInt8) ++ y424.1) ++ y426.1) : Int)) (fun y447 => if !y447 then (k434 y433.2.1 y433.2.2 true) else (bnd1 (m_gen2_Tape_Next (y433.2.1, y433.2.2) (List.length ((([] : List UInt8) ++ y424.1) ++ y426.1) : Int)) (fun y448 => bnd1 (m_law36_decodes ((([] : List UInt8) ++ y424.1) ++ y426.1) y448.1) (fun y449 => if !y449 then (k434 y448.2.1 y448.2.2 true) else (bnd1 (m_gen2_Tape_Bytes (y448.2.1, y448.2.2) ((([] : List UInt8) ++ y424.1) ++ y426.1)) (fun y450 => bnd1 (m_law36_decodes y450.1 0) (fun y451 => if !y451 then (k434 y450.2.1 y450.2.2 true) else (bnd1 (m_ref23_Sealed y433.1) (fun y452 => bnd1 (m_law36_decodes y452 0) (fun y453 => if !y453 then (k434 y450.2.1 y450.2.2 true) else (bnd1 (m_law36_decodes ((([] : List UInt8) ++ y424.1) ++ y426.1) a2) (fun y454 => k434 y450.2.1 y450.2.2 (!y454))))))))))))))))))))))))))))) else (k3 ())
noncomputable def m_law36_FrontierDecode_L2 (a2 : Int) (k3 : Unit → Option Bool) : Nat → (List Int) → Int → Int → Option Bool
  | 0, _, _, _ => none
  | n + 1, x7_0_l2, x7_1_l2, x8_l2 => m_law36_FrontierDecode_B2 a2 k3 (m_law36_FrontierDecode_L2 a2 k3 n) x7_0_l2 x7_1_l2 x8_l2
noncomputable def m_law36_FrontierDecode (a0 : List Int) (a1 : List UInt8) (a2 : Int) : Option Bool :=
  bnd1 (m_gen2_New a0) (fun y1 => jn (fun (_ : Unit) => jn (fun (x6_j455 : Bool) => some x6_j455) (fun k455 => if 300 < (List.length a1 : Int) then (k455 true) else (bnd1 (m_law36_decodes a1 a2) (fun y460 => if y460 then (bnd1 (m_ref23_Sealed a1) (fun y461 => bnd1 (m_law36_decodes y461 0) (fun y462 => if y462 then (bnd1 (m_law36_sane) (fun y463 => k455 y463)) else (k455 false)))) else (k455 false))))) (fun k3 => m_law36_FrontierDecode_L2 a2 k3 FU y1.1 y1.2 0))
/- slices.Clone(()(2)int,(2)int) -/
noncomputable def m_slices_Clone_L_2_int_2_int (a0 : List (Int × Int)) : Option (List (Int × Int)) :=
  nilc (a0 = []) (some []) (need (List.length ([] : List (Int × Int)) + List.length a0 ≤ 137438953472) (some (([] : List (Int × Int)) ++ a0)))
/- slices.Compact(()(2)int,(2)int) -/
noncomputable def m_slices_Compact_L_2_int_2_int_B26 (a0 : List (Int × Int)) (x3_l14 : Int) (k694 : (List (Int × Int)) → Int → Option (List (Int × Int))) (rec26 : (List (Int × Int)) → Int → Int → Option (List (Int × Int))) (x0_l26 : List (Int × Int)) (x3_l26 : Int) (x5_l26 : Int) : Option (List (Int × Int)) :=
  if x5_l26 < ((Int.toNat (List.length a0 : Int) - Int.toNat x3_l14 : Nat) : Int) then (jn (fun (x0_j741 : List (Int × Int)) (x3_j741 : Int) => rec26 x0_j741 x3_j741 (i64 (x5_l26 + 1))) (fun k741 => need ((0 : Int) ≤ x3_l14 ∧ (0 : Int) ≤ x5_l26 ∧ x5_l26 < (List.length a0 : Int) - x3_l14 ∧ (0 : Int) ≤ (x3_l14 + x5_l26) ∧ (x3_l14 + x5_l26) < (List.length x0_l26 : Int)) (need ((0 : Int) ≤ x3_l14 ∧ (0 : Int) ≤ i64 (x5_l26 - 1) ∧ (i64 (x5_l26 - 1)) < (List.length a0 : Int) - x3_l14 ∧ (0 : Int) ≤ (x3_l14 + (i64 (x5_l26 - 1))) ∧ (x3_l14 + (i64 (x5_l26 - 1))) < (List.length x0_l26 : Int)) (if ¬ (gi x0_l26 (x3_l14 + x5_l26)) = (gi x0_l26 (x3_l14 + (i64 (x5_l26 - 1)))) then (need ((0 : Int) ≤ x3_l14 ∧ (0 : Int) ≤ x5_l26 ∧ x5_l26 < (List.length a0 : Int) - x3_l14 ∧ (0 : Int) ≤ (x3_l14 + x5_l26) ∧ (x3_l14 + x5_l26) < (List.length x0_l26 : Int)) (need ((0 : Int) ≤ x3_l26 ∧ x3_l26 < (List.length x0_l26 : Int)) (k741 (List.set x0_l26 (Int.toNat x3_l26) (gi x0_l26 (x3_l14 + x5_l26))) (i64 (x3_l26 + 1))))) else (k741 x0_l26 x3_l26))))) else (k694 x0_l26 x3_l26)
noncomputable def m_slices_Compact_L_2_int_2_int_L26 (a0 : List (Int × Int)) (x3_l14 : Int) (k694 : (List (Int × Int)) → Int → Option (List (Int × Int))) : Nat → (List (Int × Int)) → Int → Int → Option (List (Int × Int))
  | 0, _, _, _ => none
  | n + 1, x0_l26, x3_l26, x5_l26 => m_slices_Compact_L_2_int_2_int_B26 a0 x3_l14 k694 (m_slices_Compact_L_2_int_2_int_L26 a0 x3_l14 k694 n) x0_l26 x3_l26 x5_l26
noncomputable def m_slices_Compact_L_2_int_2_int_B14 (a0 : List (Int × Int)) (k1 : Unit → Option (List (Int × Int))) (rec14 : Int → Option (List (Int × Int))) (x3_l14 : Int) : Option (List (Int × Int)) :=
  if x3_l14 < (List.length a0 : Int) then (jn (fun (_ : Unit) => rec14 (i64 (x3_l14 + 1))) (fun k628 => need ((0 : Int) ≤ x3_l14 ∧ x3_l14 < (List.length a0 : Int)) (need ((0 : Int) ≤ i64 (x3_l14 - 1) ∧ (i64 (x3_l14 - 1)) < (List.length a0 : Int)) (if (gi a0 x3_l14) = (gi a0 (i64 (x3_l14 - 1))) then (need ((0 : Int) ≤ x3_l14 ∧ x3_l14 ≤ (List.length a0 : Int) ∧ (List.length a0 : Int) ≤ (List.length a0 : Int)) (jn (fun (x0_j694 : List (Int × Int)) (x3_j694 : Int) => need ((0 : Int) ≤ x3_j694 ∧ x3_j694 ≤ (List.length x0_j694 : Int) ∧ (List.length x0_j694 : Int) ≤ (List.length x0_j694 : Int)) (need (0 ≤ x3_j694 ∧ x3_j694 ≤ (List.length (List.take (Int.toNat x3_j694) x0_j694 ++ List.replicate (Int.toNat (List.length x0_j694 : Int) - Int.toNat x3_j694) ((0, 0) : Int × Int) ++ List.drop (Int.toNat x3_j694 + (Int.toNat (List.length x0_j694 : Int) - Int.toNat x3_j694)) x0_j694) : Int)) (some (List.take (Int.toNat x3_j694) (List.take (Int.toNat x3_j694) x0_j694 ++ List.replicate (Int.toNat (List.length x0_j694 : Int) - Int.toNat x3_j694) ((0, 0) : Int × Int) ++ List.drop (Int.toNat x3_j694 + (Int.toNat (List.length x0_j694 : Int) - Int.toNat x3_j694)) x0_j694))))) (fun k694 => m_slices_Compact_L_2_int_2_int_L26 a0 x3_l14 k694 FU a0 x3_l14 1))) else (k628 ()))))) else (k1 ())
noncomputable def m_slices_Compact_L_2_int_2_int_L14 (a0 : List (Int × Int)) (k1 : Unit → Option (List (Int × Int))) : Nat → Int → Option (List (Int × Int))
  | 0, _ => none
  | n + 1, x3_l14 => m_slices_Compact_L_2_int_2_int_B14 a0 k1 (m_slices_Compact_L_2_int_2_int_L14 a0 k1 n) x3_l14
noncomputable def m_slices_Compact_L_2_int_2_int (a0 : List (Int × Int)) : Option (List (Int × Int)) :=
  if (List.length a0 : Int) < 2 then (some a0) else (jn (fun (_ : Unit) => some a0) (fun k1 => m_slices_Compact_L_2_int_2_int_L14 a0 k1 FU 1))
/- cspcheck.frontier.Sorted -/
noncomputable def m_frontier_Sorted_B2 (a0 : List (Int × Int)) (k1 : Unit → Option (List (Int × Int))) (rec2 : Int → Option (List (Int × Int))) (x8_l2 : Int) : Option (List (Int × Int)) :=
  if x8_l2 < (List.length a0 : Int) then (need ((0 : Int) ≤ x8_l2 ∧ x8_l2 < (List.length a0 : Int)) (bnd1 (m_frontier_isPair ((gi a0 x8_l2).1, (gi a0 x8_l2).2)) (fun y20 => if !y20 then (some []) else (rec2 (i64 (x8_l2 + 1)))))) else (k1 ())
noncomputable def m_frontier_Sorted_L2 (a0 : List (Int × Int)) (k1 : Unit → Option (List (Int × Int))) : Nat → Int → Option (List (Int × Int))
  | 0, _ => none
  | n + 1, x8_l2 => m_frontier_Sorted_B2 a0 k1 (m_frontier_Sorted_L2 a0 k1 n) x8_l2
noncomputable def m_frontier_Sorted (a0 : List (Int × Int)) : Option (List (Int × Int)) :=
  jn (fun (_ : Unit) => bnd1 (m_slices_Clone_L_2_int_2_int a0) (fun y21 => bnd1 (m_sortP y21) (fun y23 => bnd1 (m_slices_Compact_L_2_int_2_int y23) (fun y24 => some y24)))) (fun k1 => m_frontier_Sorted_L2 a0 k1 FU 0)
/- slices.Grow(()(2)int,(2)int) -/
noncomputable def m_slices_Grow_L_2_int_2_int (a1 : Int) : Option (List (Int × Int)) :=
  if a1 < 0 then (none) else (jn (fun (x0_j2 : List (Int × Int)) => some x0_j2) (fun k2 => if 0 < (i64 (a1 - (i64 (0 - 0)))) then (need ((0 : Int) ≤ i64 (a1 - (i64 (0 - 0))) ∧ (i64 (a1 - (i64 (0 - 0)))) ≤ 137438953472) (need ((0 : Int) ≤ 0 ∧ 0 ≤ (List.length (List.replicate (Int.toNat (i64 (a1 - (i64 (0 - 0))))) ((0, 0) : Int × Int)) : Int)) (k2 (List.take (Int.toNat 0) (List.replicate (Int.toNat (i64 (a1 - (i64 (0 - 0))))) ((0, 0) : Int × Int)))))) else (k2 [])))
/- slices.Concat(()(2)int,(2)int) -/
noncomputable def m_slices_Concat_L_2_int_2_int_B2 (a0 : List (List (Int × Int))) (k1 : Int → Option (List (Int × Int))) (rec2 : Int → Int → Option (List (Int × Int))) (x3_l2 : Int) (x11_l2 : Int) : Option (List (Int × Int)) :=
  if x11_l2 < (List.length a0 : Int) then (need ((0 : Int) ≤ x11_l2 ∧ x11_l2 < (List.length a0 : Int)) (if (i64 (x3_l2 + (List.length (gi a0 x11_l2) : Int))) < 0 then (none) else (rec2 (i64 (x3_l2 + (List.length (gi a0 x11_l2) : Int))) (i64 (x11_l2 + 1))))) else (k1 x3_l2)
noncomputable def m_slices_Concat_L_2_int_2_int_L2 (a0 : List (List (Int × Int))) (k1 : Int → Option (List (Int × Int))) : Nat → Int → Int → Option (List (Int × Int))
  | 0, _, _ => none
  | n + 1, x3_l2, x11_l2 => m_slices_Concat_L_2_int_2_int_B2 a0 k1 (m_slices_Concat_L_2_int_2_int_L2 a0 k1 n) x3_l2 x11_l2
noncomputable def m_slices_Concat_L_2_int_2_int_B4 (a0 : List (List (Int × Int))) (k23 : (List (Int × Int)) → Option (List (Int × Int))) (rec4 : (List (Int × Int)) → Int → Option (List (Int × Int))) (x6_l4 : List (Int × Int)) (x27_l4 : Int) : Option (List (Int × Int)) :=
  if x27_l4 < (List.length a0 : Int) then (need ((0 : Int) ≤ x27_l4 ∧ x27_l4 < (List.length a0 : Int)) (need (List.length x6_l4 + List.length (gi a0 x27_l4) ≤ 137438953472) (rec4 (x6_l4 ++ (gi a0 x27_l4)) (i64 (x27_l4 + 1))))) else (k23 x6_l4)
noncomputable def m_slices_Concat_L_2_int_2_int_L4 (a0 : List (List (Int × Int))) (k23 : (List (Int × Int)) → Option (List (Int × Int))) : Nat → (List (Int × Int)) → Int → Option (List (Int × Int))
  | 0, _, _ => none
  | n + 1, x6_l4, x27_l4 => m_slices_Concat_L_2_int_2_int_B4 a0 k23 (m_slices_Concat_L_2_int_2_int_L4 a0 k23 n) x6_l4 x27_l4
noncomputable def m_slices_Concat_L_2_int_2_int (a0 : List (List (Int × Int))) : Option (List (Int × Int)) :=
  jn (fun (x3_j1 : Int) => bnd1 (m_slices_Grow_L_2_int_2_int x3_j1) (fun y21 => jn (fun (x6_j23 : List (Int × Int)) => some x6_j23) (fun k23 => m_slices_Concat_L_2_int_2_int_L4 a0 k23 FU y21 0))) (fun k1 => m_slices_Concat_L_2_int_2_int_L2 a0 k1 FU 0 0)
/- cspcheck.frontier.Merge -/
noncomputable def m_frontier_Merge (a0 : List (Int × Int)) (a1 : List (Int × Int)) : Option (List (Int × Int)) :=
  jn (fun (x12_j7 : Bool) => if x12_j7 then (some []) else (bnd1 (m_slices_Concat_L_2_int_2_int [a0, a1]) (fun y12 => bnd1 (m_frontier_Sorted y12) (fun y13 => some y13)))) (fun k7 => bnd1 (m_frontier_isRun a0) (fun y10 => if !y10 then (k7 true) else (bnd1 (m_frontier_isRun a1) (fun y11 => k7 (!y11)))))
/- cspcheck.cspchecklaw36.combines -/
noncomputable def m_law36_combines (a0 : List (Int × Int)) (a1 : List (Int × Int)) : Option Bool :=
  jn (fun (x4_j1 : Bool) => some x4_j1) (fun k1 => bnd1 (m_frontier_Sorted a0) (fun y11 => bnd1 (m_ref35_Sorted a0) (fun y12 => bnd1 (m_law36_same y11 y12) (fun y13 => if y13 then (bnd1 (m_frontier_Subtract a0 a1) (fun y14 => bnd1 (m_ref35_Subtract a0 a1) (fun y15 => bnd1 (m_law36_same y14 y15) (fun y16 => if y16 then (bnd1 (m_frontier_Merge a0 a1) (fun y17 => bnd1 (m_ref35_Merge a0 a1) (fun y18 => bnd1 (m_law36_same y17 y18) (fun y19 => k1 y19)))) else (k1 false))))) else (k1 false)))))
/- cspcheck.cspchecklaw36.FrontierSets -/
noncomputable def m_law36_FrontierSets_B2 (k3 : Unit → Option Bool) (rec2 : (List Int) → Int → Int → Option Bool) (x7_0_l2 : List Int) (x7_1_l2 : Int) (x8_l2 : Int) : Option Bool :=
  if x8_l2 < 5 then (bnd1 (m_law36_run (x7_0_l2, x7_1_l2) 9) (fun y242 => bnd1 (m_law36_run (y242.2.1, y242.2.2) 9) (fun y244 => jn (fun (x7_0_j246 : List Int) (x7_1_j246 : Int) (x47_j246 : Bool) => if x47_j246 then (some false) else (rec2 x7_0_j246 x7_1_j246 (i64 (x8_l2 + 1)))) (fun k246 => bnd1 (m_law36_combines y242.1 y244.1) (fun y255 => if !y255 then (k246 y244.2.1 y244.2.2 true) else (bnd1 (m_law36_pairs (y244.2.1, y244.2.2) 8) (fun y256 => bnd1 (m_law36_combines y256.1 y244.1) (fun y257 => if !y257 then (k246 y256.2.1 y256.2.2 true) else (bnd1 (m_law36_pairs (y256.2.1, y256.2.2) 6) (fun y258 => bnd1 (m_law36_combines y242.1 y258.1) (fun y259 => if !y259 then (k246 y258.2.1 y258.2.2 true) else (need (List.length y242.1 + List.length [((-1), 2)] ≤ 137438953472) (bnd1 (m_law36_combines (y242.1 ++ [((-1), 2)]) y244.1) (fun y262 => k246 y258.2.1 y258.2.2 (!y262))))))))))))))) else (k3 ())
noncomputable def m_law36_FrontierSets_L2 (k3 : Unit → Option Bool) : Nat → (List Int) → Int → Int → Option Bool
  | 0, _, _, _ => none
  | n + 1, x7_0_l2, x7_1_l2, x8_l2 => m_law36_FrontierSets_B2 k3 (m_law36_FrontierSets_L2 k3 n) x7_0_l2 x7_1_l2 x8_l2
noncomputable def m_law36_FrontierSets (a0 : List Int) (a1 : List (Int × Int)) (a2 : List (Int × Int)) : Option Bool :=
  bnd1 (m_gen2_New a0) (fun y1 => jn (fun (_ : Unit) => jn (fun (x6_j263 : Bool) => some x6_j263) (fun k263 => if 60 < (List.length a1 : Int) then (k263 true) else (if 60 < (List.length a2 : Int) then (k263 true) else (bnd1 (m_law36_combines a1 a2) (fun y266 => if y266 then (bnd1 (m_law36_sane) (fun y267 => k263 y267)) else (k263 false)))))) (fun k3 => m_law36_FrontierSets_L2 k3 FU y1.1 y1.2 0))
/- cspcheck.cspchecklaw36.FrontierAlgebra -/
noncomputable def m_law36_FrontierAlgebra (a0 : List Int) : Option Bool :=
  bnd1 (m_gen2_New a0) (fun y1 => bnd1 (m_law36_run (y1.1, y1.2) 10) (fun y3 => bnd1 (m_law36_run (y3.2.1, y3.2.2) 10) (fun y5 => bnd1 (m_frontier_Merge y3.1 y5.1) (fun y7 => bnd1 (m_frontier_Subtract y3.1 y5.1) (fun y8 => jn (fun (x2_j9 : Bool) => some x2_j9) (fun k9 => bnd1 (m_frontier_Merge y5.1 y3.1) (fun y25 => bnd1 (m_law36_same y7 y25) (fun y26 => if y26 then (bnd1 (m_frontier_Subtract y7 y5.1) (fun y27 => bnd1 (m_law36_same y27 y8) (fun y28 => if y28 then (bnd1 (m_frontier_Merge y8 y5.1) (fun y29 => bnd1 (m_law36_same y29 y7) (fun y30 => if y30 then (need (List.length ([] : List (Int × Int)) + List.length y5.1 ≤ 137438953472) (need (List.length (([] : List (Int × Int)) ++ y5.1) + List.length y3.1 ≤ 137438953472) (bnd1 (m_frontier_Sorted ((([] : List (Int × Int)) ++ y5.1) ++ y3.1)) (fun y36 => bnd1 (m_law36_same y36 y7) (fun y37 => if y37 then (if (List.length y7 : Int) = (i64 ((List.length y8 : Int) + (List.length y5.1 : Int))) then (bnd1 (m_frontier_Subtract y3.1 y3.1) (fun y38 => if (List.length y38 : Int) = 0 then (bnd1 (m_law36_sane) (fun y39 => k9 y39)) else (k9 false))) else (k9 false)) else (k9 false)))))) else (k9 false)))) else (k9 false)))) else (k9 false)))))))))
end Go.Proofs.Ytkplmgdmkfgjhaa
