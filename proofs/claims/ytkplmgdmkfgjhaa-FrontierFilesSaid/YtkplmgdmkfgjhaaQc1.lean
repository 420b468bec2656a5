/- Models, by program: what the functions compute. -/
import Derived.Test.YtkplmgdmkfgjhaaQc0
namespace Go.Proofs.Ytkplmgdmkfgjhaa

/- cspcheck.cspcheckref35.Has -/
/- cspcheck.cspcheckref35.Less -/
noncomputable def m_ref35_Less (a0 : Int × Int) (a1 : Int × Int) : Option Bool :=
  jn (fun (x4_j1 : Bool) => some x4_j1) (fun k1 => if a0.1 < a1.1 then (k1 true) else (if a0.1 = a1.1 then (k1 (decide (a0.2 < a1.2))) else (k1 false)))
/- cspcheck.cspcheckref35.Add -/
noncomputable def m_ref35_Add_B2 (a0 : List (Int × Int)) (a1 : Int × Int) (k1 : Int → Option (List (Int × Int))) (rec2 : Int → Option (List (Int × Int))) (x5_l2 : Int) : Option (List (Int × Int)) :=
  jn (fun (x18_j64 : Bool) => if x18_j64 then (rec2 (i64 (x5_l2 + 1))) else (k1 x5_l2)) (fun k64 => if x5_l2 < (List.length a0 : Int) then (need ((0 : Int) ≤ x5_l2 ∧ x5_l2 < (List.length a0 : Int)) (bnd1 (m_ref35_Less (gi a0 x5_l2) a1) (fun y68 => k64 y68))) else (k64 false))
noncomputable def m_ref35_Add_L2 (a0 : List (Int × Int)) (a1 : Int × Int) (k1 : Int → Option (List (Int × Int))) : Nat → Int → Option (List (Int × Int))
  | 0, _ => none
  | n + 1, x5_l2 => m_ref35_Add_B2 a0 a1 k1 (m_ref35_Add_L2 a0 a1 k1 n) x5_l2
noncomputable def m_ref35_Add (a0 : List (Int × Int)) (a1 : Int × Int) : Option (List (Int × Int)) :=
  jn (fun (x5_j1 : Int) => jn (fun (x32_j73 : Bool) => if x32_j73 then (some a0) else (need (0 ≤ x5_j1 ∧ x5_j1 ≤ (List.length a0 : Int)) (need (List.length ([] : List (Int × Int)) + List.length (List.take (Int.toNat x5_j1) a0) ≤ 137438953472) (need (List.length (([] : List (Int × Int)) ++ (List.take (Int.toNat x5_j1) a0)) + List.length [a1] ≤ 137438953472) (need ((0 : Int) ≤ x5_j1 ∧ x5_j1 ≤ (List.length a0 : Int)) (need (List.length ((([] : List (Int × Int)) ++ (List.take (Int.toNat x5_j1) a0)) ++ [a1]) + List.length (List.drop (Int.toNat x5_j1) a0) ≤ 137438953472) (some (((([] : List (Int × Int)) ++ (List.take (Int.toNat x5_j1) a0)) ++ [a1]) ++ (List.drop (Int.toNat x5_j1) a0))))))))) (fun k73 => if x5_j1 < (List.length a0 : Int) then (need ((0 : Int) ≤ x5_j1 ∧ x5_j1 < (List.length a0 : Int)) (k73 (decide ((gi a0 x5_j1) = a1)))) else (k73 false))) (fun k1 => m_ref35_Add_L2 a0 a1 k1 FU 0)
/- cspcheck.cspcheckref35.isPair -/
noncomputable def m_ref35_isPair (a0 : Int × Int) : Option Bool :=
  jn (fun (x2_j1 : Bool) => some x2_j1) (fun k1 => if 0 ≤ a0.1 then (if a0.1 ≤ 2147483647 then (if 0 ≤ a0.2 then (k1 (decide (a0.2 ≤ 2147483647))) else (k1 false)) else (k1 false)) else (k1 false))
/- cspcheck.cspcheckref35.Sorted -/
noncomputable def m_ref35_Sorted_B2 (a0 : List (Int × Int)) (k1 : Unit → Option (List (Int × Int))) (rec2 : Int → Option (List (Int × Int))) (x4_l2 : Int) : Option (List (Int × Int)) :=
  if x4_l2 < (List.length a0 : Int) then (need ((0 : Int) ≤ x4_l2 ∧ x4_l2 < (List.length a0 : Int)) (bnd1 (m_ref35_isPair (gi a0 x4_l2)) (fun y14 => if !y14 then (some []) else (rec2 (i64 (x4_l2 + 1)))))) else (k1 ())
noncomputable def m_ref35_Sorted_L2 (a0 : List (Int × Int)) (k1 : Unit → Option (List (Int × Int))) : Nat → Int → Option (List (Int × Int))
  | 0, _ => none
  | n + 1, x4_l2 => m_ref35_Sorted_B2 a0 k1 (m_ref35_Sorted_L2 a0 k1 n) x4_l2
noncomputable def m_ref35_Sorted_B4 (a0 : List (Int × Int)) (k15 : (List (Int × Int)) → Option (List (Int × Int))) (rec4 : (List (Int × Int)) → Int → Option (List (Int × Int))) (x3_l4 : List (Int × Int)) (x5_l4 : Int) : Option (List (Int × Int)) :=
  if x5_l4 < (List.length a0 : Int) then (need ((0 : Int) ≤ x5_l4 ∧ x5_l4 < (List.length a0 : Int)) (bnd1 (m_ref35_Add x3_l4 (gi a0 x5_l4)) (fun y28 => rec4 y28 (i64 (x5_l4 + 1))))) else (k15 x3_l4)
noncomputable def m_ref35_Sorted_L4 (a0 : List (Int × Int)) (k15 : (List (Int × Int)) → Option (List (Int × Int))) : Nat → (List (Int × Int)) → Int → Option (List (Int × Int))
  | 0, _, _ => none
  | n + 1, x3_l4, x5_l4 => m_ref35_Sorted_B4 a0 k15 (m_ref35_Sorted_L4 a0 k15 n) x3_l4 x5_l4
noncomputable def m_ref35_Sorted (a0 : List (Int × Int)) : Option (List (Int × Int)) :=
  jn (fun (_ : Unit) => jn (fun (x3_j15 : List (Int × Int)) => some x3_j15) (fun k15 => m_ref35_Sorted_L4 a0 k15 FU [] 0)) (fun k1 => m_ref35_Sorted_L2 a0 k1 FU 0)
/- cspcheck.frontier.number -/
noncomputable def m_frontier_number_B2 (a0 : List UInt8) (a1 : Int) (k1 : Unit → Option (Int × Int × Int)) (rec2 : Int → Int → Option (Int × Int × Int)) (x7_l2 : Int) (x10_l2 : Int) : Option (Int × Int × Int) :=
  if x10_l2 < 5 then (if (List.length a0 : Int) ≤ (i64 (a1 + x10_l2)) then (some (0, 0, 23)) else (need ((0 : Int) ≤ i64 (a1 + x10_l2) ∧ (i64 (a1 + x10_l2)) < (List.length a0 : Int)) (need (¬ (i64 (7 * x10_l2)) < 0) (if (gi a0 (i64 (a1 + x10_l2))) < 128 then (some (bOr .i64 x7_l2 (i64 ((UInt8.toNat ((gi a0 (i64 (a1 + x10_l2))) &&& 127) : Int) * 2 ^ min (Int.toNat (i64 (7 * x10_l2))) IntKind.i64.bits)), i64 ((i64 (a1 + x10_l2)) + 1), 0)) else (rec2 (bOr .i64 x7_l2 (i64 ((UInt8.toNat ((gi a0 (i64 (a1 + x10_l2))) &&& 127) : Int) * 2 ^ min (Int.toNat (i64 (7 * x10_l2))) IntKind.i64.bits))) (i64 (x10_l2 + 1))))))) else (k1 ())
noncomputable def m_frontier_number_L2 (a0 : List UInt8) (a1 : Int) (k1 : Unit → Option (Int × Int × Int)) : Nat → Int → Int → Option (Int × Int × Int)
  | 0, _, _ => none
  | n + 1, x7_l2, x10_l2 => m_frontier_number_B2 a0 a1 k1 (m_frontier_number_L2 a0 a1 k1 n) x7_l2 x10_l2
noncomputable def m_frontier_number (a0 : List UInt8) (a1 : Int) : Option (Int × Int × Int) :=
  jn (fun (_ : Unit) => some (0, 0, 22)) (fun k1 => m_frontier_number_L2 a0 a1 k1 FU 0 0)
/- cspcheck.cspcheckref35.uvarint -/
noncomputable def m_ref35_uvarint_B2 (a0 : List UInt8) (k1 : Int → Option (Int × Int × Int)) (rec2 : Int → Int → Int → Int → Option (Int × Int × Int)) (x1_l2 : Int) (x7_l2 : Int) (x8_l2 : Int) (x9_l2 : Int) : Option (Int × Int × Int) :=
  if x9_l2 < 5 then (if (List.length a0 : Int) ≤ x1_l2 then (some (0, x1_l2, 23)) else (need ((0 : Int) ≤ x1_l2 ∧ x1_l2 < (List.length a0 : Int)) (need ((0 : Int) ≤ i64 ((i64 (x1_l2 + 1)) - 1) ∧ (i64 ((i64 (x1_l2 + 1)) - 1)) < (List.length a0 : Int)) (if (gi a0 (i64 ((i64 (x1_l2 + 1)) - 1))) < 128 then (some (i64 (x7_l2 + (i64 ((Int.tmod (UInt8.toNat (gi a0 x1_l2) : Int) 128) * x8_l2))), i64 (x1_l2 + 1), 0)) else (rec2 (i64 (x1_l2 + 1)) (i64 (x7_l2 + (i64 ((Int.tmod (UInt8.toNat (gi a0 x1_l2) : Int) 128) * x8_l2)))) (i64 (x8_l2 * 128)) (i64 (x9_l2 + 1))))))) else (k1 x1_l2)
noncomputable def m_ref35_uvarint_L2 (a0 : List UInt8) (k1 : Int → Option (Int × Int × Int)) : Nat → Int → Int → Int → Int → Option (Int × Int × Int)
  | 0, _, _, _, _ => none
  | n + 1, x1_l2, x7_l2, x8_l2, x9_l2 => m_ref35_uvarint_B2 a0 k1 (m_ref35_uvarint_L2 a0 k1 n) x1_l2 x7_l2 x8_l2 x9_l2
noncomputable def m_ref35_uvarint (a0 : List UInt8) (a1 : Int) : Option (Int × Int × Int) :=
  jn (fun (x1_j1 : Int) => some (0, x1_j1, 22)) (fun k1 => m_ref35_uvarint_L2 a0 k1 FU a1 0 1 0)
/- cspcheck.codec.Checksum -/
noncomputable def m_codec_Checksum_B14 (k58 : Int → Option Int) (rec14 : Int → Int → Option Int) (x3_l14 : Int) (x16_l14 : Int) : Option Int :=
  if x16_l14 < 8 then (jn (fun (x3_j67 : Int) => rec14 x3_j67 (i64 (x16_l14 + 1))) (fun k67 => if ¬ (bAnd .u32 x3_l14 1) = 0 then (k67 (bXor .u32 (Int.fdiv x3_l14 (2 ^ min (Int.toNat 1) IntKind.u32.bits)) 3988292384)) else (k67 (Int.fdiv x3_l14 (2 ^ min (Int.toNat 1) IntKind.u32.bits))))) else (k58 x3_l14)
noncomputable def m_codec_Checksum_L14 (k58 : Int → Option Int) : Nat → Int → Int → Option Int
  | 0, _, _ => none
  | n + 1, x3_l14, x16_l14 => m_codec_Checksum_B14 k58 (m_codec_Checksum_L14 k58 n) x3_l14 x16_l14
noncomputable def m_codec_Checksum_B8 (a0 : List UInt8) (k1 : Int → Option Int) (rec8 : Int → Int → Option Int) (x3_l8 : Int) (x8_l8 : Int) : Option Int :=
  if x8_l8 < (List.length a0 : Int) then (jn (fun (x3_j58 : Int) => rec8 x3_j58 (i64 (x8_l8 + 1))) (fun k58 => need ((0 : Int) ≤ x8_l8 ∧ x8_l8 < (List.length a0 : Int)) (m_codec_Checksum_L14 k58 FU (bXor .u32 x3_l8 (UInt8.toNat (gi a0 x8_l8) : Int)) 0))) else (k1 x3_l8)
noncomputable def m_codec_Checksum_L8 (a0 : List UInt8) (k1 : Int → Option Int) : Nat → Int → Int → Option Int
  | 0, _, _ => none
  | n + 1, x3_l8, x8_l8 => m_codec_Checksum_B8 a0 k1 (m_codec_Checksum_L8 a0 k1 n) x3_l8 x8_l8
noncomputable def m_codec_Checksum (a0 : List UInt8) : Option Int :=
  jn (fun (x3_j1 : Int) => some (bXor .u32 4294967295 x3_j1)) (fun k1 => m_codec_Checksum_L8 a0 k1 FU 4294967295 0)
/- cspcheck.codec.Sealed -/
noncomputable def m_codec_Sealed (a0 : List UInt8) : Option Bool :=
  if (i64 ((List.length a0 : Int) - 4)) < 0 then (some false) else (need (0 ≤ i64 ((List.length a0 : Int) - 4) ∧ (i64 ((List.length a0 : Int) - 4)) ≤ (List.length a0 : Int)) (bnd1 (m_codec_Checksum (List.take (Int.toNat (i64 ((List.length a0 : Int) - 4))) a0)) (fun y2 => jn (fun (x2_j3 : Bool) => some x2_j3) (fun k3 => need ((0 : Int) ≤ i64 ((List.length a0 : Int) - 4) ∧ (i64 ((List.length a0 : Int) - 4)) < (List.length a0 : Int)) (if (gi a0 (i64 ((List.length a0 : Int) - 4))) = (u8i (Int.fdiv y2 (2 ^ min (Int.toNat 24) IntKind.u32.bits))) then (need ((0 : Int) ≤ i64 ((i64 ((List.length a0 : Int) - 4)) + 1) ∧ (i64 ((i64 ((List.length a0 : Int) - 4)) + 1)) < (List.length a0 : Int)) (if (gi a0 (i64 ((i64 ((List.length a0 : Int) - 4)) + 1))) = (u8i (Int.fdiv y2 (2 ^ min (Int.toNat 16) IntKind.u32.bits))) then (need ((0 : Int) ≤ i64 ((i64 ((List.length a0 : Int) - 4)) + 2) ∧ (i64 ((i64 ((List.length a0 : Int) - 4)) + 2)) < (List.length a0 : Int)) (if (gi a0 (i64 ((i64 ((List.length a0 : Int) - 4)) + 2))) = (u8i (Int.fdiv y2 (2 ^ min (Int.toNat 8) IntKind.u32.bits))) then (need ((0 : Int) ≤ i64 ((i64 ((List.length a0 : Int) - 4)) + 3) ∧ (i64 ((i64 ((List.length a0 : Int) - 4)) + 3)) < (List.length a0 : Int)) (k3 (decide ((gi a0 (i64 ((i64 ((List.length a0 : Int) - 4)) + 3))) = (u8i y2))))) else (k3 false))) else (k3 false))) else (k3 false))))))
/- cspcheck.frontier.isPair -/
noncomputable def m_frontier_isPair (a0 : Int × Int) : Option Bool :=
  jn (fun (x2_j1 : Bool) => some x2_j1) (fun k1 => if 0 ≤ a0.1 then (if 0 ≤ a0.2 then (if a0.1 ≤ 2147483647 then (k1 (decide (a0.2 ≤ 2147483647))) else (k1 false)) else (k1 false)) else (k1 false))
/- cmp.isNaN(int) -/
noncomputable def m_cmp_isNaN_int (a0 : Int) : Option Bool :=
  some (decide (¬ a0 = a0))
/- cmp.Compare(int) -/
noncomputable def m_cmp_Compare_int (a0 : Int) (a1 : Int) : Option Int :=
  bnd1 (m_cmp_isNaN_int a0) (fun y1 => bnd1 (m_cmp_isNaN_int a1) (fun y2 => if y1 then (if y2 then (some 0) else (some (-1))) else (if y2 then (some 1) else (if a0 < a1 then (some (-1)) else (if a1 < a0 then (some 1) else (some 0))))))
/- slices.Compare(()int,int) -/
noncomputable def m_slices_Compare_L_int_int_B2 (a0 : List Int) (a1 : List Int) (k1 : Unit → Option Int) (rec2 : Int → Option Int) (x11_l2 : Int) : Option Int :=
  if x11_l2 < (List.length a0 : Int) then (need ((0 : Int) ≤ x11_l2 ∧ x11_l2 < (List.length a0 : Int)) (if (List.length a1 : Int) ≤ x11_l2 then (some 1) else (need ((0 : Int) ≤ x11_l2 ∧ x11_l2 < (List.length a1 : Int)) (bnd1 (m_cmp_Compare_int (gi a0 x11_l2) (gi a1 x11_l2)) (fun y20 => if ¬ y20 = 0 then (some y20) else (rec2 (i64 (x11_l2 + 1)))))))) else (k1 ())
noncomputable def m_slices_Compare_L_int_int_L2 (a0 : List Int) (a1 : List Int) (k1 : Unit → Option Int) : Nat → Int → Option Int
  | 0, _ => none
  | n + 1, x11_l2 => m_slices_Compare_L_int_int_B2 a0 a1 k1 (m_slices_Compare_L_int_int_L2 a0 a1 k1 n) x11_l2
noncomputable def m_slices_Compare_L_int_int (a0 : List Int) (a1 : List Int) : Option Int :=
  jn (fun (_ : Unit) => if (List.length a0 : Int) < (List.length a1 : Int) then (some (-1)) else (some 0)) (fun k1 => m_slices_Compare_L_int_int_L2 a0 a1 k1 FU 0)
/- cspcheck.frontier.compare -/
noncomputable def m_frontier_compare (a0 : Int × Int) (a1 : Int × Int) : Option Int :=
  bnd1 (m_slices_Compare_L_int_int [a0.1, a0.2] [a1.1, a1.2]) (fun y1 => some y1)
/- cspcheck.frontier.isRun -/
noncomputable def m_frontier_isRun_B2 (a0 : List (Int × Int)) (k1 : Unit → Option Bool) (rec2 : Int → Option Bool) (x7_l2 : Int) : Option Bool :=
  if x7_l2 < (List.length a0 : Int) then (need ((0 : Int) ≤ x7_l2 ∧ x7_l2 < (List.length a0 : Int)) (jn (fun (x28_j110 : Bool) => if x28_j110 then (some false) else (rec2 (i64 (x7_l2 + 1)))) (fun k110 => bnd1 (m_frontier_isPair ((gi a0 x7_l2).1, (gi a0 x7_l2).2)) (fun y114 => if !y114 then (k110 true) else (if 0 < x7_l2 then (need ((0 : Int) ≤ i64 (x7_l2 - 1) ∧ (i64 (x7_l2 - 1)) < (List.length a0 : Int)) (bnd1 (m_frontier_compare (gi a0 (i64 (x7_l2 - 1))) ((gi a0 x7_l2).1, (gi a0 x7_l2).2)) (fun y116 => k110 (decide (0 ≤ y116))))) else (k110 false)))))) else (k1 ())
noncomputable def m_frontier_isRun_L2 (a0 : List (Int × Int)) (k1 : Unit → Option Bool) : Nat → Int → Option Bool
  | 0, _ => none
  | n + 1, x7_l2 => m_frontier_isRun_B2 a0 k1 (m_frontier_isRun_L2 a0 k1 n) x7_l2
noncomputable def m_frontier_isRun (a0 : List (Int × Int)) : Option Bool :=
  jn (fun (_ : Unit) => some true) (fun k1 => m_frontier_isRun_L2 a0 k1 FU 0)
/- cspcheck.frontier.isBlock -/
noncomputable def m_frontier_isBlock (a0 : List (Int × Int)) : Option Bool :=
  jn (fun (x2_j1 : Bool) => some x2_j1) (fun k1 => if 1 ≤ (List.length a0 : Int) then (if (List.length a0 : Int) ≤ 1024 then (bnd1 (m_frontier_isRun a0) (fun y3 => k1 y3)) else (k1 false)) else (k1 false))
/- cspcheck.codec.AppendUvarint -/
noncomputable def m_codec_AppendUvarint_B2 (k1 : (List UInt8) → Int → Option (List UInt8)) (rec2 : (List UInt8) → Int → Option (List UInt8)) (x0_l2 : List UInt8) (x1_l2 : Int) : Option (List UInt8) :=
  if 128 ≤ x1_l2 then (need (List.length x0_l2 + List.length [u8i (bOr .i64 (bAnd .i64 x1_l2 127) 128)] ≤ 137438953472) (rec2 (x0_l2 ++ [u8i (bOr .i64 (bAnd .i64 x1_l2 127) 128)]) (Int.fdiv x1_l2 (2 ^ min (Int.toNat 7) IntKind.i64.bits)))) else (k1 x0_l2 x1_l2)
noncomputable def m_codec_AppendUvarint_L2 (k1 : (List UInt8) → Int → Option (List UInt8)) : Nat → (List UInt8) → Int → Option (List UInt8)
  | 0, _, _ => none
  | n + 1, x0_l2, x1_l2 => m_codec_AppendUvarint_B2 k1 (m_codec_AppendUvarint_L2 k1 n) x0_l2 x1_l2
noncomputable def m_codec_AppendUvarint (a0 : List UInt8) (a1 : Int) : Option (List UInt8) :=
  jn (fun (x0_j1 : List UInt8) (x1_j1 : Int) => need (List.length x0_j1 + List.length [u8i x1_j1] ≤ 137438953472) (some (x0_j1 ++ [u8i x1_j1]))) (fun k1 => m_codec_AppendUvarint_L2 k1 FU a0 a1)
/- cspcheck.codec.AppendSum -/
noncomputable def m_codec_AppendSum (a0 : List UInt8) (a1 : Int) : Option (List UInt8) :=
  need ((0 : Int) ≤ a1 ∧ a1 ≤ (List.length a0 : Int) ∧ (List.length a0 : Int) ≤ (List.length a0 : Int)) (bnd1 (m_codec_Checksum (List.take (Int.toNat (List.length a0 : Int) - Int.toNat a1) (List.drop (Int.toNat a1) a0))) (fun y2 => need (List.length a0 + List.length [u8i (Int.fdiv y2 (2 ^ min (Int.toNat 24) IntKind.u32.bits)), u8i (Int.fdiv y2 (2 ^ min (Int.toNat 16) IntKind.u32.bits)), u8i (Int.fdiv y2 (2 ^ min (Int.toNat 8) IntKind.u32.bits)), u8i y2] ≤ 137438953472) (some (a0 ++ [u8i (Int.fdiv y2 (2 ^ min (Int.toNat 24) IntKind.u32.bits)), u8i (Int.fdiv y2 (2 ^ min (Int.toNat 16) IntKind.u32.bits)), u8i (Int.fdiv y2 (2 ^ min (Int.toNat 8) IntKind.u32.bits)), u8i y2]))))
/- cspcheck.frontier.encode -/
noncomputable def m_frontier_encode_B2 (a0 : List (Int × Int)) (k4 : (List UInt8) → Option (List UInt8)) (rec2 : (List UInt8) → Int → Option (List UInt8)) (x3_l2 : List UInt8) (x12_l2 : Int) : Option (List UInt8) :=
  if x12_l2 < (List.length a0 : Int) then (jn (fun (x3_j141 : List UInt8) => rec2 x3_j141 (i64 (x12_l2 + 1))) (fun k141 => need ((0 : Int) ≤ x12_l2 ∧ x12_l2 < (List.length a0 : Int)) (jn (fun (x6_0_j158 : Int) (x6_1_j158 : Int) => bnd1 (m_codec_AppendUvarint x3_l2 (i64 (((gi a0 x12_l2).1) - x6_0_j158))) (fun y161 => jn (fun (x40_j163 : Bool) => if x40_j163 then (bnd1 (m_codec_AppendUvarint y161 (i64 ((i64 (((gi a0 x12_l2).2) - x6_1_j158)) - 1))) (fun y164 => k141 y164)) else (bnd1 (m_codec_AppendUvarint y161 ((gi a0 x12_l2).2)) (fun y166 => k141 y166))) (fun k163 => if 0 < x12_l2 then (k163 (decide (((gi a0 x12_l2).1) = x6_0_j158))) else (k163 false)))) (fun k158 => if 0 < x12_l2 then (need ((0 : Int) ≤ i64 (x12_l2 - 1) ∧ (i64 (x12_l2 - 1)) < (List.length a0 : Int)) (k158 ((gi a0 (i64 (x12_l2 - 1))).1) ((gi a0 (i64 (x12_l2 - 1))).2))) else (k158 ((0, 0).1) ((0, 0).2)))))) else (k4 x3_l2)
noncomputable def m_frontier_encode_L2 (a0 : List (Int × Int)) (k4 : (List UInt8) → Option (List UInt8)) : Nat → (List UInt8) → Int → Option (List UInt8)
  | 0, _, _ => none
  | n + 1, x3_l2, x12_l2 => m_frontier_encode_B2 a0 k4 (m_frontier_encode_L2 a0 k4 n) x3_l2 x12_l2
noncomputable def m_frontier_encode (a0 : List (Int × Int)) : Option (List UInt8) :=
  bnd1 (m_codec_AppendUvarint [] (List.length a0 : Int)) (fun y2 => jn (fun (x3_j4 : List UInt8) => bnd1 (m_codec_AppendSum x3_j4 0) (fun y168 => some y168)) (fun k4 => m_frontier_encode_L2 a0 k4 FU y2 0))
/- bytes.Equal -/
noncomputable def m_bytes_Equal (a0 : List UInt8) (a1 : List UInt8) : Option Bool :=
  some (decide (a0 = a1))
/- cspcheck.frontier.DecodeBlock -/
noncomputable def m_frontier_DecodeBlock_B26 (a0 : List UInt8) (k572 : Int → Int → Int → Int → Option ((List (Int × Int)) × Int × Int)) (rec26 : Int → Int → Int → Int → Int → Option ((List (Int × Int)) × Int × Int)) (x8_l26 : Int) (x9_l26 : Int) (x12_0_l26 : Int) (x12_1_l26 : Int) (x13_l26 : Int) : Option ((List (Int × Int)) × Int × Int) :=
  jn (fun (x55_j609 : Bool) => if x55_j609 then (bnd1 (m_frontier_number a0 x8_l26) (fun y610 => need ((0 : Int) ≤ x13_l26 ∧ x13_l26 < 2) (rec26 y610.2.1 y610.2.2 (if x13_l26 = 0 then y610.1 else x12_0_l26) (if x13_l26 = 0 then x12_1_l26 else y610.1) (i64 (x13_l26 + 1))))) else (k572 x8_l26 x9_l26 x12_0_l26 x12_1_l26)) (fun k609 => if x13_l26 < 2 then (k609 (decide (x9_l26 = 0))) else (k609 false))
noncomputable def m_frontier_DecodeBlock_L26 (a0 : List UInt8) (k572 : Int → Int → Int → Int → Option ((List (Int × Int)) × Int × Int)) : Nat → Int → Int → Int → Int → Int → Option ((List (Int × Int)) × Int × Int)
  | 0, _, _, _, _, _ => none
  | n + 1, x8_l26, x9_l26, x12_0_l26, x12_1_l26, x13_l26 => m_frontier_DecodeBlock_B26 a0 k572 (m_frontier_DecodeBlock_L26 a0 k572 n) x8_l26 x9_l26 x12_0_l26 x12_1_l26 x13_l26
noncomputable def m_frontier_DecodeBlock_B14 (a0 : List UInt8) (y4 : Int × Int × Int) (k8 : Int → Int → (List (Int × Int)) → Option ((List (Int × Int)) × Int × Int)) (rec14 : Int → Int → (List (Int × Int)) → Int → Option ((List (Int × Int)) × Int × Int)) (x8_l14 : Int) (x9_l14 : Int) (x10_l14 : List (Int × Int)) (x11_l14 : Int) : Option ((List (Int × Int)) × Int × Int) :=
  jn (fun (x47_j518 : Bool) => if x47_j518 then (jn (fun (x8_j519 : Int) (x9_j519 : Int) (x10_j519 : List (Int × Int)) => rec14 x8_j519 x9_j519 x10_j519 (i64 (x11_l14 + 1))) (fun k519 => jn (fun (x8_j572 : Int) (x9_j572 : Int) (x12_0_j572 : Int) (x12_1_j572 : Int) => jn (fun (x12_0_j612 : Int) (x12_1_j612 : Int) => need (List.length x10_l14 + List.length [(x12_0_j612, x12_1_j612)] ≤ 137438953472) (k519 x8_j572 x9_j572 (x10_l14 ++ [(x12_0_j612, x12_1_j612)]))) (fun k612 => if 0 < x11_l14 then (need ((0 : Int) ≤ i64 (x11_l14 - 1) ∧ (i64 (x11_l14 - 1)) < (List.length x10_l14 : Int)) (jn (fun (x12_1_j618 : Int) => k612 (i64 (x12_0_j572 + ((gi x10_l14 (i64 (x11_l14 - 1))).1))) x12_1_j618) (fun k618 => if x12_0_j572 = 0 then (k618 (i64 (x12_1_j572 + (i64 (((gi x10_l14 (i64 (x11_l14 - 1))).2) + 1))))) else (k618 x12_1_j572)))) else (k612 x12_0_j572 x12_1_j572))) (fun k572 => m_frontier_DecodeBlock_L26 a0 k572 FU x8_l14 x9_l14 ((0, 0).1) ((0, 0).2) 0))) else (k8 x8_l14 x9_l14 x10_l14)) (fun k518 => if x11_l14 < y4.1 then (k518 (decide (x9_l14 = 0))) else (k518 false))
noncomputable def m_frontier_DecodeBlock_L14 (a0 : List UInt8) (y4 : Int × Int × Int) (k8 : Int → Int → (List (Int × Int)) → Option ((List (Int × Int)) × Int × Int)) : Nat → Int → Int → (List (Int × Int)) → Int → Option ((List (Int × Int)) × Int × Int)
  | 0, _, _, _, _ => none
  | n + 1, x8_l14, x9_l14, x10_l14, x11_l14 => m_frontier_DecodeBlock_B14 a0 y4 k8 (m_frontier_DecodeBlock_L14 a0 y4 k8 n) x8_l14 x9_l14 x10_l14 x11_l14
noncomputable def m_frontier_DecodeBlock (a0 : List UInt8) (a1 : Int) : Option ((List (Int × Int)) × Int × Int) :=
  jn (fun (x23_j3 : Bool) => if x23_j3 then (some ([], 0, 1)) else (bnd1 (m_frontier_number a0 a1) (fun y4 => jn (fun (x9_j5 : Int) => jn (fun (x8_j8 : Int) (x9_j8 : Int) (x10_j8 : List (Int × Int)) => if ¬ x9_j8 = 0 then (some ([], 0, x9_j8)) else (if (i64 ((List.length a0 : Int) - x8_j8)) < 4 then (some ([], 0, 23)) else (need ((0 : Int) ≤ a1 ∧ a1 ≤ i64 (x8_j8 + 4) ∧ (i64 (x8_j8 + 4)) ≤ (List.length a0 : Int)) (bnd1 (m_codec_Sealed (List.take (Int.toNat (i64 (x8_j8 + 4)) - Int.toNat a1) (List.drop (Int.toNat a1) a0))) (fun y632 => if !y632 then (some ([], 0, 24)) else (jn (fun (x114_j633 : Bool) => if x114_j633 then (some ([], 0, 22)) else (some (x10_j8, i64 (x8_j8 + 4), 0))) (fun k633 => bnd1 (m_frontier_isBlock x10_j8) (fun y637 => if !y637 then (k633 true) else (bnd1 (m_frontier_encode x10_j8) (fun y638 => bnd1 (m_bytes_Equal y638 (List.take (Int.toNat (i64 (x8_j8 + 4)) - Int.toNat a1) (List.drop (Int.toNat a1) a0))) (fun y639 => k633 (!y639)))))))))))) (fun k8 => m_frontier_DecodeBlock_L14 a0 y4 k8 FU y4.2.1 x9_j5 [] 0)) (fun k5 => jn (fun (x40_j7 : Bool) => if x40_j7 then (k5 22) else (k5 y4.2.2)) (fun k7 => if y4.2.2 = 0 then (if y4.1 < 1 then (k7 true) else (k7 (decide (1024 < y4.1)))) else (k7 false)))))) (fun k3 => if a1 < 0 then (k3 true) else (k3 (decide ((List.length a0 : Int) < a1))))
/- cspcheck.cspcheckref23.Checksum -/
noncomputable def m_ref23_Checksum_B14 (k58 : Int → Option Int) (rec14 : Int → Int → Option Int) (x3_l14 : Int) (x5_l14 : Int) : Option Int :=
  if x5_l14 < 8 then (jn (fun (x3_j67 : Int) => rec14 x3_j67 (i64 (x5_l14 + 1))) (fun k67 => if (Int.tmod x3_l14 2) = 1 then (k67 (bXor .u32 (Int.fdiv x3_l14 (2 ^ min (Int.toNat 1) IntKind.u32.bits)) 3988292384)) else (k67 (Int.fdiv x3_l14 (2 ^ min (Int.toNat 1) IntKind.u32.bits))))) else (k58 x3_l14)
noncomputable def m_ref23_Checksum_L14 (k58 : Int → Option Int) : Nat → Int → Int → Option Int
  | 0, _, _ => none
  | n + 1, x3_l14, x5_l14 => m_ref23_Checksum_B14 k58 (m_ref23_Checksum_L14 k58 n) x3_l14 x5_l14
noncomputable def m_ref23_Checksum_B8 (a0 : List UInt8) (k1 : Int → Option Int) (rec8 : Int → Int → Option Int) (x3_l8 : Int) (x4_l8 : Int) : Option Int :=
  if x4_l8 < (List.length a0 : Int) then (jn (fun (x3_j58 : Int) => rec8 x3_j58 (i64 (x4_l8 + 1))) (fun k58 => need ((0 : Int) ≤ x4_l8 ∧ x4_l8 < (List.length a0 : Int)) (m_ref23_Checksum_L14 k58 FU (bXor .u32 x3_l8 (UInt8.toNat (gi a0 x4_l8) : Int)) 0))) else (k1 x3_l8)
noncomputable def m_ref23_Checksum_L8 (a0 : List UInt8) (k1 : Int → Option Int) : Nat → Int → Int → Option Int
  | 0, _, _ => none
  | n + 1, x3_l8, x4_l8 => m_ref23_Checksum_B8 a0 k1 (m_ref23_Checksum_L8 a0 k1 n) x3_l8 x4_l8
noncomputable def m_ref23_Checksum (a0 : List UInt8) : Option Int :=
  jn (fun (x3_j1 : Int) => some (bXor .u32 4294967295 x3_j1)) (fun k1 => m_ref23_Checksum_L8 a0 k1 FU 4294967295 0)
/- cspcheck.cspcheckref23.Sealed -/
noncomputable def m_ref23_Sealed (a0 : List UInt8) : Option (List UInt8) :=
  bnd1 (m_ref23_Checksum a0) (fun y1 => need (List.length ([] : List UInt8) + List.length a0 ≤ 137438953472) (need (List.length (([] : List UInt8) ++ a0) + List.length [u8i (Int.fdiv y1 (2 ^ min (Int.toNat 24) IntKind.u32.bits)), u8i (Int.fdiv y1 (2 ^ min (Int.toNat 16) IntKind.u32.bits)), u8i (Int.fdiv y1 (2 ^ min (Int.toNat 8) IntKind.u32.bits)), u8i y1] ≤ 137438953472) (some ((([] : List UInt8) ++ a0) ++ [u8i (Int.fdiv y1 (2 ^ min (Int.toNat 24) IntKind.u32.bits)), u8i (Int.fdiv y1 (2 ^ min (Int.toNat 16) IntKind.u32.bits)), u8i (Int.fdiv y1 (2 ^ min (Int.toNat 8) IntKind.u32.bits)), u8i y1]))))
/- cspcheck.cspcheckref35.IsRun -/
noncomputable def m_ref35_IsRun_B2 (a0 : List (Int × Int)) (k1 : Unit → Option Bool) (rec2 : Int → Option Bool) (x3_l2 : Int) : Option Bool :=
  if x3_l2 < (List.length a0 : Int) then (jn (fun (x32_j130 : Bool) => if x32_j130 then (some false) else (rec2 (i64 (x3_l2 + 1)))) (fun k130 => need ((0 : Int) ≤ x3_l2 ∧ x3_l2 < (List.length a0 : Int)) (bnd1 (m_ref35_isPair (gi a0 x3_l2)) (fun y137 => if !y137 then (k130 true) else (if 0 < x3_l2 then (need ((0 : Int) ≤ i64 (x3_l2 - 1) ∧ (i64 (x3_l2 - 1)) < (List.length a0 : Int)) (need ((0 : Int) ≤ x3_l2 ∧ x3_l2 < (List.length a0 : Int)) (bnd1 (m_ref35_Less (gi a0 (i64 (x3_l2 - 1))) (gi a0 x3_l2)) (fun y140 => k130 (!y140))))) else (k130 false)))))) else (k1 ())
noncomputable def m_ref35_IsRun_L2 (a0 : List (Int × Int)) (k1 : Unit → Option Bool) : Nat → Int → Option Bool
  | 0, _ => none
  | n + 1, x3_l2 => m_ref35_IsRun_B2 a0 k1 (m_ref35_IsRun_L2 a0 k1 n) x3_l2
noncomputable def m_ref35_IsRun (a0 : List (Int × Int)) : Option Bool :=
  jn (fun (_ : Unit) => some true) (fun k1 => m_ref35_IsRun_L2 a0 k1 FU 0)
/- cspcheck.cspcheckref23.Uvarint -/
noncomputable def m_ref23_Uvarint_B2 (k1 : (List UInt8) → Int → Option (List UInt8)) (rec2 : (List UInt8) → Int → Option (List UInt8)) (x0_l2 : List UInt8) (x1_l2 : Int) : Option (List UInt8) :=
  if 128 ≤ x1_l2 then (need (List.length x0_l2 + List.length [u8i (i64 ((Int.tmod x1_l2 128) + 128))] ≤ 137438953472) (rec2 (x0_l2 ++ [u8i (i64 ((Int.tmod x1_l2 128) + 128))]) (i64 (Int.tdiv x1_l2 128)))) else (k1 x0_l2 x1_l2)
noncomputable def m_ref23_Uvarint_L2 (k1 : (List UInt8) → Int → Option (List UInt8)) : Nat → (List UInt8) → Int → Option (List UInt8)
  | 0, _, _ => none
  | n + 1, x0_l2, x1_l2 => m_ref23_Uvarint_B2 k1 (m_ref23_Uvarint_L2 k1 n) x0_l2 x1_l2
noncomputable def m_ref23_Uvarint (a0 : List UInt8) (a1 : Int) : Option (List UInt8) :=
  jn (fun (x0_j1 : List UInt8) (x1_j1 : Int) => need (List.length x0_j1 + List.length [u8i x1_j1] ≤ 137438953472) (some (x0_j1 ++ [u8i x1_j1]))) (fun k1 => m_ref23_Uvarint_L2 k1 FU a0 a1)
/- cspcheck.cspcheckref35.EncodeBlock -/
noncomputable def m_ref35_EncodeBlock_B2 (a0 : List (Int × Int)) (k11 : (List UInt8) → Option ((List UInt8) × Int)) (rec2 : (List UInt8) → Int → Option ((List UInt8) × Int)) (x4_l2 : List UInt8) (x5_l2 : Int) : Option ((List UInt8) × Int) :=
  if x5_l2 < (List.length a0 : Int) then (jn (fun (x4_j228 : List UInt8) => rec2 x4_j228 (i64 (x5_l2 + 1))) (fun k228 => if x5_l2 = 0 then (need ((0 : Int) ≤ 0 ∧ 0 < (List.length a0 : Int)) (need ((0 : Int) ≤ 0 ∧ 0 < (List.length a0 : Int)) (bnd1 (m_ref23_Uvarint x4_l2 ((gi a0 0).1)) (fun y252 => bnd1 (m_ref23_Uvarint y252 ((gi a0 0).2)) (fun y254 => k228 y254))))) else (need ((0 : Int) ≤ x5_l2 ∧ x5_l2 < (List.length a0 : Int)) (need ((0 : Int) ≤ i64 (x5_l2 - 1) ∧ (i64 (x5_l2 - 1)) < (List.length a0 : Int)) (if ((gi a0 x5_l2).1) = ((gi a0 (i64 (x5_l2 - 1))).1) then (need ((0 : Int) ≤ x5_l2 ∧ x5_l2 < (List.length a0 : Int)) (need ((0 : Int) ≤ i64 (x5_l2 - 1) ∧ (i64 (x5_l2 - 1)) < (List.length a0 : Int)) (bnd1 (m_ref23_Uvarint x4_l2 0) (fun y260 => bnd1 (m_ref23_Uvarint y260 (i64 ((i64 (((gi a0 x5_l2).2) - ((gi a0 (i64 (x5_l2 - 1))).2))) - 1))) (fun y262 => k228 y262))))) else (need ((0 : Int) ≤ x5_l2 ∧ x5_l2 < (List.length a0 : Int)) (need ((0 : Int) ≤ i64 (x5_l2 - 1) ∧ (i64 (x5_l2 - 1)) < (List.length a0 : Int)) (need ((0 : Int) ≤ x5_l2 ∧ x5_l2 < (List.length a0 : Int)) (bnd1 (m_ref23_Uvarint x4_l2 (i64 (((gi a0 x5_l2).1) - ((gi a0 (i64 (x5_l2 - 1))).1)))) (fun y267 => bnd1 (m_ref23_Uvarint y267 ((gi a0 x5_l2).2)) (fun y269 => k228 y269))))))))))) else (k11 x4_l2)
noncomputable def m_ref35_EncodeBlock_L2 (a0 : List (Int × Int)) (k11 : (List UInt8) → Option ((List UInt8) × Int)) : Nat → (List UInt8) → Int → Option ((List UInt8) × Int)
  | 0, _, _ => none
  | n + 1, x4_l2, x5_l2 => m_ref35_EncodeBlock_B2 a0 k11 (m_ref35_EncodeBlock_L2 a0 k11 n) x4_l2 x5_l2
noncomputable def m_ref35_EncodeBlock (a0 : List (Int × Int)) : Option ((List UInt8) × Int) :=
  jn (fun (x18_j5 : Bool) => if x18_j5 then (some ([], 1)) else (bnd1 (m_ref23_Uvarint [] (List.length a0 : Int)) (fun y9 => jn (fun (x4_j11 : List UInt8) => bnd1 (m_ref23_Sealed x4_j11) (fun y271 => some (y271, 0))) (fun k11 => m_ref35_EncodeBlock_L2 a0 k11 FU y9 0)))) (fun k5 => bnd1 (m_ref35_IsRun a0) (fun y7 => if !y7 then (k5 true) else (if (List.length a0 : Int) < 1 then (k5 true) else (k5 (decide (1024 < (List.length a0 : Int)))))))
/- cspcheck.cspcheckref35.DecodeBlock -/
noncomputable def m_ref35_DecodeBlock_B2 (a0 : List UInt8) (y4 : Int × Int × Int) (k8 : Int → Int → (List (Int × Int)) → Option ((List (Int × Int)) × Int × Int)) (rec2 : Int → Int → (List (Int × Int)) → Int → Option ((List (Int × Int)) × Int × Int)) (x8_l2 : Int) (x9_l2 : Int) (x10_l2 : List (Int × Int)) (x11_l2 : Int) : Option ((List (Int × Int)) × Int × Int) :=
  jn (fun (x47_j134 : Bool) => if x47_j134 then (jn (fun (x8_j135 : Int) (x9_j135 : Int) (x10_j135 : List (Int × Int)) => rec2 x8_j135 x9_j135 x10_j135 (i64 (x11_l2 + 1))) (fun k135 => bnd1 (m_ref35_uvarint a0 x8_l2) (fun y149 => jn (fun (x8_j150 : Int) (x9_j150 : Int) (x13_j150 : Int) => if x11_l2 = 0 then (need (List.length x10_l2 + List.length [(y149.1, x13_j150)] ≤ 137438953472) (k135 x8_j150 x9_j150 (x10_l2 ++ [(y149.1, x13_j150)]))) else (if y149.1 = 0 then (need ((0 : Int) ≤ i64 (x11_l2 - 1) ∧ (i64 (x11_l2 - 1)) < (List.length x10_l2 : Int)) (need ((0 : Int) ≤ i64 (x11_l2 - 1) ∧ (i64 (x11_l2 - 1)) < (List.length x10_l2 : Int)) (need (List.length x10_l2 + List.length [((gi x10_l2 (i64 (x11_l2 - 1))).1, i64 ((i64 (((gi x10_l2 (i64 (x11_l2 - 1))).2) + 1)) + x13_j150))] ≤ 137438953472) (k135 x8_j150 x9_j150 (x10_l2 ++ [((gi x10_l2 (i64 (x11_l2 - 1))).1, i64 ((i64 (((gi x10_l2 (i64 (x11_l2 - 1))).2) + 1)) + x13_j150))]))))) else (need ((0 : Int) ≤ i64 (x11_l2 - 1) ∧ (i64 (x11_l2 - 1)) < (List.length x10_l2 : Int)) (need (List.length x10_l2 + List.length [(i64 (((gi x10_l2 (i64 (x11_l2 - 1))).1) + y149.1), x13_j150)] ≤ 137438953472) (k135 x8_j150 x9_j150 (x10_l2 ++ [(i64 (((gi x10_l2 (i64 (x11_l2 - 1))).1) + y149.1), x13_j150)])))))) (fun k150 => if y149.2.2 = 0 then (bnd1 (m_ref35_uvarint a0 y149.2.1) (fun y152 => k150 y152.2.1 y152.2.2 y152.1)) else (k150 y149.2.1 y149.2.2 0))))) else (k8 x8_l2 x9_l2 x10_l2)) (fun k134 => if x11_l2 < y4.1 then (k134 (decide (x9_l2 = 0))) else (k134 false))
noncomputable def m_ref35_DecodeBlock_L2 (a0 : List UInt8) (y4 : Int × Int × Int) (k8 : Int → Int → (List (Int × Int)) → Option ((List (Int × Int)) × Int × Int)) : Nat → Int → Int → (List (Int × Int)) → Int → Option ((List (Int × Int)) × Int × Int)
  | 0, _, _, _, _ => none
  | n + 1, x8_l2, x9_l2, x10_l2, x11_l2 => m_ref35_DecodeBlock_B2 a0 y4 k8 (m_ref35_DecodeBlock_L2 a0 y4 k8 n) x8_l2 x9_l2 x10_l2 x11_l2
noncomputable def m_ref35_DecodeBlock (a0 : List UInt8) (a1 : Int) : Option ((List (Int × Int)) × Int × Int) :=
  jn (fun (x23_j3 : Bool) => if x23_j3 then (some ([], 0, 1)) else (bnd1 (m_ref35_uvarint a0 a1) (fun y4 => jn (fun (x9_j5 : Int) => jn (fun (x8_j8 : Int) (x9_j8 : Int) (x10_j8 : List (Int × Int)) => if ¬ x9_j8 = 0 then (some ([], 0, x9_j8)) else (if (List.length a0 : Int) < (i64 (x8_j8 + 4)) then (some ([], 0, 23)) else (need ((0 : Int) ≤ a1 ∧ a1 ≤ x8_j8 ∧ x8_j8 ≤ (List.length a0 : Int)) (bnd1 (m_ref23_Sealed (List.take (Int.toNat x8_j8 - Int.toNat a1) (List.drop (Int.toNat a1) a0))) (fun y163 => need ((0 : Int) ≤ a1 ∧ a1 ≤ i64 (x8_j8 + 4) ∧ (i64 (x8_j8 + 4)) ≤ (List.length a0 : Int)) (if ¬ y163 = (List.take (Int.toNat (i64 (x8_j8 + 4)) - Int.toNat a1) (List.drop (Int.toNat a1) a0)) then (some ([], 0, 24)) else (bnd1 (m_ref35_EncodeBlock x10_j8) (fun y165 => jn (fun (x148_j170 : Bool) => if x148_j170 then (some ([], 0, 22)) else (some (x10_j8, i64 (x8_j8 + 4), 0))) (fun k170 => if ¬ y165.2 = 0 then (k170 true) else (need ((0 : Int) ≤ a1 ∧ a1 ≤ i64 (x8_j8 + 4) ∧ (i64 (x8_j8 + 4)) ≤ (List.length a0 : Int)) (k170 (decide (¬ y165.1 = (List.take (Int.toNat (i64 (x8_j8 + 4)) - Int.toNat a1) (List.drop (Int.toNat a1) a0))))))))))))))) (fun k8 => m_ref35_DecodeBlock_L2 a0 y4 k8 FU y4.2.1 x9_j5 [] 0)) (fun k5 => jn (fun (x40_j7 : Bool) => if x40_j7 then (k5 22) else (k5 y4.2.2)) (fun k7 => if y4.2.2 = 0 then (if y4.1 < 1 then (k7 true) else (k7 (decide (1024 < y4.1)))) else (k7 false)))))) (fun k3 => if a1 < 0 then (k3 true) else (k3 (decide ((List.length a0 : Int) < a1))))
/- cspcheck.cspchecklaw36.same -/
noncomputable def m_law36_same_B2 (a0 : List (Int × Int)) (a1 : List (Int × Int)) (k1 : Unit → Option Bool) (rec2 : Int → Option Bool) (x5_l2 : Int) : Option Bool :=
  if x5_l2 < (List.length a0 : Int) then (need ((0 : Int) ≤ x5_l2 ∧ x5_l2 < (List.length a0 : Int)) (need ((0 : Int) ≤ x5_l2 ∧ x5_l2 < (List.length a1 : Int)) (if ¬ (gi a0 x5_l2) = (gi a1 x5_l2) then (some false) else (rec2 (i64 (x5_l2 + 1)))))) else (k1 ())
noncomputable def m_law36_same_L2 (a0 : List (Int × Int)) (a1 : List (Int × Int)) (k1 : Unit → Option Bool) : Nat → Int → Option Bool
  | 0, _ => none
  | n + 1, x5_l2 => m_law36_same_B2 a0 a1 k1 (m_law36_same_L2 a0 a1 k1 n) x5_l2
noncomputable def m_law36_same (a0 : List (Int × Int)) (a1 : List (Int × Int)) : Option Bool :=
  if ¬ (List.length a0 : Int) = (List.length a1 : Int) then (some false) else (jn (fun (_ : Unit) => some true) (fun k1 => m_law36_same_L2 a0 a1 k1 FU 0))
/- cspcheck.cspcheckref35.Subtract -/
/- cspcheck.cspcheckref35.Merge -/
/- slices.BinarySearchFunc(()(2)int,(2)int,(2)int) -/
/- cspcheck.frontier.Subtract -/
/- cspcheck.frontier.EncodeBlock -/
noncomputable def m_frontier_EncodeBlock (a0 : List (Int × Int)) : Option ((List UInt8) × Int) :=
  bnd1 (m_frontier_isBlock a0) (fun y1 => if !y1 then (some ([], 1)) else (bnd1 (m_frontier_encode a0) (fun y2 => some (y2, 0))))
/- cspcheck.cspchecklaw36.sane -/
noncomputable def m_law36_sane  : Option Bool :=
  bnd1 (m_frontier_EncodeBlock [(0, 5), (0, 7), (2, 1)]) (fun y1 => jn (fun (x0_j2 : Bool) => some x0_j2) (fun k2 => if y1.2 = 0 then (if (List.length y1.1 : Int) = 11 then (need (7 ≤ (List.length y1.1 : Int)) (k2 (decide ((List.take (Int.toNat 7) y1.1) = [3, 0, 5, 0, 1, 2, 1])))) else (k2 false)) else (k2 false)))
/- (*cspcheck.cspcheckgen2.Tape).Next -/
noncomputable def m_gen2_Tape_Next (a0 : (List Int) × Int) (a1 : Int) : Option (Int × ((List Int) × Int)) :=
  jn (fun (x5_j1 : Int) => if a1 < 1 then (some (0, (a0.1, i64 (a0.2 + 1)))) else (need (a1 ≠ 0) (jn (fun (x5_j5 : Int) => some (x5_j5, (a0.1, i64 (a0.2 + 1)))) (fun k5 => if (Int.tmod x5_j1 a1) < 0 then (k5 (i64 ((Int.tmod x5_j1 a1) + a1))) else (k5 (Int.tmod x5_j1 a1)))))) (fun k1 => if a0.2 < (List.length a0.1 : Int) then (need ((0 : Int) ≤ a0.2 ∧ a0.2 < (List.length a0.1 : Int)) (k1 (gi a0.1 a0.2))) else (k1 (i64 ((i64 (5 * a0.2)) + 3))))
/- cspcheck.cspchecklaw36.pairs -/
noncomputable def m_law36_pairs_B2 (k1 : (List Int) → Int → (List (Int × Int)) → Option ((List (Int × Int)) × ((List Int) × Int))) (rec2 : (List Int) → Int → (List (Int × Int)) → Int → Option ((List (Int × Int)) × ((List Int) × Int))) (x0_0_l2 : List Int) (x0_1_l2 : Int) (x5_l2 : List (Int × Int)) (x6_l2 : Int) : Option ((List (Int × Int)) × ((List Int) × Int)) :=
  if 0 < x6_l2 then (bnd1 (m_gen2_Tape_Next (x0_0_l2, x0_1_l2) 4) (fun y35 => bnd1 (m_gen2_Tape_Next (y35.2.1, y35.2.2) 2) (fun y36 => bnd1 (m_gen2_Tape_Next (y36.2.1, y36.2.2) 6) (fun y37 => bnd1 (m_gen2_Tape_Next (y37.2.1, y37.2.2) 3) (fun y38 => need (List.length x5_l2 + List.length [(i64 (y35.1 * (i64 (1 + (i64 (200 * y36.1))))), i64 (y37.1 * (i64 (1 + (i64 (90 * y38.1))))))] ≤ 137438953472) (rec2 y38.2.1 y38.2.2 (x5_l2 ++ [(i64 (y35.1 * (i64 (1 + (i64 (200 * y36.1))))), i64 (y37.1 * (i64 (1 + (i64 (90 * y38.1))))))]) (i64 (x6_l2 - 1)))))))) else (k1 x0_0_l2 x0_1_l2 x5_l2)
noncomputable def m_law36_pairs_L2 (k1 : (List Int) → Int → (List (Int × Int)) → Option ((List (Int × Int)) × ((List Int) × Int))) : Nat → (List Int) → Int → (List (Int × Int)) → Int → Option ((List (Int × Int)) × ((List Int) × Int))
  | 0, _, _, _, _ => none
  | n + 1, x0_0_l2, x0_1_l2, x5_l2, x6_l2 => m_law36_pairs_B2 k1 (m_law36_pairs_L2 k1 n) x0_0_l2 x0_1_l2 x5_l2 x6_l2
noncomputable def m_law36_pairs (a0 : (List Int) × Int) (a1 : Int) : Option ((List (Int × Int)) × ((List Int) × Int)) :=
  jn (fun (x0_0_j1 : List Int) (x0_1_j1 : Int) (x5_j1 : List (Int × Int)) => some (x5_j1, (x0_0_j1, x0_1_j1))) (fun k1 => bnd1 (m_gen2_Tape_Next (a0.1, a0.2) (i64 (a1 + 1))) (fun y22 => m_law36_pairs_L2 k1 FU y22.2.1 y22.2.2 [] y22.1))
/- (*cspcheck.cspcheckgen2.Tape).Bytes -/
/- cspcheck.cspcheckgen2.New -/
noncomputable def m_gen2_New (a0 : List Int) : Option ((List Int) × Int) :=
  some ((a0, 0).1, (a0, 0).2)
/- cspcheck.cspchecklaw36.decodes -/
/- cspcheck.frontier.Write -/
noncomputable def m_frontier_Write_B2 (a1 : List UInt8) (a2 : List (Int × Int)) (a3 : Int) (k13 : Dk → Option (Int × Dk)) (rec2 : Dk → Int → Option (Int × Dk)) (x0d_l2 : Dk) (x10_l2 : Int) : Option (Int × Dk) :=
  if x10_l2 < (List.length a2 : Int) then (need ((0 : Int) ≤ x10_l2 ∧ x10_l2 ≤ min (i64 (x10_l2 + a3)) (List.length a2 : Int) ∧ (min (i64 (x10_l2 + a3)) (List.length a2 : Int)) ≤ (List.length a2 : Int)) (bnd1 (m_frontier_encode (List.take (Int.toNat (min (i64 (x10_l2 + a3)) (List.length a2 : Int)) - Int.toNat x10_l2) (List.drop (Int.toNat x10_l2) a2))) (fun y36 => bnd1 (m_disk_Append x0d_l2 a1 y36) (fun y37 => if ¬ y37.1 = 0 then (some (y37.1, y37.2)) else (rec2 y37.2 (i64 (x10_l2 + a3))))))) else (k13 x0d_l2)
noncomputable def m_frontier_Write_L2 (a1 : List UInt8) (a2 : List (Int × Int)) (a3 : Int) (k13 : Dk → Option (Int × Dk)) : Nat → Dk → Int → Option (Int × Dk)
  | 0, _, _ => none
  | n + 1, x0d_l2, x10_l2 => m_frontier_Write_B2 a1 a2 a3 k13 (m_frontier_Write_L2 a1 a2 a3 k13 n) x0d_l2 x10_l2
noncomputable def m_frontier_Write (a0 : Dk) (a1 : List UInt8) (a2 : List (Int × Int)) (a3 : Int) : Option (Int × Dk) :=
  jn (fun (x23_j5 : Bool) => if x23_j5 then (some (1, a0)) else (jn (fun (x0d_j8 : Dk) => jn (fun (x0d_j13 : Dk) => bnd1 (m_disk_Sync x0d_j13 a1) (fun y39 => some (y39.1, y39.2))) (fun k13 => m_frontier_Write_L2 a1 a2 a3 k13 FU x0d_j8 0)) (fun k8 => if (List.length a2 : Int) = 0 then (bnd1 (m_disk_Append a0 a1 ([] : List UInt8)) (fun y11 => if ¬ y11.1 = 0 then (some (y11.1, y11.2)) else (k8 y11.2))) else (k8 a0)))) (fun k5 => bnd1 (m_frontier_isRun a2) (fun y7 => if !y7 then (k5 true) else (if a3 < 1 then (k5 true) else (k5 (decide (1024 < a3))))))
/- cspcheck.frontier.read -/
noncomputable def m_frontier_read_B2 (y1 : (List UInt8) × Int × Dk) (k3 : Int → (List (Int × Int)) → Int → Option ((List (Int × Int)) × Int × Int × Dk)) (rec2 : Int → (List (Int × Int)) → Int → Int → Option ((List (Int × Int)) × Int × Int × Dk)) (x8_l2 : Int) (x9_l2 : List (Int × Int)) (x10_l2 : Int) (x11_l2 : Int) : Option ((List (Int × Int)) × Int × Int × Dk) :=
  jn (fun (x26_j175 : Bool) => if x26_j175 then (bnd1 (m_frontier_DecodeBlock y1.1 x11_l2) (fun y195 => jn (fun (x8_j196 : Int) => need (List.length x9_l2 + List.length y195.1 ≤ 137438953472) (rec2 x8_j196 (x9_l2 ++ y195.1) (i64 (x10_l2 + 1)) y195.2.1)) (fun k196 => jn (fun (x55_j204 : Bool) => if x55_j204 then (k196 22) else (k196 y195.2.2)) (fun k204 => if y195.2.2 = 0 then (if 0 < (List.length x9_l2 : Int) then (need ((0 : Int) ≤ 0 ∧ 0 < (List.length y195.1 : Int)) (need ((0 : Int) ≤ i64 ((List.length x9_l2 : Int) - 1) ∧ (i64 ((List.length x9_l2 : Int) - 1)) < (List.length x9_l2 : Int)) (bnd1 (m_frontier_compare (gi x9_l2 (i64 ((List.length x9_l2 : Int) - 1))) (gi y195.1 0)) (fun y210 => k204 (decide (0 ≤ y210)))))) else (k204 false)) else (k204 false))))) else (k3 x8_l2 x9_l2 x10_l2)) (fun k175 => if x8_l2 = 0 then (k175 (decide (x11_l2 < (List.length y1.1 : Int)))) else (k175 false))
noncomputable def m_frontier_read_L2 (y1 : (List UInt8) × Int × Dk) (k3 : Int → (List (Int × Int)) → Int → Option ((List (Int × Int)) × Int × Int × Dk)) : Nat → Int → (List (Int × Int)) → Int → Int → Option ((List (Int × Int)) × Int × Int × Dk)
  | 0, _, _, _, _ => none
  | n + 1, x8_l2, x9_l2, x10_l2, x11_l2 => m_frontier_read_B2 y1 k3 (m_frontier_read_L2 y1 k3 n) x8_l2 x9_l2 x10_l2 x11_l2
noncomputable def m_frontier_read (a0 : Dk) (a1 : List UInt8) : Option ((List (Int × Int)) × Int × Int × Dk) :=
  bnd1 (m_disk_Read a0 a1) (fun y1 => jn (fun (x8_j3 : Int) (x9_j3 : List (Int × Int)) (x10_j3 : Int) => if ¬ x8_j3 = 0 then (some ([], 0, x8_j3, y1.2.2)) else (some (x9_j3, x10_j3, 0, y1.2.2))) (fun k3 => m_frontier_read_L2 y1 k3 FU y1.2.1 [] 0 0))
/- cspcheck.frontier.Blocks -/
noncomputable def m_frontier_Blocks (a0 : Dk) (a1 : List UInt8) : Option (Int × Int × Dk) :=
  bnd1 (m_frontier_read a0 a1) (fun y1 => some (y1.2.1, y1.2.2.1, y1.2.2.2))
/- slices.Clone(()(2)int,(2)int) -/
/- slices.Compact(()(2)int,(2)int) -/
/- cspcheck.frontier.Sorted -/
/- cspcheck.cspchecklaw36.FrontierExamples -/
/- cspcheck.cspchecklaw36.run -/
noncomputable def m_law36_run (a0 : (List Int) × Int) (a1 : Int) : Option ((List (Int × Int)) × ((List Int) × Int)) :=
  bnd1 (m_law36_pairs (a0.1, a0.2) a1) (fun y1 => bnd1 (m_ref35_Sorted y1.1) (fun y2 => some (y2, (y1.2.1, y1.2.2))))
/- cspcheck.frontier.Read -/
noncomputable def m_frontier_Read (a0 : Dk) (a1 : List UInt8) : Option ((List (Int × Int)) × Int × Dk) :=
  bnd1 (m_frontier_read a0 a1) (fun y1 => some (y1.1, y1.2.2.1, y1.2.2.2))
/- cspcheck.cspchecklaw36.FrontierRoundTrip -/
/- cspcheck.cspcheckref35.New -/
noncomputable def m_ref35_New (a0 : Int) : Option ((Int × (List ((List UInt8) × Int)) × (List ((List UInt8) × Int)) × (List ((List UInt8) × Int)) × (List (Int × (List UInt8) × (List UInt8) × Int)) × Int × Bool × Int) × Int) :=
  jn (fun (x9_j3 : Bool) => if x9_j3 then (none) else (some ((((a0, [], [], [], [], 0, false, 0) : Int × (List ((List UInt8) × Int)) × (List ((List UInt8) × Int)) × (List ((List UInt8) × Int)) × (List (Int × (List UInt8) × (List UInt8) × Int)) × Int × Bool × Int).1, ((a0, [], [], [], [], 0, false, 0) : Int × (List ((List UInt8) × Int)) × (List ((List UInt8) × Int)) × (List ((List UInt8) × Int)) × (List (Int × (List UInt8) × (List UInt8) × Int)) × Int × Bool × Int).2.1, ((a0, [], [], [], [], 0, false, 0) : Int × (List ((List UInt8) × Int)) × (List ((List UInt8) × Int)) × (List ((List UInt8) × Int)) × (List (Int × (List UInt8) × (List UInt8) × Int)) × Int × Bool × Int).2.2.1, ((a0, [], [], [], [], 0, false, 0) : Int × (List ((List UInt8) × Int)) × (List ((List UInt8) × Int)) × (List ((List UInt8) × Int)) × (List (Int × (List UInt8) × (List UInt8) × Int)) × Int × Bool × Int).2.2.2.1, ((a0, [], [], [], [], 0, false, 0) : Int × (List ((List UInt8) × Int)) × (List ((List UInt8) × Int)) × (List ((List UInt8) × Int)) × (List (Int × (List UInt8) × (List UInt8) × Int)) × Int × Bool × Int).2.2.2.2.1, ((a0, [], [], [], [], 0, false, 0) : Int × (List ((List UInt8) × Int)) × (List ((List UInt8) × Int)) × (List ((List UInt8) × Int)) × (List (Int × (List UInt8) × (List UInt8) × Int)) × Int × Bool × Int).2.2.2.2.2.1, ((a0, [], [], [], [], 0, false, 0) : Int × (List ((List UInt8) × Int)) × (List ((List UInt8) × Int)) × (List ((List UInt8) × Int)) × (List (Int × (List UInt8) × (List UInt8) × Int)) × Int × Bool × Int).2.2.2.2.2.2.1, ((a0, [], [], [], [], 0, false, 0) : Int × (List ((List UInt8) × Int)) × (List ((List UInt8) × Int)) × (List ((List UInt8) × Int)) × (List (Int × (List UInt8) × (List UInt8) × Int)) × Int × Bool × Int).2.2.2.2.2.2.2), 0))) (fun k3 => if a0 < 0 then (k3 true) else (k3 (decide (4194304 < a0))))
/- (*cspcheck.cspcheckref35.Disk).Fail -/
noncomputable def m_ref35_Disk_Fail (a0 : Int × (List ((List UInt8) × Int)) × (List ((List UInt8) × Int)) × (List ((List UInt8) × Int)) × (List (Int × (List UInt8) × (List UInt8) × Int)) × Int × Bool × Int) (a1 : Int) : Option (Int × (List ((List UInt8) × Int)) × (List ((List UInt8) × Int)) × (List ((List UInt8) × Int)) × (List (Int × (List UInt8) × (List UInt8) × Int)) × Int × Bool × Int) :=
  if !a0.2.2.2.2.2.2.1 then (some (a0.1, a0.2.1, a0.2.2.1, a0.2.2.2.1, a0.2.2.2.2.1, max a1 0, a0.2.2.2.2.2.2.1, a0.2.2.2.2.2.2.2)) else (some (a0.1, a0.2.1, a0.2.2.1, a0.2.2.2.1, a0.2.2.2.2.1, a0.2.2.2.2.2.1, a0.2.2.2.2.2.2.1, a0.2.2.2.2.2.2.2))
/- cspcheck.cspcheckref35.find -/
noncomputable def m_ref35_find_B2 (a0 : List ((List UInt8) × Int)) (a1 : List UInt8) (k1 : Unit → Option Int) (rec2 : Int → Option Int) (x5_l2 : Int) : Option Int :=
  if x5_l2 < (List.length a0 : Int) then (need ((0 : Int) ≤ x5_l2 ∧ x5_l2 < (List.length a0 : Int)) (if ((gi a0 x5_l2).1) = a1 then (need ((0 : Int) ≤ x5_l2 ∧ x5_l2 < (List.length a0 : Int)) (some ((gi a0 x5_l2).2))) else (rec2 (i64 (x5_l2 + 1))))) else (k1 ())
noncomputable def m_ref35_find_L2 (a0 : List ((List UInt8) × Int)) (a1 : List UInt8) (k1 : Unit → Option Int) : Nat → Int → Option Int
  | 0, _ => none
  | n + 1, x5_l2 => m_ref35_find_B2 a0 a1 k1 (m_ref35_find_L2 a0 a1 k1 n) x5_l2
noncomputable def m_ref35_find (a0 : List ((List UInt8) × Int)) (a1 : List UInt8) : Option Int :=
  jn (fun (_ : Unit) => some (-1)) (fun k1 => m_ref35_find_L2 a0 a1 k1 FU 0)
/- cspcheck.cspcheckref35.good -/
noncomputable def m_ref35_good (a0 : List UInt8) : Option Bool :=
  jn (fun (x2_j1 : Bool) => some x2_j1) (fun k1 => if 1 ≤ (List.length a0 : Int) then (k1 (decide ((List.length a0 : Int) ≤ 32))) else (k1 false))
/- (*cspcheck.cspcheckref35.Disk).Used -/
noncomputable def m_ref35_Disk_Used_B2 (a0 : Int × (List ((List UInt8) × Int)) × (List ((List UInt8) × Int)) × (List ((List UInt8) × Int)) × (List (Int × (List UInt8) × (List UInt8) × Int)) × Int × Bool × Int) (k1 : Int → Option Int) (rec2 : Int → Int → Option Int) (x3_l2 : Int) (x4_l2 : Int) : Option Int :=
  if x4_l2 < (List.length a0.2.2.1 : Int) then (need ((0 : Int) ≤ x4_l2 ∧ x4_l2 < (List.length a0.2.2.1 : Int)) (need ((0 : Int) ≤ (gi a0.2.2.1 x4_l2).2 ∧ ((gi a0.2.2.1 x4_l2).2) < (List.length a0.2.1 : Int)) (rec2 (i64 (x3_l2 + (List.length ((gi a0.2.1 ((gi a0.2.2.1 x4_l2).2)).1) : Int))) (i64 (x4_l2 + 1))))) else (k1 x3_l2)
noncomputable def m_ref35_Disk_Used_L2 (a0 : Int × (List ((List UInt8) × Int)) × (List ((List UInt8) × Int)) × (List ((List UInt8) × Int)) × (List (Int × (List UInt8) × (List UInt8) × Int)) × Int × Bool × Int) (k1 : Int → Option Int) : Nat → Int → Int → Option Int
  | 0, _, _ => none
  | n + 1, x3_l2, x4_l2 => m_ref35_Disk_Used_B2 a0 k1 (m_ref35_Disk_Used_L2 a0 k1 n) x3_l2 x4_l2
noncomputable def m_ref35_Disk_Used (a0 : Int × (List ((List UInt8) × Int)) × (List ((List UInt8) × Int)) × (List ((List UInt8) × Int)) × (List (Int × (List UInt8) × (List UInt8) × Int)) × Int × Bool × Int) : Option Int :=
  jn (fun (x3_j1 : Int) => some x3_j1) (fun k1 => m_ref35_Disk_Used_L2 a0 k1 FU 0 0)
/- (*cspcheck.cspcheckref35.Disk).write -/
noncomputable def m_ref35_Disk_write (a0 : Int × (List ((List UInt8) × Int)) × (List ((List UInt8) × Int)) × (List ((List UInt8) × Int)) × (List (Int × (List UInt8) × (List UInt8) × Int)) × Int × Bool × Int) : Option (Bool × (Int × (List ((List UInt8) × Int)) × (List ((List UInt8) × Int)) × (List ((List UInt8) × Int)) × (List (Int × (List UInt8) × (List UInt8) × Int)) × Int × Bool × Int)) :=
  jn (fun (x0_5_j1 : Int) (x0_6_j1 : Bool) => some (x0_6_j1, (a0.1, a0.2.1, a0.2.2.1, a0.2.2.2.1, a0.2.2.2.2.1, x0_5_j1, x0_6_j1, i64 (a0.2.2.2.2.2.2.2 + 1)))) (fun k1 => if 0 < a0.2.2.2.2.2.1 then (k1 (i64 (a0.2.2.2.2.2.1 - 1)) (decide ((i64 (a0.2.2.2.2.2.1 - 1)) = 0))) else (k1 a0.2.2.2.2.2.1 a0.2.2.2.2.2.2.1))
/- cspcheck.cspcheckref35.without -/
noncomputable def m_ref35_without_B2 (a0 : List ((List UInt8) × Int)) (a1 : List UInt8) (k1 : (List ((List UInt8) × Int)) → Option (List ((List UInt8) × Int))) (rec2 : (List ((List UInt8) × Int)) → Int → Option (List ((List UInt8) × Int))) (x5_l2 : List ((List UInt8) × Int)) (x6_l2 : Int) : Option (List ((List UInt8) × Int)) :=
  if x6_l2 < (List.length a0 : Int) then (jn (fun (x5_j48 : List ((List UInt8) × Int)) => rec2 x5_j48 (i64 (x6_l2 + 1))) (fun k48 => need ((0 : Int) ≤ x6_l2 ∧ x6_l2 < (List.length a0 : Int)) (if ¬ ((gi a0 x6_l2).1) = a1 then (need ((0 : Int) ≤ x6_l2 ∧ x6_l2 < (List.length a0 : Int)) (need (List.length x5_l2 + List.length [gi a0 x6_l2] ≤ 137438953472) (k48 (x5_l2 ++ [gi a0 x6_l2])))) else (k48 x5_l2)))) else (k1 x5_l2)
noncomputable def m_ref35_without_L2 (a0 : List ((List UInt8) × Int)) (a1 : List UInt8) (k1 : (List ((List UInt8) × Int)) → Option (List ((List UInt8) × Int))) : Nat → (List ((List UInt8) × Int)) → Int → Option (List ((List UInt8) × Int))
  | 0, _, _ => none
  | n + 1, x5_l2, x6_l2 => m_ref35_without_B2 a0 a1 k1 (m_ref35_without_L2 a0 a1 k1 n) x5_l2 x6_l2
noncomputable def m_ref35_without (a0 : List ((List UInt8) × Int)) (a1 : List UInt8) : Option (List ((List UInt8) × Int)) :=
  jn (fun (x5_j1 : List ((List UInt8) × Int)) => some x5_j1) (fun k1 => m_ref35_without_L2 a0 a1 k1 FU [] 0)
/- cspcheck.cspcheckref35.with -/
noncomputable def m_ref35_with_B2 (a1 : List UInt8) (y1 : (List ((List UInt8) × Int))) (k2 : Int → Option (List ((List UInt8) × Int))) (rec2 : Int → Option (List ((List UInt8) × Int))) (x8_l2 : Int) : Option (List ((List UInt8) × Int)) :=
  jn (fun (x24_j43 : Bool) => if x24_j43 then (rec2 (i64 (x8_l2 + 1))) else (k2 x8_l2)) (fun k43 => if x8_l2 < (List.length y1 : Int) then (need ((0 : Int) ≤ x8_l2 ∧ x8_l2 < (List.length y1 : Int)) (k43 (decide (ltS ((gi y1 x8_l2).1) a1)))) else (k43 false))
noncomputable def m_ref35_with_L2 (a1 : List UInt8) (y1 : (List ((List UInt8) × Int))) (k2 : Int → Option (List ((List UInt8) × Int))) : Nat → Int → Option (List ((List UInt8) × Int))
  | 0, _ => none
  | n + 1, x8_l2 => m_ref35_with_B2 a1 y1 k2 (m_ref35_with_L2 a1 y1 k2 n) x8_l2
noncomputable def m_ref35_with (a0 : List ((List UInt8) × Int)) (a1 : List UInt8) (a2 : Int) : Option (List ((List UInt8) × Int)) :=
  bnd1 (m_ref35_without a0 a1) (fun y1 => jn (fun (x8_j2 : Int) => need (0 ≤ x8_j2 ∧ x8_j2 ≤ (List.length y1 : Int)) (need (List.length (List.take (Int.toNat x8_j2) y1) ≤ 137438953472) (need (List.length (List.take (Int.toNat x8_j2) y1) + List.length [(a1, a2)] ≤ 137438953472) (need ((0 : Int) ≤ x8_j2 ∧ x8_j2 ≤ (List.length y1 : Int)) (need (List.length (List.take (Int.toNat x8_j2) y1 ++ [(a1, a2)]) + List.length (List.drop (Int.toNat x8_j2) y1) ≤ 137438953472) (some ((List.take (Int.toNat x8_j2) y1 ++ [(a1, a2)]) ++ (List.drop (Int.toNat x8_j2) y1)))))))) (fun k2 => m_ref35_with_L2 a1 y1 k2 FU 0))
/- cspcheck.cspcheckref35.done -/
noncomputable def m_ref35_done (a0 : List ((List UInt8) × Int)) (a1 : Int × (List UInt8) × (List UInt8) × Int) : Option (List ((List UInt8) × Int)) :=
  if a1.1 = 1 then (bnd1 (m_ref35_with a0 a1.2.1 a1.2.2.2) (fun y1 => some y1)) else (if a1.1 = 2 then (bnd1 (m_ref35_without a0 a1.2.1) (fun y2 => bnd1 (m_ref35_with y2 a1.2.2.1 a1.2.2.2) (fun y3 => some y3))) else (bnd1 (m_ref35_without a0 a1.2.1) (fun y4 => some y4)))
/- (*cspcheck.cspcheckref35.Disk).perform -/
noncomputable def m_ref35_Disk_perform (a0 : Int × (List ((List UInt8) × Int)) × (List ((List UInt8) × Int)) × (List ((List UInt8) × Int)) × (List (Int × (List UInt8) × (List UInt8) × Int)) × Int × Bool × Int) (a1 : Int × (List UInt8) × (List UInt8) × Int) : Option (Int × (List ((List UInt8) × Int)) × (List ((List UInt8) × Int)) × (List ((List UInt8) × Int)) × (List (Int × (List UInt8) × (List UInt8) × Int)) × Int × Bool × Int) :=
  bnd1 (m_ref35_done a0.2.2.1 a1) (fun y1 => need (List.length ([] : List (Int × (List UInt8) × (List UInt8) × Int)) + List.length a0.2.2.2.2.1 ≤ 137438953472) (need (List.length (([] : List (Int × (List UInt8) × (List UInt8) × Int)) ++ a0.2.2.2.2.1) + List.length [a1] ≤ 137438953472) (some (a0.1, a0.2.1, y1, a0.2.2.2.1, ((([] : List (Int × (List UInt8) × (List UInt8) × Int)) ++ a0.2.2.2.2.1) ++ [a1]), a0.2.2.2.2.2.1, a0.2.2.2.2.2.2.1, a0.2.2.2.2.2.2.2))))
/- (*cspcheck.cspcheckref35.Disk).Append -/
noncomputable def m_ref35_Disk_Append (a0 : Int × (List ((List UInt8) × Int)) × (List ((List UInt8) × Int)) × (List ((List UInt8) × Int)) × (List (Int × (List UInt8) × (List UInt8) × Int)) × Int × Bool × Int) (a1 : List UInt8) (a2 : List UInt8) : Option (Int × (Int × (List ((List UInt8) × Int)) × (List ((List UInt8) × Int)) × (List ((List UInt8) × Int)) × (List (Int × (List UInt8) × (List UInt8) × Int)) × Int × Bool × Int)) :=
  bnd1 (m_ref35_find a0.2.2.1 a1) (fun y1 => if a0.2.2.2.2.2.2.1 then (some (25, (a0.1, a0.2.1, a0.2.2.1, a0.2.2.2.1, a0.2.2.2.2.1, a0.2.2.2.2.2.1, a0.2.2.2.2.2.2.1, a0.2.2.2.2.2.2.2))) else (bnd1 (m_ref35_good a1) (fun y9 => if !y9 then (some (1, (a0.1, a0.2.1, a0.2.2.1, a0.2.2.2.1, a0.2.2.2.2.1, a0.2.2.2.2.2.1, a0.2.2.2.2.2.2.1, a0.2.2.2.2.2.2.2))) else (jn (fun (x25_j10 : Bool) => if x25_j10 then (some (10, (a0.1, a0.2.1, a0.2.2.1, a0.2.2.2.1, a0.2.2.2.2.1, a0.2.2.2.2.2.1, a0.2.2.2.2.2.2.1, a0.2.2.2.2.2.2.2))) else (bnd1 (m_ref35_Disk_write (a0.1, a0.2.1, a0.2.2.1, a0.2.2.2.1, a0.2.2.2.2.1, a0.2.2.2.2.2.1, a0.2.2.2.2.2.2.1, a0.2.2.2.2.2.2.2)) (fun y15 => jn (fun (x0_0_j16 : Int) (x0_1_j16 : List ((List UInt8) × Int)) (x0_2_j16 : List ((List UInt8) × Int)) (x0_3_j16 : List ((List UInt8) × Int)) (x0_4_j16 : List (Int × (List UInt8) × (List UInt8) × Int)) (x0_5_j16 : Int) (x0_6_j16 : Bool) (x0_7_j16 : Int) (x7_j16 : Int) => jn (fun (x2_j29 : List UInt8) => need (List.length ([] : List ((List UInt8) × Int)) + List.length x0_1_j16 ≤ 137438953472) (need ((0 : Int) ≤ x7_j16 ∧ x7_j16 < (List.length (([] : List ((List UInt8) × Int)) ++ x0_1_j16) : Int)) (need (List.length ([] : List UInt8) + List.length ((gi (([] : List ((List UInt8) × Int)) ++ x0_1_j16) x7_j16).1) ≤ 137438953472) (need (List.length (([] : List UInt8) ++ ((gi (([] : List ((List UInt8) × Int)) ++ x0_1_j16) x7_j16).1)) + List.length x2_j29 ≤ 137438953472) (need ((0 : Int) ≤ x7_j16 ∧ x7_j16 < (List.length (([] : List ((List UInt8) × Int)) ++ x0_1_j16) : Int)) (if y15.1 then (some (25, (x0_0_j16, (List.set (([] : List ((List UInt8) × Int)) ++ x0_1_j16) (Int.toNat x7_j16) (((([] : List UInt8) ++ ((gi (([] : List ((List UInt8) × Int)) ++ x0_1_j16) x7_j16).1)) ++ x2_j29), (gi (([] : List ((List UInt8) × Int)) ++ x0_1_j16) x7_j16).2)), x0_2_j16, x0_3_j16, x0_4_j16, x0_5_j16, x0_6_j16, x0_7_j16))) else (some (0, (x0_0_j16, (List.set (([] : List ((List UInt8) × Int)) ++ x0_1_j16) (Int.toNat x7_j16) (((([] : List UInt8) ++ ((gi (([] : List ((List UInt8) × Int)) ++ x0_1_j16) x7_j16).1)) ++ x2_j29), (gi (([] : List ((List UInt8) × Int)) ++ x0_1_j16) x7_j16).2)), x0_2_j16, x0_3_j16, x0_4_j16, x0_5_j16, x0_6_j16, x0_7_j16))))))))) (fun k29 => if y15.1 then (need (0 ≤ i64 (Int.tdiv (List.length a2 : Int) 2) ∧ (i64 (Int.tdiv (List.length a2 : Int) 2)) ≤ (List.length a2 : Int)) (k29 (List.take (Int.toNat (i64 (Int.tdiv (List.length a2 : Int) 2))) a2))) else (k29 a2))) (fun k16 => if y1 < 0 then (need (List.length ([] : List ((List UInt8) × Int)) + List.length y15.2.2.1 ≤ 137438953472) (need (List.length (([] : List ((List UInt8) × Int)) ++ y15.2.2.1) + List.length ([(([], 0) : (List UInt8) × Int)]) ≤ 137438953472) (bnd1 (m_ref35_Disk_perform (y15.2.1, ((([] : List ((List UInt8) × Int)) ++ y15.2.2.1) ++ ([(([], 0) : (List UInt8) × Int)])), y15.2.2.2.1, y15.2.2.2.2.1, y15.2.2.2.2.2.1, y15.2.2.2.2.2.2.1, y15.2.2.2.2.2.2.2.1, y15.2.2.2.2.2.2.2.2) ((1, a1, [], (List.length y15.2.2.1 : Int)) : Int × (List UInt8) × (List UInt8) × Int)) (fun y28 => k16 y28.1 y28.2.1 y28.2.2.1 y28.2.2.2.1 y28.2.2.2.2.1 y28.2.2.2.2.2.1 y28.2.2.2.2.2.2.1 y28.2.2.2.2.2.2.2 (List.length y15.2.2.1 : Int))))) else (k16 y15.2.1 y15.2.2.1 y15.2.2.2.1 y15.2.2.2.2.1 y15.2.2.2.2.2.1 y15.2.2.2.2.2.2.1 y15.2.2.2.2.2.2.2.1 y15.2.2.2.2.2.2.2.2 y1))))) (fun k10 => if y1 < 0 then (if 64 ≤ (List.length a0.2.2.1 : Int) then (k10 true) else (bnd1 (m_ref35_Disk_Used (a0.1, a0.2.1, a0.2.2.1, a0.2.2.2.1, a0.2.2.2.2.1, a0.2.2.2.2.2.1, a0.2.2.2.2.2.2.1, a0.2.2.2.2.2.2.2)) (fun y13 => k10 (decide (a0.1 < (i64 (y13 + (List.length a2 : Int)))))))) else (bnd1 (m_ref35_Disk_Used (a0.1, a0.2.1, a0.2.2.1, a0.2.2.2.1, a0.2.2.2.2.1, a0.2.2.2.2.2.1, a0.2.2.2.2.2.2.1, a0.2.2.2.2.2.2.2)) (fun y14 => k10 (decide (a0.1 < (i64 (y14 + (List.length a2 : Int))))))))))))
/- (*cspcheck.cspcheckref35.Disk).missing -/
noncomputable def m_ref35_Disk_missing (a0 : Int × (List ((List UInt8) × Int)) × (List ((List UInt8) × Int)) × (List ((List UInt8) × Int)) × (List (Int × (List UInt8) × (List UInt8) × Int)) × Int × Bool × Int) (a1 : List UInt8) : Option Int :=
  if a0.2.2.2.2.2.2.1 then (some 25) else (bnd1 (m_ref35_good a1) (fun y1 => if !y1 then (some 1) else (bnd1 (m_ref35_find a0.2.2.1 a1) (fun y2 => if y2 < 0 then (some 21) else (some 0)))))
/- (*cspcheck.cspcheckref35.Disk).Sync -/
noncomputable def m_ref35_Disk_Sync (a0 : Int × (List ((List UInt8) × Int)) × (List ((List UInt8) × Int)) × (List ((List UInt8) × Int)) × (List (Int × (List UInt8) × (List UInt8) × Int)) × Int × Bool × Int) (a1 : List UInt8) : Option (Int × (Int × (List ((List UInt8) × Int)) × (List ((List UInt8) × Int)) × (List ((List UInt8) × Int)) × (List (Int × (List UInt8) × (List UInt8) × Int)) × Int × Bool × Int)) :=
  bnd1 (m_ref35_Disk_missing (a0.1, a0.2.1, a0.2.2.1, a0.2.2.2.1, a0.2.2.2.2.1, a0.2.2.2.2.2.1, a0.2.2.2.2.2.2.1, a0.2.2.2.2.2.2.2) a1) (fun y1 => if ¬ y1 = 0 then (some (y1, (a0.1, a0.2.1, a0.2.2.1, a0.2.2.2.1, a0.2.2.2.2.1, a0.2.2.2.2.2.1, a0.2.2.2.2.2.2.1, a0.2.2.2.2.2.2.2))) else (bnd1 (m_ref35_Disk_write (a0.1, a0.2.1, a0.2.2.1, a0.2.2.2.1, a0.2.2.2.2.1, a0.2.2.2.2.2.1, a0.2.2.2.2.2.2.1, a0.2.2.2.2.2.2.2)) (fun y2 => if y2.1 then (some (25, (y2.2.1, y2.2.2.1, y2.2.2.2.1, y2.2.2.2.2.1, y2.2.2.2.2.2.1, y2.2.2.2.2.2.2.1, y2.2.2.2.2.2.2.2.1, y2.2.2.2.2.2.2.2.2))) else (bnd1 (m_ref35_find y2.2.2.2.1 a1) (fun y3 => need (List.length ([] : List ((List UInt8) × Int)) + List.length y2.2.2.1 ≤ 137438953472) (need ((0 : Int) ≤ y3 ∧ y3 < (List.length (([] : List ((List UInt8) × Int)) ++ y2.2.2.1) : Int)) (need ((0 : Int) ≤ y3 ∧ y3 < (List.length (([] : List ((List UInt8) × Int)) ++ y2.2.2.1) : Int)) (some (0, (y2.2.1, (List.set (([] : List ((List UInt8) × Int)) ++ y2.2.2.1) (Int.toNat y3) ((gi (([] : List ((List UInt8) × Int)) ++ y2.2.2.1) y3).1, (List.length ((gi (([] : List ((List UInt8) × Int)) ++ y2.2.2.1) y3).1) : Int))), y2.2.2.2.1, y2.2.2.2.1, [], y2.2.2.2.2.2.2.1, y2.2.2.2.2.2.2.2.1, y2.2.2.2.2.2.2.2.2))))))))))
/- cspcheck.cspcheckref35.Write -/
noncomputable def m_ref35_Write_B2 (a1 : List UInt8) (a2 : List (Int × Int)) (a3 : Int) (k11 : Int → (List ((List UInt8) × Int)) → (List ((List UInt8) × Int)) → (List ((List UInt8) × Int)) → (List (Int × (List UInt8) × (List UInt8) × Int)) → Int → Bool → Int → Option (Int × (Int × (List ((List UInt8) × Int)) × (List ((List UInt8) × Int)) × (List ((List UInt8) × Int)) × (List (Int × (List UInt8) × (List UInt8) × Int)) × Int × Bool × Int))) (rec2 : Int → (List ((List UInt8) × Int)) → (List ((List UInt8) × Int)) → (List ((List UInt8) × Int)) → (List (Int × (List UInt8) × (List UInt8) × Int)) → Int → Bool → Int → Int → Option (Int × (Int × (List ((List UInt8) × Int)) × (List ((List UInt8) × Int)) × (List ((List UInt8) × Int)) × (List (Int × (List UInt8) × (List UInt8) × Int)) × Int × Bool × Int))) (x0_0_l2 : Int) (x0_1_l2 : List ((List UInt8) × Int)) (x0_2_l2 : List ((List UInt8) × Int)) (x0_3_l2 : List ((List UInt8) × Int)) (x0_4_l2 : List (Int × (List UInt8) × (List UInt8) × Int)) (x0_5_l2 : Int) (x0_6_l2 : Bool) (x0_7_l2 : Int) (x10_l2 : Int) : Option (Int × (Int × (List ((List UInt8) × Int)) × (List ((List UInt8) × Int)) × (List ((List UInt8) × Int)) × (List (Int × (List UInt8) × (List UInt8) × Int)) × Int × Bool × Int)) :=
  if x10_l2 < (List.length a2 : Int) then (need ((0 : Int) ≤ x10_l2 ∧ x10_l2 ≤ min (i64 (x10_l2 + a3)) (List.length a2 : Int) ∧ (min (i64 (x10_l2 + a3)) (List.length a2 : Int)) ≤ (List.length a2 : Int)) (bnd1 (m_ref35_EncodeBlock (List.take (Int.toNat (min (i64 (x10_l2 + a3)) (List.length a2 : Int)) - Int.toNat x10_l2) (List.drop (Int.toNat x10_l2) a2))) (fun y29 => bnd1 (m_ref35_Disk_Append (x0_0_l2, x0_1_l2, x0_2_l2, x0_3_l2, x0_4_l2, x0_5_l2, x0_6_l2, x0_7_l2) a1 y29.1) (fun y30 => if ¬ y30.1 = 0 then (some (y30.1, (y30.2.1, y30.2.2.1, y30.2.2.2.1, y30.2.2.2.2.1, y30.2.2.2.2.2.1, y30.2.2.2.2.2.2.1, y30.2.2.2.2.2.2.2.1, y30.2.2.2.2.2.2.2.2))) else (rec2 y30.2.1 y30.2.2.1 y30.2.2.2.1 y30.2.2.2.2.1 y30.2.2.2.2.2.1 y30.2.2.2.2.2.2.1 y30.2.2.2.2.2.2.2.1 y30.2.2.2.2.2.2.2.2 (i64 (x10_l2 + a3))))))) else (k11 x0_0_l2 x0_1_l2 x0_2_l2 x0_3_l2 x0_4_l2 x0_5_l2 x0_6_l2 x0_7_l2)
noncomputable def m_ref35_Write_L2 (a1 : List UInt8) (a2 : List (Int × Int)) (a3 : Int) (k11 : Int → (List ((List UInt8) × Int)) → (List ((List UInt8) × Int)) → (List ((List UInt8) × Int)) → (List (Int × (List UInt8) × (List UInt8) × Int)) → Int → Bool → Int → Option (Int × (Int × (List ((List UInt8) × Int)) × (List ((List UInt8) × Int)) × (List ((List UInt8) × Int)) × (List (Int × (List UInt8) × (List UInt8) × Int)) × Int × Bool × Int))) : Nat → Int → (List ((List UInt8) × Int)) → (List ((List UInt8) × Int)) → (List ((List UInt8) × Int)) → (List (Int × (List UInt8) × (List UInt8) × Int)) → Int → Bool → Int → Int → Option (Int × (Int × (List ((List UInt8) × Int)) × (List ((List UInt8) × Int)) × (List ((List UInt8) × Int)) × (List (Int × (List UInt8) × (List UInt8) × Int)) × Int × Bool × Int))
  | 0, _, _, _, _, _, _, _, _, _ => none
  | n + 1, x0_0_l2, x0_1_l2, x0_2_l2, x0_3_l2, x0_4_l2, x0_5_l2, x0_6_l2, x0_7_l2, x10_l2 => m_ref35_Write_B2 a1 a2 a3 k11 (m_ref35_Write_L2 a1 a2 a3 k11 n) x0_0_l2 x0_1_l2 x0_2_l2 x0_3_l2 x0_4_l2 x0_5_l2 x0_6_l2 x0_7_l2 x10_l2
noncomputable def m_ref35_Write (a0 : Int × (List ((List UInt8) × Int)) × (List ((List UInt8) × Int)) × (List ((List UInt8) × Int)) × (List (Int × (List UInt8) × (List UInt8) × Int)) × Int × Bool × Int) (a1 : List UInt8) (a2 : List (Int × Int)) (a3 : Int) : Option (Int × (Int × (List ((List UInt8) × Int)) × (List ((List UInt8) × Int)) × (List ((List UInt8) × Int)) × (List (Int × (List UInt8) × (List UInt8) × Int)) × Int × Bool × Int)) :=
  jn (fun (x24_j5 : Bool) => if x24_j5 then (some (1, (a0.1, a0.2.1, a0.2.2.1, a0.2.2.2.1, a0.2.2.2.2.1, a0.2.2.2.2.2.1, a0.2.2.2.2.2.2.1, a0.2.2.2.2.2.2.2))) else (jn (fun (x0_0_j8 : Int) (x0_1_j8 : List ((List UInt8) × Int)) (x0_2_j8 : List ((List UInt8) × Int)) (x0_3_j8 : List ((List UInt8) × Int)) (x0_4_j8 : List (Int × (List UInt8) × (List UInt8) × Int)) (x0_5_j8 : Int) (x0_6_j8 : Bool) (x0_7_j8 : Int) => jn (fun (x0_0_j11 : Int) (x0_1_j11 : List ((List UInt8) × Int)) (x0_2_j11 : List ((List UInt8) × Int)) (x0_3_j11 : List ((List UInt8) × Int)) (x0_4_j11 : List (Int × (List UInt8) × (List UInt8) × Int)) (x0_5_j11 : Int) (x0_6_j11 : Bool) (x0_7_j11 : Int) => bnd1 (m_ref35_Disk_Sync (x0_0_j11, x0_1_j11, x0_2_j11, x0_3_j11, x0_4_j11, x0_5_j11, x0_6_j11, x0_7_j11) a1) (fun y31 => some (y31.1, (y31.2.1, y31.2.2.1, y31.2.2.2.1, y31.2.2.2.2.1, y31.2.2.2.2.2.1, y31.2.2.2.2.2.2.1, y31.2.2.2.2.2.2.2.1, y31.2.2.2.2.2.2.2.2)))) (fun k11 => m_ref35_Write_L2 a1 a2 a3 k11 FU x0_0_j8 x0_1_j8 x0_2_j8 x0_3_j8 x0_4_j8 x0_5_j8 x0_6_j8 x0_7_j8 0)) (fun k8 => if (List.length a2 : Int) = 0 then (bnd1 (m_ref35_Disk_Append (a0.1, a0.2.1, a0.2.2.1, a0.2.2.2.1, a0.2.2.2.2.1, a0.2.2.2.2.2.1, a0.2.2.2.2.2.2.1, a0.2.2.2.2.2.2.2) a1 ([] : List UInt8)) (fun y10 => if ¬ y10.1 = 0 then (some (y10.1, (y10.2.1, y10.2.2.1, y10.2.2.2.1, y10.2.2.2.2.1, y10.2.2.2.2.2.1, y10.2.2.2.2.2.2.1, y10.2.2.2.2.2.2.2.1, y10.2.2.2.2.2.2.2.2))) else (k8 y10.2.1 y10.2.2.1 y10.2.2.2.1 y10.2.2.2.2.1 y10.2.2.2.2.2.1 y10.2.2.2.2.2.2.1 y10.2.2.2.2.2.2.2.1 y10.2.2.2.2.2.2.2.2))) else (k8 a0.1 a0.2.1 a0.2.2.1 a0.2.2.2.1 a0.2.2.2.2.1 a0.2.2.2.2.2.1 a0.2.2.2.2.2.2.1 a0.2.2.2.2.2.2.2)))) (fun k5 => bnd1 (m_ref35_IsRun a2) (fun y7 => if !y7 then (k5 true) else (if a3 < 1 then (k5 true) else (k5 (decide (1024 < a3))))))
/- (*cspcheck.cspcheckref35.Disk).Read -/
noncomputable def m_ref35_Disk_Read (a0 : Int × (List ((List UInt8) × Int)) × (List ((List UInt8) × Int)) × (List ((List UInt8) × Int)) × (List (Int × (List UInt8) × (List UInt8) × Int)) × Int × Bool × Int) (a1 : List UInt8) : Option ((List UInt8) × Int × (Int × (List ((List UInt8) × Int)) × (List ((List UInt8) × Int)) × (List ((List UInt8) × Int)) × (List (Int × (List UInt8) × (List UInt8) × Int)) × Int × Bool × Int)) :=
  bnd1 (m_ref35_Disk_missing (a0.1, a0.2.1, a0.2.2.1, a0.2.2.2.1, a0.2.2.2.2.1, a0.2.2.2.2.2.1, a0.2.2.2.2.2.2.1, a0.2.2.2.2.2.2.2) a1) (fun y1 => if ¬ y1 = 0 then (some ([], y1, (a0.1, a0.2.1, a0.2.2.1, a0.2.2.2.1, a0.2.2.2.2.1, a0.2.2.2.2.2.1, a0.2.2.2.2.2.2.1, a0.2.2.2.2.2.2.2))) else (bnd1 (m_ref35_find a0.2.2.1 a1) (fun y2 => need ((0 : Int) ≤ y2 ∧ y2 < (List.length a0.2.1 : Int)) (need (List.length ([] : List UInt8) + List.length ((gi a0.2.1 y2).1) ≤ 137438953472) (some ((([] : List UInt8) ++ ((gi a0.2.1 y2).1)), 0, (a0.1, a0.2.1, a0.2.2.1, a0.2.2.2.1, a0.2.2.2.2.1, a0.2.2.2.2.2.1, a0.2.2.2.2.2.2.1, a0.2.2.2.2.2.2.2)))))))
/- cspcheck.cspcheckref35.Read -/
noncomputable def m_ref35_Read_B2 (y1 : (List UInt8) × Int × (Int × (List ((List UInt8) × Int)) × (List ((List UInt8) × Int)) × (List ((List UInt8) × Int)) × (List (Int × (List UInt8) × (List UInt8) × Int)) × Int × Bool × Int)) (k2 : (List (Int × Int)) → Int → Option ((List (Int × Int)) × Int × Int × (Int × (List ((List UInt8) × Int)) × (List ((List UInt8) × Int)) × (List ((List UInt8) × Int)) × (List (Int × (List UInt8) × (List UInt8) × Int)) × Int × Bool × Int))) (rec2 : (List (Int × Int)) → Int → Int → Option ((List (Int × Int)) × Int × Int × (Int × (List ((List UInt8) × Int)) × (List ((List UInt8) × Int)) × (List ((List UInt8) × Int)) × (List (Int × (List UInt8) × (List UInt8) × Int)) × Int × Bool × Int))) (x9_l2 : List (Int × Int)) (x10_l2 : Int) (x11_l2 : Int) : Option ((List (Int × Int)) × Int × Int × (Int × (List ((List UInt8) × Int)) × (List ((List UInt8) × Int)) × (List ((List UInt8) × Int)) × (List (Int × (List UInt8) × (List UInt8) × Int)) × Int × Bool × Int)) :=
  if x11_l2 < (List.length y1.1 : Int) then (bnd1 (m_ref35_DecodeBlock y1.1 x11_l2) (fun y78 => if ¬ y78.2.2 = 0 then (some ([], 0, y78.2.2, (y1.2.2.1, y1.2.2.2.1, y1.2.2.2.2.1, y1.2.2.2.2.2.1, y1.2.2.2.2.2.2.1, y1.2.2.2.2.2.2.2.1, y1.2.2.2.2.2.2.2.2.1, y1.2.2.2.2.2.2.2.2.2))) else (jn (fun (x53_j87 : Bool) => if x53_j87 then (some ([], 0, 22, (y1.2.2.1, y1.2.2.2.1, y1.2.2.2.2.1, y1.2.2.2.2.2.1, y1.2.2.2.2.2.2.1, y1.2.2.2.2.2.2.2.1, y1.2.2.2.2.2.2.2.2.1, y1.2.2.2.2.2.2.2.2.2))) else (need (List.length x9_l2 + List.length y78.1 ≤ 137438953472) (rec2 (x9_l2 ++ y78.1) (i64 (x10_l2 + 1)) y78.2.1))) (fun k87 => if 0 < (List.length x9_l2 : Int) then (need ((0 : Int) ≤ 0 ∧ 0 < (List.length y78.1 : Int)) (need ((0 : Int) ≤ i64 ((List.length x9_l2 : Int) - 1) ∧ (i64 ((List.length x9_l2 : Int) - 1)) < (List.length x9_l2 : Int)) (bnd1 (m_ref35_Less (gi x9_l2 (i64 ((List.length x9_l2 : Int) - 1))) (gi y78.1 0)) (fun y93 => k87 (!y93))))) else (k87 false))))) else (k2 x9_l2 x10_l2)
noncomputable def m_ref35_Read_L2 (y1 : (List UInt8) × Int × (Int × (List ((List UInt8) × Int)) × (List ((List UInt8) × Int)) × (List ((List UInt8) × Int)) × (List (Int × (List UInt8) × (List UInt8) × Int)) × Int × Bool × Int)) (k2 : (List (Int × Int)) → Int → Option ((List (Int × Int)) × Int × Int × (Int × (List ((List UInt8) × Int)) × (List ((List UInt8) × Int)) × (List ((List UInt8) × Int)) × (List (Int × (List UInt8) × (List UInt8) × Int)) × Int × Bool × Int))) : Nat → (List (Int × Int)) → Int → Int → Option ((List (Int × Int)) × Int × Int × (Int × (List ((List UInt8) × Int)) × (List ((List UInt8) × Int)) × (List ((List UInt8) × Int)) × (List (Int × (List UInt8) × (List UInt8) × Int)) × Int × Bool × Int))
  | 0, _, _, _ => none
  | n + 1, x9_l2, x10_l2, x11_l2 => m_ref35_Read_B2 y1 k2 (m_ref35_Read_L2 y1 k2 n) x9_l2 x10_l2 x11_l2
noncomputable def m_ref35_Read (a0 : Int × (List ((List UInt8) × Int)) × (List ((List UInt8) × Int)) × (List ((List UInt8) × Int)) × (List (Int × (List UInt8) × (List UInt8) × Int)) × Int × Bool × Int) (a1 : List UInt8) : Option ((List (Int × Int)) × Int × Int × (Int × (List ((List UInt8) × Int)) × (List ((List UInt8) × Int)) × (List ((List UInt8) × Int)) × (List (Int × (List UInt8) × (List UInt8) × Int)) × Int × Bool × Int)) :=
  bnd1 (m_ref35_Disk_Read (a0.1, a0.2.1, a0.2.2.1, a0.2.2.2.1, a0.2.2.2.2.1, a0.2.2.2.2.2.1, a0.2.2.2.2.2.2.1, a0.2.2.2.2.2.2.2) a1) (fun y1 => if ¬ y1.2.1 = 0 then (some ([], 0, y1.2.1, (y1.2.2.1, y1.2.2.2.1, y1.2.2.2.2.1, y1.2.2.2.2.2.1, y1.2.2.2.2.2.2.1, y1.2.2.2.2.2.2.2.1, y1.2.2.2.2.2.2.2.2.1, y1.2.2.2.2.2.2.2.2.2))) else (jn (fun (x9_j2 : List (Int × Int)) (x10_j2 : Int) => some (x9_j2, x10_j2, 0, (y1.2.2.1, y1.2.2.2.1, y1.2.2.2.2.1, y1.2.2.2.2.2.1, y1.2.2.2.2.2.2.1, y1.2.2.2.2.2.2.2.1, y1.2.2.2.2.2.2.2.2.1, y1.2.2.2.2.2.2.2.2.2))) (fun k2 => m_ref35_Read_L2 y1 k2 FU [] 0 0)))
/- cspcheck.cspcheckref35.pick -/
noncomputable def m_ref35_pick (a0 : List Int) (a1 : Int) : Option Int :=
  if (List.length a0 : Int) ≤ a1 then (some 0) else (need ((0 : Int) ≤ a1 ∧ a1 < (List.length a0 : Int)) (some (max (gi a0 a1) 0)))
/- (*cspcheck.cspcheckref35.Disk).Crash -/
noncomputable def m_ref35_Disk_Crash_B2 (a0 : Int × (List ((List UInt8) × Int)) × (List ((List UInt8) × Int)) × (List ((List UInt8) × Int)) × (List (Int × (List UInt8) × (List UInt8) × Int)) × Int × Bool × Int) (a1 : List Int) (k1 : (List ((List UInt8) × Int)) → Option (Int × (List ((List UInt8) × Int)) × (List ((List UInt8) × Int)) × (List ((List UInt8) × Int)) × (List (Int × (List UInt8) × (List UInt8) × Int)) × Int × Bool × Int)) (rec2 : (List ((List UInt8) × Int)) → Int → Option (Int × (List ((List UInt8) × Int)) × (List ((List UInt8) × Int)) × (List ((List UInt8) × Int)) × (List (Int × (List UInt8) × (List UInt8) × Int)) × Int × Bool × Int)) (x4_l2 : List ((List UInt8) × Int)) (x5_l2 : Int) : Option (Int × (List ((List UInt8) × Int)) × (List ((List UInt8) × Int)) × (List ((List UInt8) × Int)) × (List (Int × (List UInt8) × (List UInt8) × Int)) × Int × Bool × Int) :=
  bnd1 (m_ref35_pick a1 0) (fun y23 => need ((i64 ((List.length a0.2.2.2.2.1 : Int) + 1)) ≠ 0) (if x5_l2 < (Int.tmod y23 (i64 ((List.length a0.2.2.2.2.1 : Int) + 1))) then (need ((0 : Int) ≤ x5_l2 ∧ x5_l2 < (List.length a0.2.2.2.2.1 : Int)) (bnd1 (m_ref35_done x4_l2 (gi a0.2.2.2.2.1 x5_l2)) (fun y26 => rec2 y26 (i64 (x5_l2 + 1))))) else (k1 x4_l2)))
noncomputable def m_ref35_Disk_Crash_L2 (a0 : Int × (List ((List UInt8) × Int)) × (List ((List UInt8) × Int)) × (List ((List UInt8) × Int)) × (List (Int × (List UInt8) × (List UInt8) × Int)) × Int × Bool × Int) (a1 : List Int) (k1 : (List ((List UInt8) × Int)) → Option (Int × (List ((List UInt8) × Int)) × (List ((List UInt8) × Int)) × (List ((List UInt8) × Int)) × (List (Int × (List UInt8) × (List UInt8) × Int)) × Int × Bool × Int)) : Nat → (List ((List UInt8) × Int)) → Int → Option (Int × (List ((List UInt8) × Int)) × (List ((List UInt8) × Int)) × (List ((List UInt8) × Int)) × (List (Int × (List UInt8) × (List UInt8) × Int)) × Int × Bool × Int)
  | 0, _, _ => none
  | n + 1, x4_l2, x5_l2 => m_ref35_Disk_Crash_B2 a0 a1 k1 (m_ref35_Disk_Crash_L2 a0 a1 k1 n) x4_l2 x5_l2
noncomputable def m_ref35_Disk_Crash_B4 (a1 : List Int) (x4_j1 : List ((List UInt8) × Int)) (k30 : (List ((List UInt8) × Int)) → Option (Int × (List ((List UInt8) × Int)) × (List ((List UInt8) × Int)) × (List ((List UInt8) × Int)) × (List (Int × (List UInt8) × (List UInt8) × Int)) × Int × Bool × Int)) (rec4 : (List ((List UInt8) × Int)) → Int → Int → Option (Int × (List ((List UInt8) × Int)) × (List ((List UInt8) × Int)) × (List ((List UInt8) × Int)) × (List (Int × (List UInt8) × (List UInt8) × Int)) × Int × Bool × Int)) (x6_l4 : List ((List UInt8) × Int)) (x7_l4 : Int) (x8_l4 : Int) : Option (Int × (List ((List UInt8) × Int)) × (List ((List UInt8) × Int)) × (List ((List UInt8) × Int)) × (List (Int × (List UInt8) × (List UInt8) × Int)) × Int × Bool × Int) :=
  if x8_l4 < (List.length x4_j1 : Int) then (need ((0 : Int) ≤ x8_l4 ∧ x8_l4 < (List.length x4_j1 : Int)) (jn (fun (x6_j259 : List ((List UInt8) × Int)) (x7_j259 : Int) => need ((0 : Int) ≤ (gi x4_j1 x8_l4).2 ∧ ((gi x4_j1 x8_l4).2) < (List.length x6_j259 : Int)) (need ((0 : Int) ≤ (gi x4_j1 x8_l4).2 ∧ ((gi x4_j1 x8_l4).2) < (List.length x6_j259 : Int)) (rec4 (List.set x6_j259 (Int.toNat ((gi x4_j1 x8_l4).2)) ((gi x6_j259 ((gi x4_j1 x8_l4).2)).1, (List.length ((gi x6_j259 ((gi x4_j1 x8_l4).2)).1) : Int))) x7_j259 (i64 (x8_l4 + 1))))) (fun k259 => need ((0 : Int) ≤ (gi x4_j1 x8_l4).2 ∧ ((gi x4_j1 x8_l4).2) < (List.length x6_l4 : Int)) (need ((0 : Int) ≤ (gi x4_j1 x8_l4).2 ∧ ((gi x4_j1 x8_l4).2) < (List.length x6_l4 : Int)) (if 0 < (i64 ((List.length ((gi x6_l4 ((gi x4_j1 x8_l4).2)).1) : Int) - ((gi x6_l4 ((gi x4_j1 x8_l4).2)).2))) then (bnd1 (m_ref35_pick a1 x7_l4) (fun y270 => need ((i64 ((i64 ((List.length ((gi x6_l4 ((gi x4_j1 x8_l4).2)).1) : Int) - ((gi x6_l4 ((gi x4_j1 x8_l4).2)).2))) + 1)) ≠ 0) (need ((0 : Int) ≤ (gi x4_j1 x8_l4).2 ∧ ((gi x4_j1 x8_l4).2) < (List.length x6_l4 : Int)) (need ((0 : Int) ≤ (gi x4_j1 x8_l4).2 ∧ ((gi x4_j1 x8_l4).2) < (List.length x6_l4 : Int)) (need (0 ≤ i64 (((gi x6_l4 ((gi x4_j1 x8_l4).2)).2) + (Int.tmod y270 (i64 ((i64 ((List.length ((gi x6_l4 ((gi x4_j1 x8_l4).2)).1) : Int) - ((gi x6_l4 ((gi x4_j1 x8_l4).2)).2))) + 1)))) ∧ (i64 (((gi x6_l4 ((gi x4_j1 x8_l4).2)).2) + (Int.tmod y270 (i64 ((i64 ((List.length ((gi x6_l4 ((gi x4_j1 x8_l4).2)).1) : Int) - ((gi x6_l4 ((gi x4_j1 x8_l4).2)).2))) + 1))))) ≤ (List.length ((gi x6_l4 ((gi x4_j1 x8_l4).2)).1) : Int)) (need ((0 : Int) ≤ (gi x4_j1 x8_l4).2 ∧ ((gi x4_j1 x8_l4).2) < (List.length x6_l4 : Int)) (k259 (List.set x6_l4 (Int.toNat ((gi x4_j1 x8_l4).2)) (List.take (Int.toNat (i64 (((gi x6_l4 ((gi x4_j1 x8_l4).2)).2) + (Int.tmod y270 (i64 ((i64 ((List.length ((gi x6_l4 ((gi x4_j1 x8_l4).2)).1) : Int) - ((gi x6_l4 ((gi x4_j1 x8_l4).2)).2))) + 1)))))) ((gi x6_l4 ((gi x4_j1 x8_l4).2)).1), (gi x6_l4 ((gi x4_j1 x8_l4).2)).2)) (i64 (x7_l4 + 1))))))))) else (k259 x6_l4 x7_l4)))))) else (k30 x6_l4)
noncomputable def m_ref35_Disk_Crash_L4 (a1 : List Int) (x4_j1 : List ((List UInt8) × Int)) (k30 : (List ((List UInt8) × Int)) → Option (Int × (List ((List UInt8) × Int)) × (List ((List UInt8) × Int)) × (List ((List UInt8) × Int)) × (List (Int × (List UInt8) × (List UInt8) × Int)) × Int × Bool × Int)) : Nat → (List ((List UInt8) × Int)) → Int → Int → Option (Int × (List ((List UInt8) × Int)) × (List ((List UInt8) × Int)) × (List ((List UInt8) × Int)) × (List (Int × (List UInt8) × (List UInt8) × Int)) × Int × Bool × Int)
  | 0, _, _, _ => none
  | n + 1, x6_l4, x7_l4, x8_l4 => m_ref35_Disk_Crash_B4 a1 x4_j1 k30 (m_ref35_Disk_Crash_L4 a1 x4_j1 k30 n) x6_l4 x7_l4 x8_l4
noncomputable def m_ref35_Disk_Crash (a0 : Int × (List ((List UInt8) × Int)) × (List ((List UInt8) × Int)) × (List ((List UInt8) × Int)) × (List (Int × (List UInt8) × (List UInt8) × Int)) × Int × Bool × Int) (a1 : List Int) : Option (Int × (List ((List UInt8) × Int)) × (List ((List UInt8) × Int)) × (List ((List UInt8) × Int)) × (List (Int × (List UInt8) × (List UInt8) × Int)) × Int × Bool × Int) :=
  jn (fun (x4_j1 : List ((List UInt8) × Int)) => need (List.length ([] : List ((List UInt8) × Int)) + List.length a0.2.1 ≤ 137438953472) (jn (fun (x6_j30 : List ((List UInt8) × Int)) => some (a0.1, x6_j30, x4_j1, x4_j1, [], 0, false, 0)) (fun k30 => m_ref35_Disk_Crash_L4 a1 x4_j1 k30 FU (([] : List ((List UInt8) × Int)) ++ a0.2.1) 1 0))) (fun k1 => m_ref35_Disk_Crash_L2 a0 a1 k1 FU a0.2.2.2.1 0)
/- cspcheck.cspchecklaw36.FrontierFiles -/
noncomputable def m_law36_FrontierFiles_B2 (a1 : Int) (k7 : Dk → Option Bool) (rec2 : (List Int) → Int → Dk → Int → (List ((List UInt8) × Int)) → (List ((List UInt8) × Int)) → (List ((List UInt8) × Int)) → (List (Int × (List UInt8) × (List UInt8) × Int)) → Int → Bool → Int → Int → Option Bool) (x7_0_l2 : List Int) (x7_1_l2 : Int) (x8d_l2 : Dk) (x10_0_l2 : Int) (x10_1_l2 : List ((List UInt8) × Int)) (x10_2_l2 : List ((List UInt8) × Int)) (x10_3_l2 : List ((List UInt8) × Int)) (x10_4_l2 : List (Int × (List UInt8) × (List UInt8) × Int)) (x10_5_l2 : Int) (x10_6_l2 : Bool) (x10_7_l2 : Int) (x12_l2 : Int) : Option Bool :=
  if x12_l2 < 5 then (jn (fun (x7_0_j444 : List Int) (x7_1_j444 : Int) (x8d_j444 : Dk) (x10_0_j444 : Int) (x10_1_j444 : List ((List UInt8) × Int)) (x10_2_j444 : List ((List UInt8) × Int)) (x10_3_j444 : List ((List UInt8) × Int)) (x10_4_j444 : List (Int × (List UInt8) × (List UInt8) × Int)) (x10_5_j444 : Int) (x10_6_j444 : Bool) (x10_7_j444 : Int) => rec2 x7_0_j444 x7_1_j444 x8d_j444 x10_0_j444 x10_1_j444 x10_2_j444 x10_3_j444 x10_4_j444 x10_5_j444 x10_6_j444 x10_7_j444 (i64 (x12_l2 + 1))) (fun k444 => bnd1 (m_law36_run (x7_0_l2, x7_1_l2) 9) (fun y488 => bnd1 (m_gen2_Tape_Next (y488.2.1, y488.2.2) 5) (fun y489 => jn (fun (x14_j490 : Int) => jn (fun (x7_0_j491 : List Int) (x7_1_j491 : Int) (x13_j491 : List (Int × Int)) => jn (fun (x7_0_j496 : List Int) (x7_1_j496 : Int) (x8d_j496 : Dk) (x10_0_j496 : Int) (x10_1_j496 : List ((List UInt8) × Int)) (x10_2_j496 : List ((List UInt8) × Int)) (x10_3_j496 : List ((List UInt8) × Int)) (x10_4_j496 : List (Int × (List UInt8) × (List UInt8) × Int)) (x10_5_j496 : Int) (x10_6_j496 : Bool) (x10_7_j496 : Int) => bnd1 (m_frontier_Write x8d_j496 [114] x13_j491 x14_j490) (fun y505 => bnd1 (m_ref35_Write (x10_0_j496, x10_1_j496, x10_2_j496, x10_3_j496, x10_4_j496, x10_5_j496, x10_6_j496, x10_7_j496) [114] x13_j491 x14_j490) (fun y507 => bnd1 (m_frontier_Read y505.2 [114]) (fun y508 => bnd1 (m_ref35_Read (y507.2.1, y507.2.2.1, y507.2.2.2.1, y507.2.2.2.2.1, y507.2.2.2.2.2.1, y507.2.2.2.2.2.2.1, y507.2.2.2.2.2.2.2.1, y507.2.2.2.2.2.2.2.2) [114]) (fun y510 => bnd1 (m_frontier_Blocks y508.2.2 [114]) (fun y511 => jn (fun (x8d_j521 : Dk) (x114_j521 : Bool) => if x114_j521 then (some false) else (if y510.2.2.2.2.2.2.2.2.2.1 then (bnd1 (m_disk_Crash x8d_j521 [1, x12_l2]) (fun y528 => bnd1 (m_ref35_Disk_Crash (y510.2.2.2.1, y510.2.2.2.2.1, y510.2.2.2.2.2.1, y510.2.2.2.2.2.2.1, y510.2.2.2.2.2.2.2.1, y510.2.2.2.2.2.2.2.2.1, y510.2.2.2.2.2.2.2.2.2.1, y510.2.2.2.2.2.2.2.2.2.2) [1, x12_l2]) (fun y530 => k444 x7_0_j496 x7_1_j496 y528 y530.1 y530.2.1 y530.2.2.1 y530.2.2.2.1 y530.2.2.2.2.1 y530.2.2.2.2.2.1 y530.2.2.2.2.2.2.1 y530.2.2.2.2.2.2.2))) else (k444 x7_0_j496 x7_1_j496 x8d_j521 y510.2.2.2.1 y510.2.2.2.2.1 y510.2.2.2.2.2.1 y510.2.2.2.2.2.2.1 y510.2.2.2.2.2.2.2.1 y510.2.2.2.2.2.2.2.2.1 y510.2.2.2.2.2.2.2.2.2.1 y510.2.2.2.2.2.2.2.2.2.2))) (fun k521 => if ¬ y505.1 = y507.1 then (k521 y511.2.2 true) else (if ¬ y508.2.1 = y510.2.2.1 then (k521 y511.2.2 true) else (if ¬ y511.2.1 = y510.2.2.1 then (k521 y511.2.2 true) else (bnd1 (m_law36_same y508.1 y510.1) (fun y525 => if !y525 then (k521 y511.2.2 true) else (if ¬ y511.1 = y510.2.1 then (k521 y511.2.2 true) else (bnd1 (m_disk_Writes y511.2.2) (fun y526 => k521 y526.2 (decide (¬ y526.1 = y510.2.2.2.2.2.2.2.2.2.2)))))))))))))))) (fun k496 => bnd1 (m_gen2_Tape_Next (x7_0_j491, x7_1_j491) 4) (fun y501 => if y501.1 = 0 then (bnd1 (m_disk_Fail x8d_l2 3) (fun y502 => bnd1 (m_ref35_Disk_Fail (x10_0_l2, x10_1_l2, x10_2_l2, x10_3_l2, x10_4_l2, x10_5_l2, x10_6_l2, x10_7_l2) 3) (fun y504 => k496 y501.2.1 y501.2.2 y502 y504.1 y504.2.1 y504.2.2.1 y504.2.2.2.1 y504.2.2.2.2.1 y504.2.2.2.2.2.1 y504.2.2.2.2.2.2.1 y504.2.2.2.2.2.2.2))) else (k496 y501.2.1 y501.2.2 x8d_l2 x10_0_l2 x10_1_l2 x10_2_l2 x10_3_l2 x10_4_l2 x10_5_l2 x10_6_l2 x10_7_l2)))) (fun k491 => bnd1 (m_gen2_Tape_Next (y489.2.1, y489.2.2) 4) (fun y494 => if y494.1 = 0 then (bnd1 (m_law36_pairs (y494.2.1, y494.2.2) 5) (fun y495 => k491 y495.2.1 y495.2.2 y495.1)) else (k491 y494.2.1 y494.2.2 y488.1)))) (fun k490 => if x12_l2 = 4 then (k490 a1) else (k490 y489.1)))))) else (k7 x8d_l2)
noncomputable def m_law36_FrontierFiles_L2 (a1 : Int) (k7 : Dk → Option Bool) : Nat → (List Int) → Int → Dk → Int → (List ((List UInt8) × Int)) → (List ((List UInt8) × Int)) → (List ((List UInt8) × Int)) → (List (Int × (List UInt8) × (List UInt8) × Int)) → Int → Bool → Int → Int → Option Bool
  | 0, _, _, _, _, _, _, _, _, _, _, _, _ => none
  | n + 1, x7_0_l2, x7_1_l2, x8d_l2, x10_0_l2, x10_1_l2, x10_2_l2, x10_3_l2, x10_4_l2, x10_5_l2, x10_6_l2, x10_7_l2, x12_l2 => m_law36_FrontierFiles_B2 a1 k7 (m_law36_FrontierFiles_L2 a1 k7 n) x7_0_l2 x7_1_l2 x8d_l2 x10_0_l2 x10_1_l2 x10_2_l2 x10_3_l2 x10_4_l2 x10_5_l2 x10_6_l2 x10_7_l2 x12_l2
noncomputable def m_law36_FrontierFiles (a0 : List Int) (a1 : Int) (a2 : List (Int × Int)) : Option Bool :=
  bnd1 (m_gen2_New a0) (fun y1 => bnd1 (m_disk_New 300) (fun y3 => bnd1 (m_ref35_New 300) (fun y5 => jn (fun (x8d_j7 : Dk) => bnd1 (m_frontier_Write x8d_j7 [115] a2 1) (fun y531 => jn (fun (x6_j533 : Bool) => some x6_j533) (fun k533 => if 100 < (List.length a2 : Int) then (k533 true) else (bnd1 (m_ref35_IsRun a2) (fun y536 => if (decide (¬ y531.1 = 1)) = y536 then (bnd1 (m_law36_sane) (fun y537 => k533 y537)) else (k533 false)))))) (fun k7 => m_law36_FrontierFiles_L2 a1 k7 FU y1.1 y1.2 y3.1 y5.1.1 y5.1.2.1 y5.1.2.2.1 y5.1.2.2.2.1 y5.1.2.2.2.2.1 y5.1.2.2.2.2.2.1 y5.1.2.2.2.2.2.2.1 y5.1.2.2.2.2.2.2.2 0))))
end Go.Proofs.Ytkplmgdmkfgjhaa
/- Laws of the words of the models, and of bytes: no program in sight. -/
namespace Go.Proofs.Ytkplmgdmkfgjhaa

theorem jn_eq {κ ρ : Type} (k : κ) (m : κ → ρ) : jn k m = m k := by
  have h : jn k m = m k := rfl
  exact h
theorem bnd1_mk {α ρ : Type} (a : α) (k : α → Option ρ) : bnd1 (some a) k = k a := by
  have h : bnd1 (some a) k = k a := rfl
  exact h
theorem FU_ge : 18446744073709551616 ≤ FU := Nat.le_refl _
theorem wrap_i64 (x : Int) (h : -9223372036854775808 ≤ x ∧ x ≤ 9223372036854775807) : IntKind.i64.wrap x = x := i64_id h
theorem wrap_i64_range (x : Int) : -9223372036854775808 ≤ IntKind.i64.wrap x ∧ IntKind.i64.wrap x ≤ 9223372036854775807 := by
  unfold IntKind.wrap IntKind.bits IntKind.signed
  simp; split <;> omega
theorem wrap_u32 (x : Int) : IntKind.u32.wrap x = x % 4294967296 := by
  unfold IntKind.wrap IntKind.bits IntKind.signed
  simp
theorem bv_nat (w : Nat) (m : Nat) (h : m < 2 ^ w) : (BitVec.ofInt w (m : Int)).toNat = m := by
  rw [BitVec.toNat_ofInt]
  have h1 : ((m : Int) % (2 ^ w : Nat)) = (m : Int) := Int.emod_eq_of_lt (by omega) (by exact_mod_cast h)
  rw [h1]; rfl
theorem bAnd_nat (m k : Nat) (hm : m < 2 ^ 63) (hk : k < 2 ^ 63) : bAnd .i64 (m : Int) (k : Int) = ((m &&& k : Nat) : Int) := by
  unfold bAnd
  rw [BitVec.toNat_and, show IntKind.i64.bits = 64 from rfl, bv_nat 64 m (by omega), bv_nat 64 k (by omega), wrap_i64]
  have := Nat.and_le_left (n := m) (m := k)
  omega
theorem bOr_nat (m k : Nat) (hm : m < 2 ^ 63) (hk : k < 2 ^ 63) : bOr .i64 (m : Int) (k : Int) = ((m ||| k : Nat) : Int) := by
  unfold bOr
  rw [BitVec.toNat_or, show IntKind.i64.bits = 64 from rfl, bv_nat 64 m (by omega), bv_nat 64 k (by omega), wrap_i64]
  have := Nat.or_lt_two_pow hm hk
  omega
theorem bAnd32_nat (m k : Nat) (hm : m < 2 ^ 32) (hk : k < 2 ^ 32) : bAnd .u32 (m : Int) (k : Int) = ((m &&& k : Nat) : Int) := by
  unfold bAnd
  rw [BitVec.toNat_and, show IntKind.u32.bits = 32 from rfl, bv_nat 32 m (by omega), bv_nat 32 k (by omega), wrap_u32]
  have := Nat.and_le_left (n := m) (m := k)
  omega
theorem bXor_range (x y : Int) : 0 ≤ bXor .u32 x y ∧ bXor .u32 x y < 4294967296 := by
  unfold bXor; rw [wrap_u32]; omega
/-- A further seven bits. -/
theorem bOr_shift (x y s : Nat) (hx : x < 2 ^ s) (hy : y < 128) (hs : s ≤ 28) : bOr .i64 (x : Int) ((y * 2 ^ s : Nat) : Int) = ((x + y * 2 ^ s : Nat) : Int) := by
  have h2 : 2 ^ s ≤ 2 ^ 28 := Nat.pow_le_pow_right (by omega) hs
  have h3 : y * 2 ^ s ≤ 127 * 2 ^ 28 := Nat.mul_le_mul (by omega) h2
  rw [bOr_nat _ _ (by omega) (by omega)]
  have := Nat.two_pow_add_eq_or_of_lt hx y
  rw [Nat.mul_comm] at this
  rw [Nat.or_comm, ← this, Nat.add_comm]
theorem and_127 (m : Nat) : m &&& 127 = m % 128 := Nat.and_two_pow_sub_one_eq_mod m 7
theorem u8_and127 (b : UInt8) : (b &&& 127).toNat = b.toNat % 128 := by
  rw [UInt8.toNat_and]; exact and_127 _
end Go.Proofs.Ytkplmgdmkfgjhaa
/- Runs of pairs: the two tests agree. -/
namespace Go.Proofs.Ytkplmgdmkfgjhaa
attribute [local irreducible] FU

def OkP (p : Int × Int) : Prop := 0 ≤ p.1 ∧ p.1 ≤ 2147483647 ∧ 0 ≤ p.2 ∧ p.2 ≤ 2147483647
def LtP (p q : Int × Int) : Prop := p.1 < q.1 ∨ (p.1 = q.1 ∧ p.2 < q.2)
instance (p : Int × Int) : Decidable (OkP p) := inferInstanceAs (Decidable (_ ∧ _))
instance (p q : Int × Int) : Decidable (LtP p q) := inferInstanceAs (Decidable (_ ∨ _))
theorem FU_k (k : Nat) (h : k ≤ 4611686018427387904) : ∃ n, FU = n + k := ⟨FU - k, by have := FU_ge; omega⟩

theorem fIsPair (p : Int × Int) : m_frontier_isPair p = some (decide (OkP p)) := by
  unfold m_frontier_isPair OkP
  simp only [jn_eq]
  by_cases h1 : 0 ≤ p.1 <;> by_cases h2 : 0 ≤ p.2 <;> by_cases h3 : p.1 ≤ 2147483647 <;> simp [h1, h2, h3]
theorem rIsPair (p : Int × Int) : m_ref35_isPair p = some (decide (OkP p)) := by
  unfold m_ref35_isPair OkP
  simp only [jn_eq]
  by_cases h1 : 0 ≤ p.1 <;> by_cases h2 : 0 ≤ p.2 <;> by_cases h3 : p.1 ≤ 2147483647 <;> simp [h1, h2, h3]
theorem rLess (p q : Int × Int) : m_ref35_Less p q = some (decide (LtP p q)) := by
  unfold m_ref35_Less LtP
  simp only [jn_eq]
  by_cases h1 : p.1 < q.1 <;> by_cases h2 : p.1 = q.1 <;> simp [h1, h2]
theorem cCmp (a b : Int) : m_cmp_Compare_int a b = some (if a < b then -1 else if b < a then 1 else 0) := by
  unfold m_cmp_Compare_int m_cmp_isNaN_int
  simp only [bnd1_mk]
  by_cases h1 : a < b <;> by_cases h2 : b < a <;> simp [h1, h2]
theorem fCompare (p q : Int × Int) : m_frontier_compare p q = some (if LtP p q then -1 else if p = q then 0 else 1) := by
  obtain ⟨p1, p2⟩ := p
  obtain ⟨q1, q2⟩ := q
  unfold m_frontier_compare m_slices_Compare_L_int_int LtP
  obtain ⟨n, hn⟩ := FU_k 3 (by omega)
  rw [hn]
  have w1 : i64 (0 + 1) = 1 := rfl
  have w2 : i64 (1 + 1) = 2 := rfl
  have g0 : ∀ a b : Int, gi [a, b] 0 = a := fun _ _ => rfl
  have g1 : ∀ a b : Int, gi [a, b] 1 = b := fun _ _ => rfl
  simp only [jn_eq, m_slices_Compare_L_int_int_L2, m_slices_Compare_L_int_int_B2, cCmp, bnd1_mk, List.length_cons, List.length_nil, w1, w2, g0, g1]
  rcases Int.lt_trichotomy p1 q1 with h | h | h
  · simp [h, need, bnd1_mk]
  · subst h
    rcases Int.lt_trichotomy p2 q2 with h | h | h
    · simp [h, need, bnd1_mk]
    · subst h; simp [need, bnd1_mk]
    · have h1 : ¬ p2 < q2 := by omega
      have h2 : ¬ p2 = q2 := by omega
      simp [h, h1, h2, need, bnd1_mk]
  · have h1 : ¬ p1 < q1 := by omega
    have h2 : ¬ p1 = q1 := by omega
    simp [h, h1, h2, need, bnd1_mk]

/-- Run from place k on. -/
def RunFrom (l : List (Int × Int)) (k : Nat) : Prop := ∀ i : Nat, k ≤ i → i < l.length → OkP (gi l (i : Int)) ∧ (0 < i → LtP (gi l ((i : Int) - 1)) (gi l (i : Int)))
abbrev Run (l : List (Int × Int)) : Prop := RunFrom l 0

theorem run_loop (l : List (Int × Int)) (hl : l.length ≤ 9223372036854775807) : ∀ (m i n1 n2 : Nat), i + m = l.length → m < n1 → m < n2 →
    ∃ b : Bool, m_frontier_isRun_L2 l (fun _ => some true) n1 i = some b ∧ m_ref35_IsRun_L2 l (fun _ => some true) n2 i = some b ∧ (b = true ↔ RunFrom l i) := by
  intro m
  induction m with
  | zero =>
    intro i n1 n2 hi h1 h2
    obtain ⟨n1, rfl⟩ : ∃ n, n1 = n + 1 := ⟨n1 - 1, by omega⟩
    obtain ⟨n2, rfl⟩ : ∃ n, n2 = n + 1 := ⟨n2 - 1, by omega⟩
    obtain rfl : i = l.length := by omega
    exact ⟨true, by simp [m_frontier_isRun_L2, m_frontier_isRun_B2], by simp [m_ref35_IsRun_L2, m_ref35_IsRun_B2], ⟨fun _ j h1 h2 => by omega, fun _ => rfl⟩⟩
  | succ m ih =>
    intro i n1 n2 hi h1 h2
    obtain ⟨n1, rfl⟩ : ∃ n, n1 = n + 1 := ⟨n1 - 1, by omega⟩
    obtain ⟨n2, rfl⟩ : ∃ n, n2 = n + 1 := ⟨n2 - 1, by omega⟩
    have hi8 : (i : Int) < (l.length : Int) := by omega
    have e5 : i64 ((i : Int) + 1) = ((i + 1 : Nat) : Int) := by rw [i64_id (by omega)]; omega
    have e6 : i64 ((i : Int) - 1) = (i : Int) - 1 := i64_id (by omega)
    rw [m_frontier_isRun_L2, m_ref35_IsRun_L2, m_frontier_isRun_B2, m_ref35_IsRun_B2, if_pos hi8, if_pos hi8]
    have hin : (0 : Int) ≤ (i : Int) ∧ (i : Int) < (l.length : Int) := by omega
    simp only [jn_eq, e5, e6, fIsPair, rIsPair, fCompare, rLess, bnd1_mk, need_pos hin]
    obtain ⟨b, r1, r2, r3⟩ := ih (i + 1) n1 n2 (by omega) (by omega) (by omega)
    have hstep : RunFrom l i ↔ (OkP (gi l (i : Int)) ∧ (0 < i → LtP (gi l ((i : Int) - 1)) (gi l (i : Int)))) ∧ RunFrom l (i + 1) := by
      constructor
      · intro h
        exact ⟨h i (Nat.le_refl _) (by omega), fun j hj => h j (by omega)⟩
      · intro h j hj hjl
        by_cases hji : j = i
        · subst hji; exact h.1
        · exact h.2 j (by omega) hjl
    by_cases hp : OkP (gi l (i : Int))
    · have hp1 : OkP ((gi l (i : Int)).1, (gi l (i : Int)).2) := hp
      simp only [hp, hp1, decide_true, Bool.not_true, Bool.false_eq_true, if_false]
      by_cases h0 : 0 < (i : Int)
      · have hpr : (0 : Int) ≤ (i : Int) - 1 ∧ (i : Int) - 1 < (l.length : Int) := by omega
        simp only [if_pos h0, need_pos hpr]
        by_cases hlt : LtP (gi l ((i : Int) - 1)) (gi l (i : Int))
        · have hlt1 : LtP (gi l ((i : Int) - 1)) ((gi l (i : Int)).1, (gi l (i : Int)).2) := hlt
          refine ⟨b, ?_, ?_, ?_⟩
          · rw [← r1]; simp [hlt1]
          · rw [← r2]; simp [hlt]
          rw [hstep, r3]
          exact ⟨fun h => ⟨⟨hp, fun _ => hlt⟩, h⟩, fun h => h.2⟩
        · have hlt1 : ¬ LtP (gi l ((i : Int) - 1)) ((gi l (i : Int)).1, (gi l (i : Int)).2) := hlt
          have hge : (0 : Int) ≤ (if LtP (gi l ((i : Int) - 1)) (gi l (i : Int)) then -1 else if (gi l ((i : Int) - 1)) = (gi l (i : Int)) then 0 else 1) := by
            rw [if_neg hlt]; split <;> omega
          refine ⟨false, ?_, by simp [hlt], by simp; intro h; exact hlt ((hstep.1 h).1.2 (by omega))⟩
          rw [show ((gi l (i : Int)).1, (gi l (i : Int)).2) = gi l (i : Int) from rfl]
          simp [hge]
      · simp only [if_neg h0, Bool.false_eq_true, if_false]
        refine ⟨b, r1, r2, ?_⟩
        rw [hstep, r3]
        exact ⟨fun h => ⟨⟨hp, fun hh => absurd (by omega) h0⟩, h⟩, fun h => h.2⟩
    · have hp1 : ¬ OkP ((gi l (i : Int)).1, (gi l (i : Int)).2) := hp
      refine ⟨false, by simp [hp], by simp [hp], by simp; intro h; exact hp (hstep.1 h).1.1⟩

theorem run_agree (l : List (Int × Int)) (hl : l.length ≤ 9223372036854775807) : ∃ b : Bool, m_frontier_isRun l = some b ∧ m_ref35_IsRun l = some b ∧ (b = true ↔ Run l) := by
  have := FU_ge
  obtain ⟨b, r1, r2, r3⟩ := run_loop l hl l.length 0 FU FU (by omega) (by omega) (by omega)
  exact ⟨b, by unfold m_frontier_isRun; rw [jn_eq]; exact r1, by unfold m_ref35_IsRun; rw [jn_eq]; exact r2, r3⟩
end Go.Proofs.Ytkplmgdmkfgjhaa
/- The two readings of a number agree. -/
namespace Go.Proofs.Ytkplmgdmkfgjhaa
attribute [local irreducible] FU

theorem num_loop (xs : List UInt8) (i : Int) (hi0 : 0 ≤ i) (hl : (xs.length : Int) ≤ 1099511627776) :
    ∀ (m k x n1 n2 : Nat), k + m = 5 → x < 2 ^ (7 * k) → m < n1 → m < n2 → i + k ≤ xs.length →
    ∃ v j j' e : Int, m_frontier_number_L2 xs i (fun _ => some (0, 0, 22)) n1 (x : Int) (k : Int) = some (v, j, e) ∧
      m_ref35_uvarint_L2 xs (fun x1 => some (0, x1, 22)) n2 (i + k) (x : Int) ((2 ^ (7 * k) : Nat) : Int) (k : Int) = some (v, j', e) ∧
      (e = 0 → j = j' ∧ i ≤ j ∧ j ≤ xs.length ∧ 0 ≤ v ∧ v < 34359738368) ∧ (e = 0 ∨ e = 22 ∨ e = 23) := by
  intro m
  induction m with
  | zero =>
    intro k x n1 n2 hk hx h1 h2 hp
    obtain ⟨n1, rfl⟩ : ∃ n, n1 = n + 1 := ⟨n1 - 1, by omega⟩
    obtain ⟨n2, rfl⟩ : ∃ n, n2 = n + 1 := ⟨n2 - 1, by omega⟩
    obtain rfl : k = 5 := by omega
    refine ⟨0, 0, i + 5, 22, ?_, ?_, by simp, by simp⟩
    · simp [m_frontier_number_L2, m_frontier_number_B2]
    · simp [m_ref35_uvarint_L2, m_ref35_uvarint_B2]
  | succ m ih =>
    intro k x n1 n2 hk hx h1 h2 hp
    obtain ⟨n1, rfl⟩ : ∃ n, n1 = n + 1 := ⟨n1 - 1, by omega⟩
    obtain ⟨n2, rfl⟩ : ∃ n, n2 = n + 1 := ⟨n2 - 1, by omega⟩
    have hk5 : (k : Int) < 5 := by omega
    rw [m_frontier_number_L2, m_ref35_uvarint_L2, m_frontier_number_B2, m_ref35_uvarint_B2, if_pos hk5, if_pos hk5]
    have e1 : i64 (i + (k : Int)) = i + k := i64_id (by omega)
    have e2 : i64 (i + (k : Int) + 1) = i + k + 1 := i64_id (by omega)
    have e3 : i64 (i + (k : Int) + 1 - 1) = i + k := by rw [i64_id (by omega)]; omega
    have e4 : i64 (7 * (k : Int)) = ((7 * k : Nat) : Int) := by rw [i64_id (by omega)]; omega
    have e5 : i64 ((k : Int) + 1) = ((k + 1 : Nat) : Int) := by rw [i64_id (by omega)]; omega
    simp only [e1, e2, e3, e4, e5]
    by_cases hend : (xs.length : Int) ≤ i + k
    · rw [if_pos hend, if_pos hend]
      exact ⟨0, 0, i + k, 23, rfl, rfl, by simp, by simp⟩
    · rw [if_neg hend, if_neg hend, need_pos (by omega), need_pos (by omega), need_pos (by omega), need_pos (by omega)]
      generalize gi xs (i + (k : Int)) = b
      have hb := UInt8.toNat_lt b
      have hs : 7 * k ≤ 28 := by omega
      have hp2 : 2 ^ (7 * k) ≤ 2 ^ 28 := Nat.pow_le_pow_right (by omega) hs
      have hp2' : 2 ^ (7 * (k + 1)) = 2 ^ (7 * k) * 128 := by rw [Nat.mul_add, Nat.pow_add]
      have hy : b.toNat % 128 < 128 := Nat.mod_lt _ (by omega)
      have hm : (b.toNat % 128) * 2 ^ (7 * k) ≤ 127 * 2 ^ 28 := Nat.mul_le_mul (by omega) hp2
      have hm' : (b.toNat % 128) * 2 ^ (7 * k) ≤ 127 * 2 ^ (7 * k) := Nat.mul_le_mul (by omega) (Nat.le_refl _)
      have hmin : min (Int.toNat ((7 * k : Nat) : Int)) IntKind.i64.bits = 7 * k := by
        have : IntKind.i64.bits = 64 := rfl
        omega
      have hpc : ((2 : Int) ^ (7 * k)) = ((2 ^ (7 * k) : Nat) : Int) := by simp
      have hv : i64 (((b &&& 127).toNat : Int) * 2 ^ min (Int.toNat ((7 * k : Nat) : Int)) IntKind.i64.bits) = (((b.toNat % 128) * 2 ^ (7 * k) : Nat) : Int) := by
        rw [hmin, u8_and127, hpc, ← Int.natCast_mul, i64_id]
        omega
      have hw : i64 (Int.tmod (b.toNat : Int) 128 * ((2 ^ (7 * k) : Nat) : Int)) = (((b.toNat % 128) * 2 ^ (7 * k) : Nat) : Int) := by
        rw [show Int.tmod (b.toNat : Int) 128 = ((b.toNat % 128 : Nat) : Int) from rfl, ← Int.natCast_mul, i64_id]
        omega
      have hx2 : i64 ((x : Int) + (((b.toNat % 128) * 2 ^ (7 * k) : Nat) : Int)) = ((x + (b.toNat % 128) * 2 ^ (7 * k) : Nat) : Int) := by
        rw [i64_id] <;> omega
      have hsc : i64 (((2 ^ (7 * k) : Nat) : Int) * 128) = ((2 ^ (7 * (k + 1)) : Nat) : Int) := by
        rw [i64_id, hp2'] <;> omega
      simp only [hv, hw, hx2, hsc, bOr_shift x _ _ hx hy hs]
      by_cases hlast : b < 128
      · rw [if_pos hlast, if_pos hlast]
        exact ⟨_, _, _, _, rfl, rfl, fun _ => ⟨rfl, by omega, by omega, by omega, by omega⟩, Or.inl rfl⟩
      · rw [if_neg hlast, if_neg hlast]
        obtain ⟨v, j, j', e, r1, r2, r3, r4⟩ := ih (k + 1) (x + b.toNat % 128 * 2 ^ (7 * k)) n1 n2 (by omega) (by omega) (by omega) (by omega) (by omega)
        refine ⟨v, j, j', e, r1, ?_, r3, r4⟩
        rw [show i + (k : Int) + 1 = i + ((k + 1 : Nat) : Int) by omega]
        exact r2

theorem num_agree (xs : List UInt8) (i : Int) (hi0 : 0 ≤ i) (hi1 : i ≤ xs.length) (hl : (xs.length : Int) ≤ 1099511627776) :
    ∃ v j j' e : Int, m_frontier_number xs i = some (v, j, e) ∧ m_ref35_uvarint xs i = some (v, j', e) ∧
      (e = 0 → j = j' ∧ i ≤ j ∧ j ≤ xs.length ∧ 0 ≤ v ∧ v < 34359738368) ∧ (e = 0 ∨ e = 22 ∨ e = 23) := by
  have := FU_ge
  have h := num_loop xs i hi0 hl 5 0 0 FU FU (by omega) (by simp) (by omega) (by omega) (by simpa using hi1)
  simpa [m_frontier_number, m_ref35_uvarint, jn_eq] using h
end Go.Proofs.Ytkplmgdmkfgjhaa
/- The sums and the numbers' bytes: the two agree, and are there. -/
namespace Go.Proofs.Ytkplmgdmkfgjhaa
attribute [local irreducible] FU

theorem crc_inner (K K' : Int → Option Int) : ∀ (m i n1 n2 : Nat) (x : Int), i + m = 8 → 0 ≤ x → x < 4294967296 → m < n1 → m < n2 →
    ∃ y, 0 ≤ y ∧ y < 4294967296 ∧ m_codec_Checksum_L14 K n1 x i = K y ∧ m_ref23_Checksum_L14 K' n2 x i = K' y := by
  intro m
  induction m with
  | zero =>
    intro i n1 n2 x hi h0 h1 h2 h3
    obtain ⟨n1, rfl⟩ : ∃ n, n1 = n + 1 := ⟨n1 - 1, by omega⟩
    obtain ⟨n2, rfl⟩ : ∃ n, n2 = n + 1 := ⟨n2 - 1, by omega⟩
    obtain rfl : i = 8 := by omega
    exact ⟨x, h0, h1, by simp [m_codec_Checksum_L14, m_codec_Checksum_B14], by simp [m_ref23_Checksum_L14, m_ref23_Checksum_B14]⟩
  | succ m ih =>
    intro i n1 n2 x hi h0 h1 h2 h3
    obtain ⟨n1, rfl⟩ : ∃ n, n1 = n + 1 := ⟨n1 - 1, by omega⟩
    obtain ⟨n2, rfl⟩ : ∃ n, n2 = n + 1 := ⟨n2 - 1, by omega⟩
    have hi8 : (i : Int) < 8 := by omega
    rw [m_codec_Checksum_L14, m_ref23_Checksum_L14, m_codec_Checksum_B14, m_ref23_Checksum_B14, if_pos hi8, if_pos hi8, jn_eq, jn_eq]
    have e5 : i64 ((i : Int) + 1) = ((i + 1 : Nat) : Int) := by rw [i64_id (by omega)]; omega
    obtain ⟨z, rfl⟩ : ∃ z : Nat, x = z := ⟨x.toNat, by omega⟩
    have ha : bAnd .u32 (z : Int) 1 = ((z % 2 : Nat) : Int) := by
      rw [show (1 : Int) = ((1 : Nat) : Int) from rfl, bAnd32_nat z 1 (by omega) (by omega), Nat.and_one_is_mod]
    have hd : Int.fdiv (z : Int) (2 ^ min (Int.toNat 1) IntKind.u32.bits) = ((z / 2 : Nat) : Int) := by
      rw [show min (Int.toNat 1) IntKind.u32.bits = 1 from rfl, Int.fdiv_eq_ediv_of_nonneg _ (by omega)]; omega
    have ht : Int.tmod (z : Int) 2 = ((z % 2 : Nat) : Int) := rfl
    simp only [ha, hd, ht, e5]
    by_cases hz : z % 2 = 1
    · rw [if_pos (by omega), if_pos (by omega)]
      have hx := bXor_range ((z / 2 : Nat) : Int) 3988292384
      exact ih (i + 1) n1 n2 _ (by omega) hx.1 hx.2 (by omega) (by omega)
    · rw [if_neg (by omega), if_neg (by omega)]
      exact ih (i + 1) n1 n2 _ (by omega) (by omega) (by omega) (by omega) (by omega)

theorem crc_outer (xs : List UInt8) (hl : xs.length ≤ 1099511627776) (K K' : Int → Option Int) : ∀ (m i n1 n2 : Nat) (x : Int), i + m = xs.length → 0 ≤ x → x < 4294967296 → m < n1 → m < n2 →
    ∃ y, 0 ≤ y ∧ y < 4294967296 ∧ m_codec_Checksum_L8 xs K n1 x i = K y ∧ m_ref23_Checksum_L8 xs K' n2 x i = K' y := by
  have hFU := FU_ge
  intro m
  induction m with
  | zero =>
    intro i n1 n2 x hi h0 h1 h2 h3
    obtain ⟨n1, rfl⟩ : ∃ n, n1 = n + 1 := ⟨n1 - 1, by omega⟩
    obtain ⟨n2, rfl⟩ : ∃ n, n2 = n + 1 := ⟨n2 - 1, by omega⟩
    obtain rfl : i = xs.length := by omega
    exact ⟨x, h0, h1, by simp [m_codec_Checksum_L8, m_codec_Checksum_B8], by simp [m_ref23_Checksum_L8, m_ref23_Checksum_B8]⟩
  | succ m ih =>
    intro i n1 n2 x hi h0 h1 h2 h3
    obtain ⟨n1, rfl⟩ : ∃ n, n1 = n + 1 := ⟨n1 - 1, by omega⟩
    obtain ⟨n2, rfl⟩ : ∃ n, n2 = n + 1 := ⟨n2 - 1, by omega⟩
    have hi8 : (i : Int) < (xs.length : Int) := by omega
    rw [m_codec_Checksum_L8, m_ref23_Checksum_L8, m_codec_Checksum_B8, m_ref23_Checksum_B8, if_pos hi8, if_pos hi8, jn_eq, jn_eq, need_pos (by omega), need_pos (by omega)]
    have e5 : i64 ((i : Int) + 1) = ((i + 1 : Nat) : Int) := by rw [i64_id (by omega)]; omega
    simp only [e5]
    have hx := bXor_range x ((gi xs (i : Int)).toNat : Int)
    obtain ⟨y, hy0, hy1, r1, r2⟩ := crc_inner (fun x3 => m_codec_Checksum_L8 xs K n1 x3 ((i + 1 : Nat) : Int)) (fun x3 => m_ref23_Checksum_L8 xs K' n2 x3 ((i + 1 : Nat) : Int)) 8 0 FU FU _ rfl hx.1 hx.2 (by omega) (by omega)
    obtain ⟨w, hw0, hw1, q1, q2⟩ := ih (i + 1) n1 n2 y (by omega) hy0 hy1 (by omega) (by omega)
    exact ⟨w, hw0, hw1, r1.trans q1, r2.trans q2⟩

theorem crc_agree (xs : List UInt8) (hl : xs.length ≤ 1099511627776) : ∃ c, 0 ≤ c ∧ c < 4294967296 ∧ m_codec_Checksum xs = some c ∧ m_ref23_Checksum xs = some c := by
  have hFU := FU_ge
  obtain ⟨y, h0, h1, r1, r2⟩ := crc_outer xs hl (fun x => some (bXor .u32 4294967295 x)) (fun x => some (bXor .u32 4294967295 x)) xs.length 0 FU FU 4294967295 (by omega) (by omega) (by omega) (by omega) (by omega)
  have hx := bXor_range 4294967295 y
  exact ⟨_, hx.1, hx.2, by unfold m_codec_Checksum; rw [jn_eq]; exact r1, by unfold m_ref23_Checksum; rw [jn_eq]; exact r2⟩

theorem uv_loop (K K' : List UInt8 → Int → Option (List UInt8)) (L : Nat) (hL : L ≤ 1099511627)
    (hK : ∀ ys x, 0 ≤ x → x < 128 → ys.length ≤ L → K ys x = K' ys x ∧ ∃ r, K ys x = some r ∧ r.length ≤ ys.length + 1) :
    ∀ (m z n1 n2 : Nat) (ys : List UInt8), z < 2 ^ (7 * m) → m < n1 → m < n2 → z < 2 ^ 63 → ys.length + m ≤ L →
    m_codec_AppendUvarint_L2 K n1 ys (z : Int) = m_ref23_Uvarint_L2 K' n2 ys (z : Int) ∧ ∃ r, m_ref23_Uvarint_L2 K' n2 ys (z : Int) = some r ∧ r.length ≤ ys.length + m + 1 := by
  intro m
  induction m with
  | zero =>
    intro z n1 n2 ys hz h1 h2 h3 hy
    obtain ⟨n1, rfl⟩ : ∃ n, n1 = n + 1 := ⟨n1 - 1, by omega⟩
    obtain ⟨n2, rfl⟩ : ∃ n, n2 = n + 1 := ⟨n2 - 1, by omega⟩
    rw [m_codec_AppendUvarint_L2, m_ref23_Uvarint_L2, m_codec_AppendUvarint_B2, m_ref23_Uvarint_B2, if_neg (by omega), if_neg (by omega)]
    obtain ⟨k1, r, k2, k3⟩ := hK ys z (by omega) (by omega) (by omega)
    exact ⟨k1, r, k1 ▸ k2, by omega⟩
  | succ m ih =>
    intro z n1 n2 ys hz h1 h2 h3 hy
    obtain ⟨n1, rfl⟩ : ∃ n, n1 = n + 1 := ⟨n1 - 1, by omega⟩
    obtain ⟨n2, rfl⟩ : ∃ n, n2 = n + 1 := ⟨n2 - 1, by omega⟩
    rw [m_codec_AppendUvarint_L2, m_ref23_Uvarint_L2, m_codec_AppendUvarint_B2, m_ref23_Uvarint_B2]
    by_cases hc : 128 ≤ (z : Int)
    · rw [if_pos hc, if_pos hc]
      have hb : u8i (bOr .i64 (bAnd .i64 (z : Int) 127) 128) = u8i (i64 (Int.tmod (z : Int) 128 + 128)) := by
        rw [show (127 : Int) = ((127 : Nat) : Int) from rfl, bAnd_nat z 127 (by omega) (by omega), and_127, show (128 : Int) = ((128 : Nat) : Int) from rfl, bOr_nat _ 128 (by omega) (by omega), show Int.tmod (z : Int) ((128 : Nat) : Int) = ((z % 128 : Nat) : Int) from rfl, i64_id (by omega)]
        have := Nat.two_pow_add_eq_or_of_lt (i := 7) (b := z % 128) (by omega) 1
        rw [Nat.or_comm, show (128 : Nat) = 2 ^ 7 * 1 from rfl, ← this]
        congr 1; omega
      have hd : Int.fdiv (z : Int) (2 ^ min (Int.toNat 7) IntKind.i64.bits) = ((z / 128 : Nat) : Int) := by
        rw [show min (Int.toNat 7) IntKind.i64.bits = 7 from rfl, Int.fdiv_eq_ediv_of_nonneg _ (by omega)]; omega
      have ht : i64 (Int.tdiv (z : Int) 128) = ((z / 128 : Nat) : Int) := by
        rw [show Int.tdiv (z : Int) 128 = ((z / 128 : Nat) : Int) from rfl, i64_id (by omega)]
      rw [hb, hd, ht]
      have hlen : (ys ++ [u8i (i64 (Int.tmod (z : Int) 128 + 128))]).length = ys.length + 1 := by simp
      have hp : 2 ^ (7 * (m + 1)) = 2 ^ (7 * m) * 128 := by rw [Nat.mul_add, Nat.pow_add]
      rw [need_pos (by simp; omega), need_pos (by simp; omega)]
      obtain ⟨r1, r, r2, r3⟩ := ih (z / 128) n1 n2 _ (by omega) (by omega) (by omega) (by omega) (by rw [hlen]; omega)
      exact ⟨r1, r, r2, by omega⟩
    · rw [if_neg hc, if_neg hc]
      obtain ⟨k1, r, k2, k3⟩ := hK ys z (by omega) (by omega) (by omega)
      exact ⟨k1, r, k1 ▸ k2, by omega⟩

theorem uv_agree (ys : List UInt8) (x : Int) (h0 : 0 ≤ x) (h1 : x < 9223372036854775808) (hl : ys.length ≤ 1000000000) :
    ∃ r, m_codec_AppendUvarint ys x = some r ∧ m_ref23_Uvarint ys x = some r ∧ r.length ≤ ys.length + 11 := by
  have hFU := FU_ge
  obtain ⟨z, rfl⟩ : ∃ z : Nat, x = z := ⟨x.toNat, by omega⟩
  obtain ⟨r1, r, r2, r3⟩ := uv_loop (fun x0 x1 => need (List.length x0 + List.length [u8i x1] ≤ 137438953472) (some (x0 ++ [u8i x1]))) (fun x0 x1 => need (List.length x0 + List.length [u8i x1] ≤ 137438953472) (some (x0 ++ [u8i x1]))) 1099511627 (by omega)
    (fun ys x _ _ hy => ⟨rfl, ys ++ [u8i x], by rw [need_pos (by simp; omega)], by simp⟩) 10 z FU FU ys (by omega) (by omega) (by omega) (by omega) (by omega)
  refine ⟨r, ?_, ?_, by omega⟩
  · unfold m_codec_AppendUvarint; rw [jn_eq]; exact r1.trans r2
  · unfold m_ref23_Uvarint; rw [jn_eq]; exact r2

def sum4 (c : Int) : List UInt8 := [u8i (Int.fdiv c (2 ^ min (Int.toNat 24) IntKind.u32.bits)), u8i (Int.fdiv c (2 ^ min (Int.toNat 16) IntKind.u32.bits)), u8i (Int.fdiv c (2 ^ min (Int.toNat 8) IntKind.u32.bits)), u8i c]
theorem sum_agree (ys : List UInt8) (hl : ys.length ≤ 1000000000) : ∃ c, m_codec_Checksum ys = some c ∧ m_codec_AppendSum ys 0 = some (ys ++ sum4 c) ∧ m_ref23_Sealed ys = some (ys ++ sum4 c) := by
  obtain ⟨c, _, _, r1, r2⟩ := crc_agree ys (by omega)
  refine ⟨c, r1, ?_, ?_⟩
  · unfold m_codec_AppendSum
    rw [need_pos (by omega), show List.take (Int.toNat (ys.length : Int) - Int.toNat 0) (List.drop (Int.toNat 0) ys) = ys by simp, r1, bnd1_mk, need_pos (by simp; omega)]
    rfl
  · unfold m_ref23_Sealed
    rw [r2, bnd1_mk, need_pos (by simp; omega), need_pos (by simp; omega)]
    rfl
end Go.Proofs.Ytkplmgdmkfgjhaa
/- The encodings of a block agree. -/
namespace Go.Proofs.Ytkplmgdmkfgjhaa
attribute [local irreducible] FU

theorem enc_loop (l : List (Int × Int)) (hr : Run l) (hl : l.length ≤ 1024) (K : List UInt8 → Option (List UInt8)) (K' : List UInt8 → Option (List UInt8 × Int)) :
    ∀ (m i n1 n2 : Nat) (ys : List UInt8), i + m = l.length → m < n1 → m < n2 → ys.length + 22 * m ≤ 100000000 →
    ∃ r : List UInt8, r.length ≤ ys.length + 22 * m ∧ m_frontier_encode_L2 l K n1 ys i = K r ∧ m_ref35_EncodeBlock_L2 l K' n2 ys i = K' r := by
  intro m
  induction m with
  | zero =>
    intro i n1 n2 ys hi h1 h2 h3
    obtain ⟨n1, rfl⟩ : ∃ n, n1 = n + 1 := ⟨n1 - 1, by omega⟩
    obtain ⟨n2, rfl⟩ : ∃ n, n2 = n + 1 := ⟨n2 - 1, by omega⟩
    obtain rfl : i = l.length := by omega
    exact ⟨ys, by omega, by simp [m_frontier_encode_L2, m_frontier_encode_B2], by simp [m_ref35_EncodeBlock_L2, m_ref35_EncodeBlock_B2]⟩
  | succ m ih =>
    intro i n1 n2 ys hi h1 h2 h3
    obtain ⟨n1, rfl⟩ : ∃ n, n1 = n + 1 := ⟨n1 - 1, by omega⟩
    obtain ⟨n2, rfl⟩ : ∃ n, n2 = n + 1 := ⟨n2 - 1, by omega⟩
    have hi8 : (i : Int) < (l.length : Int) := by omega
    have e5 : i64 ((i : Int) + 1) = ((i + 1 : Nat) : Int) := by rw [i64_id (by omega)]; omega
    have e6 : i64 ((i : Int) - 1) = (i : Int) - 1 := i64_id (by omega)
    have hin : (0 : Int) ≤ (i : Int) ∧ (i : Int) < (l.length : Int) := by omega
    have hok := hr i (Nat.zero_le _) (by omega)
    rw [m_frontier_encode_L2, m_ref35_EncodeBlock_L2, m_frontier_encode_B2, m_ref35_EncodeBlock_B2, if_pos hi8, if_pos hi8]
    simp only [jn_eq, e5, e6, need_pos hin]
    have fin : ∀ r : List UInt8, r.length ≤ ys.length + 22 → ∃ s : List UInt8, s.length ≤ ys.length + 22 * (m + 1) ∧ m_frontier_encode_L2 l K n1 r ((i + 1 : Nat) : Int) = K s ∧ m_ref35_EncodeBlock_L2 l K' n2 r ((i + 1 : Nat) : Int) = K' s := by
      intro r hrl
      obtain ⟨s, s1, s2, s3⟩ := ih (i + 1) n1 n2 r (by omega) (by omega) (by omega) (by omega)
      exact ⟨s, by omega, s2, s3⟩
    obtain ⟨⟨o1, o2, o3, o4⟩, hlt⟩ := hok
    by_cases h0 : i = 0
    · subst h0
      have hin0 : (0 : Int) ≤ 0 ∧ (0 : Int) < (l.length : Int) := by omega
      simp only [Int.natCast_zero, Int.lt_irrefl, if_false, if_true, need_pos hin0, Bool.false_eq_true, Int.sub_zero] at *
      rw [i64_id (by omega)]
      obtain ⟨u, u1, u2, u3⟩ := uv_agree ys (gi l 0).1 (by omega) (by omega) (by omega)
      obtain ⟨v, v1, v2, v3⟩ := uv_agree u (gi l 0).2 (by omega) (by omega) (by omega)
      simp only [u1, u2, v1, v2, bnd1_mk]
      exact fin v (by omega)
    · have h0' : (0 : Int) < (i : Int) := by omega
      have h0'' : ¬ (i : Int) = 0 := by omega
      have hpr : (0 : Int) ≤ (i : Int) - 1 ∧ (i : Int) - 1 < (l.length : Int) := by omega
      have hlt := hlt (by omega)
      have hokp := (hr (i - 1) (Nat.zero_le _) (by omega)).1
      rw [show ((i - 1 : Nat) : Int) = (i : Int) - 1 by omega] at hokp
      obtain ⟨p1, p2, p3, p4⟩ := hokp
      simp only [if_pos h0', if_neg h0'', need_pos hpr]
      generalize gi l (i : Int) = c at *
      generalize gi l ((i : Int) - 1) = p at *
      obtain ⟨c1, c2⟩ := c
      obtain ⟨q1, q2⟩ := p
      simp only [LtP] at *
      have a1 : i64 (c1 - q1) = c1 - q1 := i64_id (by omega)
      have a2 : i64 (c2 - q2) = c2 - q2 := i64_id (by omega)
      have a3 : i64 (c2 - q2 - 1) = c2 - q2 - 1 := i64_id (by omega)
      simp only [a1, a2, a3]
      obtain ⟨u, u1, u2, u3⟩ := uv_agree ys (c1 - q1) (by omega) (by omega) (by omega)
      by_cases he : c1 = q1
      · subst he
        rw [Int.sub_self] at u1 u2
        obtain ⟨v, v1, v2, v3⟩ := uv_agree u (c2 - q2 - 1) (by omega) (by omega) (by omega)
        simp only [Int.sub_self, u1, u2, v1, v2, bnd1_mk, decide_true, if_true]
        exact fin v (by omega)
      · obtain ⟨v, v1, v2, v3⟩ := uv_agree u c2 (by omega) (by omega) (by omega)
        simp only [u1, u2, v1, v2, bnd1_mk, he, decide_false, Bool.false_eq_true, if_false]
        exact fin v (by omega)

theorem encode_agree (l : List (Int × Int)) (hr : Run l) (hl : l.length ≤ 1024) :
    ∃ r, m_frontier_encode l = some r ∧ r.length ≤ 30000 ∧ 4 ≤ r.length ∧
      bnd1 (m_ref23_Uvarint [] (List.length l : Int)) (fun y9 => jn (fun (x4_j11 : List UInt8) => bnd1 (m_ref23_Sealed x4_j11) (fun y271 => some (y271, 0))) (fun k11 => m_ref35_EncodeBlock_L2 l k11 FU y9 0)) = some (r, 0) := by
  have := FU_ge
  obtain ⟨u, u1, u2, u3⟩ := uv_agree [] (List.length l : Int) (by omega) (by omega) (by simp)
  simp only [List.length_nil] at u3
  obtain ⟨s, s1, s2, s3⟩ := enc_loop l hr hl (fun x3 => bnd1 (m_codec_AppendSum x3 0) (fun y => some y)) (fun x4 => bnd1 (m_ref23_Sealed x4) (fun y271 => some (y271, 0))) l.length 0 FU FU u (by omega) (by omega) (by omega) (by omega)
  obtain ⟨c, c1, c2, c3⟩ := sum_agree s (by omega)
  refine ⟨s ++ sum4 c, ?_, ?_, ?_, ?_⟩
  · unfold m_frontier_encode
    rw [u1, bnd1_mk, jn_eq]
    refine s2.trans ?_
    rw [c2, bnd1_mk]
  · simp [sum4]; omega
  · simp [sum4]
  · rw [u2, bnd1_mk, jn_eq]
    refine s3.trans ?_
    rw [c3, bnd1_mk]

theorem block_agree (l : List (Int × Int)) (hl : l.length ≤ 1099511627776) :
    ∃ b : Bool, m_frontier_isBlock l = some b ∧ (b = true ↔ Run l ∧ 1 ≤ l.length ∧ l.length ≤ 1024) ∧
      (b = true → ∃ r, m_frontier_encode l = some r ∧ r.length ≤ 30000 ∧ 4 ≤ r.length ∧ m_ref35_EncodeBlock l = some (r, 0)) ∧ (b = false → m_ref35_EncodeBlock l = some ([], 1)) := by
  obtain ⟨b, r1, r2, r3⟩ := run_agree l (by omega)
  have hb : m_frontier_isBlock l = some (decide (1 ≤ l.length ∧ l.length ≤ 1024) && b) := by
    unfold m_frontier_isBlock
    simp only [jn_eq, r1, bnd1_mk]
    by_cases h1 : 1 ≤ l.length <;> by_cases h2 : l.length ≤ 1024
    · rw [if_pos (by omega), if_pos (by omega)]; simp [h1, h2]
    · rw [if_pos (by omega), if_neg (by omega)]; simp [h1, h2]
    · rw [if_neg (by omega)]; simp [h1, h2]
    · rw [if_neg (by omega)]; simp [h1, h2]
  refine ⟨_, hb, ?_, ?_, ?_⟩
  · rw [← r3]; simp; constructor <;> intro h <;> simp [h]
  · intro h
    simp at h
    obtain ⟨⟨h1, h2⟩, rfl⟩ := h
    obtain ⟨r, e1, e2, e2', e3⟩ := encode_agree l (r3.1 rfl) h2
    refine ⟨r, e1, e2, e2', ?_⟩
    unfold m_ref35_EncodeBlock
    simp only [jn_eq (κ := Bool → Option (List UInt8 × Int)), r2, bnd1_mk, Bool.not_true, Bool.false_eq_true, if_false]
    rw [if_neg (by omega)]
    rw [show decide ((1024 : Int) < (l.length : Int)) = false by simp; omega]
    exact e3
  · intro h
    unfold m_ref35_EncodeBlock
    simp only [jn_eq, r2, bnd1_mk]
    cases b
    · simp
    · simp only [Bool.not_true, Bool.false_eq_true, if_false]
      simp at h
      by_cases h1 : (l.length : Int) < 1
      · rw [if_pos h1, if_pos trivial]
      · rw [if_neg h1, show decide ((1024 : Int) < (l.length : Int)) = true by simp; omega, if_pos rfl]
end Go.Proofs.Ytkplmgdmkfgjhaa
/- The decodings of a block agree. -/
namespace Go.Proofs.Ytkplmgdmkfgjhaa
attribute [local irreducible] FU

theorem sealed_agree (t s : List UInt8) (hl : s.length = t.length + 4) (ht : s.take t.length = t) (hb : s.length ≤ 100000000) :
    ∃ (b : Bool) (q : List UInt8), m_codec_Sealed s = some b ∧ m_ref23_Sealed t = some q ∧ (b = true ↔ q = s) := by
  obtain ⟨c, c1, _, c3⟩ := sum_agree t (by omega)
  obtain ⟨d, hd⟩ : ∃ d, s = t ++ d := ⟨s.drop t.length, by conv => lhs; rw [← List.take_append_drop t.length s, ht]⟩
  subst hd
  have hdl : d.length = 4 := by simp at hl; exact hl
  obtain ⟨a0, a1, a2, a3, rfl⟩ : ∃ a0 a1 a2 a3, d = [a0, a1, a2, a3] := by
    match d, hdl with
    | [a0, a1, a2, a3], _ => exact ⟨a0, a1, a2, a3, rfl⟩
  have hb' : t.length + 4 ≤ 100000000 := by simpa using hb
  have e0 : i64 (((t ++ [a0, a1, a2, a3]).length : Int) - 4) = (t.length : Int) := by rw [i64_id] <;> simp <;> omega
  have e1 : i64 ((t.length : Int) + 1) = ((t.length + 1 : Nat) : Int) := by rw [i64_id] <;> omega
  have e2 : i64 ((t.length : Int) + 2) = ((t.length + 2 : Nat) : Int) := by rw [i64_id] <;> omega
  have e3 : i64 ((t.length : Int) + 3) = ((t.length + 3 : Nat) : Int) := by rw [i64_id] <;> omega
  have g0 : gi (t ++ [a0, a1, a2, a3]) (t.length : Int) = a0 := by rw [gi_nat (by simp)]; simp
  have g1 : gi (t ++ [a0, a1, a2, a3]) ((t.length + 1 : Nat) : Int) = a1 := by rw [gi_nat (by simp)]; simp
  have g2 : gi (t ++ [a0, a1, a2, a3]) ((t.length + 2 : Nat) : Int) = a2 := by rw [gi_nat (by simp)]; simp
  have g3 : gi (t ++ [a0, a1, a2, a3]) ((t.length + 3 : Nat) : Int) = a3 := by rw [gi_nat (by simp)]; simp
  have n0 : (0 : Int) ≤ (t.length : Int) ∧ (t.length : Int) ≤ ((t ++ [a0, a1, a2, a3]).length : Int) := by simp; omega
  have n1 : (0 : Int) ≤ (t.length : Int) ∧ (t.length : Int) < ((t ++ [a0, a1, a2, a3]).length : Int) := by simp; omega
  have n2 : (0 : Int) ≤ ((t.length + 1 : Nat) : Int) ∧ ((t.length + 1 : Nat) : Int) < ((t ++ [a0, a1, a2, a3]).length : Int) := by rw [List.length_append]; simp only [List.length_cons, List.length_nil]; omega
  have n3 : (0 : Int) ≤ ((t.length + 2 : Nat) : Int) ∧ ((t.length + 2 : Nat) : Int) < ((t ++ [a0, a1, a2, a3]).length : Int) := by rw [List.length_append]; simp only [List.length_cons, List.length_nil]; omega
  have n4 : (0 : Int) ≤ ((t.length + 3 : Nat) : Int) ∧ ((t.length + 3 : Nat) : Int) < ((t ++ [a0, a1, a2, a3]).length : Int) := by rw [List.length_append]; simp only [List.length_cons, List.length_nil]; omega
  refine ⟨decide (sum4 c = [a0, a1, a2, a3]), t ++ sum4 c, ?_, c3, by simp⟩
  unfold m_codec_Sealed
  simp only [jn_eq, e0, e1, e2, e3, g0, g1, g2, g3, need_pos n0, need_pos n1, need_pos n2, need_pos n3, need_pos n4]
  rw [if_neg (by omega), show List.take (Int.toNat (t.length : Int)) (t ++ [a0, a1, a2, a3]) = t by simp, c1, bnd1_mk]
  simp only [sum4, List.cons.injEq, and_true]
  generalize u8i (Int.fdiv c (2 ^ min (Int.toNat 24) IntKind.u32.bits)) = z0
  generalize u8i (Int.fdiv c (2 ^ min (Int.toNat 16) IntKind.u32.bits)) = z1
  generalize u8i (Int.fdiv c (2 ^ min (Int.toNat 8) IntKind.u32.bits)) = z2
  generalize u8i c = z3
  by_cases h0 : a0 = z0
  · by_cases h1 : a1 = z1
    · by_cases h2 : a2 = z2
      · simp [h0, h1, h2, eq_comm]
      · simp [h0, h1, h2, Ne.symm h2]
    · simp [h0, h1, Ne.symm h1]
  · simp [h0, Ne.symm h0]

theorem dec_exit_f (xs : List UInt8) (y : Int × Int × Int) (K) (n : Nat) (x8 x9 : Int) (x10 : List (Int × Int)) (x11 : Int) (h : x9 ≠ 0 ∨ ¬ x11 < y.1) : m_frontier_DecodeBlock_L14 xs y K (n + 1) x8 x9 x10 x11 = K x8 x9 x10 := by
  rw [m_frontier_DecodeBlock_L14, m_frontier_DecodeBlock_B14]
  simp only [jn_eq]
  by_cases h1 : x11 < y.1
  · simp [h1, (by rcases h with h | h; exact h; exact absurd h1 h : x9 ≠ 0)]
  · simp [h1]
theorem dec_exit_r (xs : List UInt8) (y : Int × Int × Int) (K) (n : Nat) (x8 x9 : Int) (x10 : List (Int × Int)) (x11 : Int) (h : x9 ≠ 0 ∨ ¬ x11 < y.1) : m_ref35_DecodeBlock_L2 xs y K (n + 1) x8 x9 x10 x11 = K x8 x9 x10 := by
  rw [m_ref35_DecodeBlock_L2, m_ref35_DecodeBlock_B2]
  simp only [jn_eq]
  by_cases h1 : x11 < y.1
  · simp [h1, (by rcases h with h | h; exact h; exact absurd h1 h : x9 ≠ 0)]
  · simp [h1]

/-- The two numbers of an entry. -/
theorem two_f (xs : List UInt8) (K : Int → Int → Int → Int → Option (List (Int × Int) × Int × Int)) (x8 : Int) (v1 j1 e1 : Int) (h1 : m_frontier_number xs x8 = some (v1, j1, e1)) :
    (e1 ≠ 0 → m_frontier_DecodeBlock_L26 xs K FU x8 0 0 0 0 = K j1 e1 v1 0) ∧
    (e1 = 0 → ∀ v2 j2 e2, m_frontier_number xs j1 = some (v2, j2, e2) → m_frontier_DecodeBlock_L26 xs K FU x8 0 0 0 0 = K j2 e2 v1 v2) := by
  obtain ⟨n, hn⟩ := FU_k 3 (by omega)
  rw [hn]
  have w1 : i64 1 = 1 := rfl
  have w2 : i64 2 = 2 := rfl
  refine ⟨fun he => ?_, fun he v2 j2 e2 h2 => ?_⟩
  · rw [m_frontier_DecodeBlock_L26, m_frontier_DecodeBlock_B26]
    simp [jn_eq, h1, bnd1_mk, need, w1, w2]
    rw [m_frontier_DecodeBlock_L26, m_frontier_DecodeBlock_B26]
    simp [jn_eq, he]
  · subst he
    rw [m_frontier_DecodeBlock_L26, m_frontier_DecodeBlock_B26]
    simp [jn_eq, h1, bnd1_mk, need, w1, w2]
    rw [m_frontier_DecodeBlock_L26, m_frontier_DecodeBlock_B26]
    simp [jn_eq, h2, bnd1_mk, need, w1, w2]
    rw [m_frontier_DecodeBlock_L26, m_frontier_DecodeBlock_B26]
    simp [jn_eq]

theorem dec_loop (xs : List UInt8) (hl : (xs.length : Int) ≤ 1099511627776) (yf yr : Int × Int × Int) (v : Nat) (hv : v ≤ 1024) (hf : yf.1 = v) (hr : yr.1 = v) (K K') :
    ∀ (m i n1 n2 : Nat) (x8 : Int) (l : List (Int × Int)), i + m = v → m < n1 → m < n2 → 0 ≤ x8 → x8 ≤ xs.length → l.length = i →
    (∀ p ∈ l, -9223372036854775808 ≤ p.1 ∧ p.1 ≤ 9223372036854775807) →
    ∃ (xa xb e : Int) (la lb : List (Int × Int)), m_frontier_DecodeBlock_L14 xs yf K n1 x8 0 l i = K xa e la ∧ m_ref35_DecodeBlock_L2 xs yr K' n2 x8 0 l i = K' xb e lb ∧
      (e = 0 → xa = xb ∧ la = lb ∧ x8 ≤ xa ∧ xa ≤ xs.length ∧ la.length = v) := by
  intro m
  induction m with
  | zero =>
    intro i n1 n2 x8 l hi h1 h2 h3 h4 h5 h6
    obtain ⟨n1, rfl⟩ : ∃ n, n1 = n + 1 := ⟨n1 - 1, by omega⟩
    obtain ⟨n2, rfl⟩ : ∃ n, n2 = n + 1 := ⟨n2 - 1, by omega⟩
    exact ⟨x8, x8, 0, l, l, dec_exit_f _ _ _ _ _ _ _ _ (Or.inr (by omega)), dec_exit_r _ _ _ _ _ _ _ _ (Or.inr (by omega)), fun _ => ⟨rfl, rfl, by omega, by omega, by omega⟩⟩
  | succ m ih =>
    intro i n1 n2 x8 l hi h1 h2 h3 h4 h5 h6
    obtain ⟨n1, rfl⟩ : ∃ n, n1 = n + 1 + 1 := ⟨n1 - 2, by omega⟩
    obtain ⟨n2, rfl⟩ : ∃ n, n2 = n + 1 + 1 := ⟨n2 - 2, by omega⟩
    have e5 : i64 ((i : Int) + 1) = ((i + 1 : Nat) : Int) := by rw [i64_id (by omega)]; omega
    have e6 : i64 ((i : Int) - 1) = (i : Int) - 1 := i64_id (by omega)
    have hiv1 : (i : Int) < yf.1 := by omega
    have hiv2 : (i : Int) < yr.1 := by omega
    have hlen : ∀ p : Int × Int, List.length l + List.length [p] ≤ 137438953472 := by intro p; simp; omega
    obtain ⟨v1, j1, j1', e1, f1, r1, a1, a2⟩ := num_agree xs x8 h3 h4 hl
    rw [m_frontier_DecodeBlock_L14, m_ref35_DecodeBlock_L2, m_frontier_DecodeBlock_B14, m_ref35_DecodeBlock_B2]
    simp only [jn_eq, if_pos hiv1, if_pos hiv2, decide_true, if_true, e5, e6, r1, bnd1_mk, need_pos (hlen _)]
    by_cases he1 : e1 = 0
    · subst he1
      obtain ⟨rfl, b1, b2, b3, b4⟩ := a1 rfl
      obtain ⟨v2, j2, j2', e2, f2, r2, c1, c2⟩ := num_agree xs j1 (by omega) b2 hl
      simp only [if_true, r2, bnd1_mk]
      rw [(two_f xs _ x8 v1 j1 0 f1).2 rfl v2 j2 e2 f2]
      by_cases hi0 : i = 0
      · subst hi0
        simp only [Int.natCast_zero, Int.lt_irrefl, if_false, if_true]
        by_cases he2 : e2 = 0
        · subst he2
          obtain ⟨rfl, d1, d2, d3, d4⟩ := c1 rfl
          obtain ⟨xa, xb, e, la, lb, q1, q2, q3⟩ := ih (0 + 1) (n1 + 1) (n2 + 1) j2 (l ++ [(v1, v2)]) (by omega) (by omega) (by omega) (by omega) d2 (by rw [List.length_append, h5]; rfl)
            (fun p hp => by
              rcases List.mem_append.1 hp with hp | hp
              · exact h6 p hp
              · simp at hp; subst hp; simp only []; omega)
          exact ⟨xa, xb, e, la, lb, q1, q2, fun he => by obtain ⟨z1, z2, z3, z4, z5⟩ := q3 he; exact ⟨z1, z2, by omega, z4, z5⟩⟩
        · exact ⟨_, _, e2, _, _, dec_exit_f _ _ _ _ _ _ _ _ (Or.inl he2), dec_exit_r _ _ _ _ _ _ _ _ (Or.inl he2), fun h => absurd h he2⟩
      · have hpr : (0 : Int) ≤ (i : Int) - 1 ∧ (i : Int) - 1 < (l.length : Int) := by omega
        have hq : -9223372036854775808 ≤ (gi l ((i : Int) - 1)).1 ∧ (gi l ((i : Int) - 1)).1 ≤ 9223372036854775807 := by
          rw [show (i : Int) - 1 = ((i - 1 : Nat) : Int) by omega, gi_nat (by omega)]
          exact h6 _ (List.getElem_mem _)
        have hi0' : ¬ (i : Int) = 0 := by omega
        simp only [show (0 : Int) < (i : Int) from by omega, if_true, if_neg hi0', need_pos hpr]
        generalize gi l ((i : Int) - 1) = q at *
        obtain ⟨q1, q2⟩ := q
        simp only [] at hq
        have hz : ∀ z : Int × Int, (-9223372036854775808 ≤ z.1 ∧ z.1 ≤ 9223372036854775807) → ∃ (xa xb e : Int) (la lb : List (Int × Int)), m_frontier_DecodeBlock_L14 xs yf K (n1 + 1) j2 e2 (l ++ [z]) ((i + 1 : Nat) : Int) = K xa e la ∧ m_ref35_DecodeBlock_L2 xs yr K' (n2 + 1) j2' e2 (l ++ [z]) ((i + 1 : Nat) : Int) = K' xb e lb ∧
            (e = 0 → xa = xb ∧ la = lb ∧ x8 ≤ xa ∧ xa ≤ xs.length ∧ la.length = v) := by
          intro z hz
          by_cases he2 : e2 = 0
          · subst he2
            obtain ⟨rfl, d1, d2, d3, d4⟩ := c1 rfl
            obtain ⟨xa, xb, e, la, lb, q1, q2, q3⟩ := ih (i + 1) (n1 + 1) (n2 + 1) j2 (l ++ [z]) (by omega) (by omega) (by omega) (by omega) d2 (by rw [List.length_append, h5]; rfl)
              (fun p hp => by
                rcases List.mem_append.1 hp with hp | hp
                · exact h6 p hp
                · simp at hp; subst hp; exact hz)
            exact ⟨xa, xb, e, la, lb, q1, q2, fun he => by obtain ⟨z1, z2, z3, z4, z5⟩ := q3 he; exact ⟨z1, z2, by omega, z4, z5⟩⟩
          · exact ⟨_, _, e2, _, _, dec_exit_f _ _ _ _ _ _ _ _ (Or.inl he2), dec_exit_r _ _ _ _ _ _ _ _ (Or.inl he2), fun h => absurd h he2⟩
        by_cases hv1 : v1 = 0
        · subst hv1
          simp only [if_true]
          rw [show i64 (0 + q1) = q1 by rw [i64_id (by omega)]; omega, Int.add_comm v2]
          exact hz _ hq
        · simp only [if_neg hv1]
          rw [Int.add_comm v1 q1]
          exact hz _ (wrap_i64_range _)
    · simp only [if_neg he1]
      rw [(two_f xs _ x8 v1 j1 e1 f1).1 he1]
      by_cases hi0 : i = 0
      · subst hi0
        simp only [Int.natCast_zero, Int.lt_irrefl, if_false, if_true]
        exact ⟨_, _, e1, _, _, dec_exit_f _ _ _ _ _ _ _ _ (Or.inl he1), dec_exit_r _ _ _ _ _ _ _ _ (Or.inl he1), fun h => absurd h he1⟩
      · have hpr : (0 : Int) ≤ (i : Int) - 1 ∧ (i : Int) - 1 < (l.length : Int) := by omega
        have hi0' : ¬ (i : Int) = 0 := by omega
        simp only [show (0 : Int) < (i : Int) from by omega, if_true, if_neg hi0', need_pos hpr]
        by_cases hv1 : v1 = 0
        · simp only [if_pos hv1]
          exact ⟨_, _, e1, _, _, dec_exit_f _ _ _ _ _ _ _ _ (Or.inl he1), dec_exit_r _ _ _ _ _ _ _ _ (Or.inl he1), fun h => absurd h he1⟩
        · simp only [if_neg hv1]
          exact ⟨_, _, e1, _, _, dec_exit_f _ _ _ _ _ _ _ _ (Or.inl he1), dec_exit_r _ _ _ _ _ _ _ _ (Or.inl he1), fun h => absurd h he1⟩
end Go.Proofs.Ytkplmgdmkfgjhaa
/- The two decodings answer alike, on every data and at every place. -/
namespace Go.Proofs.Ytkplmgdmkfgjhaa
attribute [local irreducible] FU

noncomputable def endF (a0 : List UInt8) (a1 : Int) : Int → Int → List (Int × Int) → Option (List (Int × Int) × Int × Int) := (fun (x8_j8 : Int) (x9_j8 : Int) (x10_j8 : List (Int × Int)) => if ¬ x9_j8 = 0 then (some ([], 0, x9_j8)) else (if (i64 ((List.length a0 : Int) - x8_j8)) < 4 then (some ([], 0, 23)) else (need ((0 : Int) ≤ a1 ∧ a1 ≤ i64 (x8_j8 + 4) ∧ (i64 (x8_j8 + 4)) ≤ (List.length a0 : Int)) (bnd1 (m_codec_Sealed (List.take (Int.toNat (i64 (x8_j8 + 4)) - Int.toNat a1) (List.drop (Int.toNat a1) a0))) (fun y632 => if !y632 then (some ([], 0, 24)) else (jn (fun (x114_j633 : Bool) => if x114_j633 then (some ([], 0, 22)) else (some (x10_j8, i64 (x8_j8 + 4), 0))) (fun k633 => bnd1 (m_frontier_isBlock x10_j8) (fun y637 => if !y637 then (k633 true) else (bnd1 (m_frontier_encode x10_j8) (fun y638 => bnd1 (m_bytes_Equal y638 (List.take (Int.toNat (i64 (x8_j8 + 4)) - Int.toNat a1) (List.drop (Int.toNat a1) a0))) (fun y639 => k633 (!y639))))))))))))
noncomputable def endR (a0 : List UInt8) (a1 : Int) : Int → Int → List (Int × Int) → Option (List (Int × Int) × Int × Int) := (fun (x8_j8 : Int) (x9_j8 : Int) (x10_j8 : List (Int × Int)) => if ¬ x9_j8 = 0 then (some ([], 0, x9_j8)) else (if (List.length a0 : Int) < (i64 (x8_j8 + 4)) then (some ([], 0, 23)) else (need ((0 : Int) ≤ a1 ∧ a1 ≤ x8_j8 ∧ x8_j8 ≤ (List.length a0 : Int)) (bnd1 (m_ref23_Sealed (List.take (Int.toNat x8_j8 - Int.toNat a1) (List.drop (Int.toNat a1) a0))) (fun y163 => need ((0 : Int) ≤ a1 ∧ a1 ≤ i64 (x8_j8 + 4) ∧ (i64 (x8_j8 + 4)) ≤ (List.length a0 : Int)) (if ¬ y163 = (List.take (Int.toNat (i64 (x8_j8 + 4)) - Int.toNat a1) (List.drop (Int.toNat a1) a0)) then (some ([], 0, 24)) else (bnd1 (m_ref35_EncodeBlock x10_j8) (fun y165 => jn (fun (x148_j170 : Bool) => if x148_j170 then (some ([], 0, 22)) else (some (x10_j8, i64 (x8_j8 + 4), 0))) (fun k170 => if ¬ y165.2 = 0 then (k170 true) else (need ((0 : Int) ≤ a1 ∧ a1 ≤ i64 (x8_j8 + 4) ∧ (i64 (x8_j8 + 4)) ≤ (List.length a0 : Int)) (k170 (decide (¬ y165.1 = (List.take (Int.toNat (i64 (x8_j8 + 4)) - Int.toNat a1) (List.drop (Int.toNat a1) a0)))))))))))))))

theorem same_loop (l : List (Int × Int)) (hl : l.length ≤ 1099511627776) : ∀ (m i n : Nat), i + m = l.length → m < n → m_law36_same_L2 l l (fun _ => some true) n i = some true := by
  intro m
  induction m with
  | zero =>
    intro i n hi h
    obtain ⟨n, rfl⟩ : ∃ k, n = k + 1 := ⟨n - 1, by omega⟩
    obtain rfl : i = l.length := by omega
    simp [m_law36_same_L2, m_law36_same_B2]
  | succ m ih =>
    intro i n hi h
    obtain ⟨n, rfl⟩ : ∃ k, n = k + 1 := ⟨n - 1, by omega⟩
    have hin : (0 : Int) ≤ (i : Int) ∧ (i : Int) < (l.length : Int) := by omega
    have e5 : i64 ((i : Int) + 1) = ((i + 1 : Nat) : Int) := by rw [i64_id (by omega)]; omega
    rw [m_law36_same_L2, m_law36_same_B2, if_pos hin.2, need_pos hin, need_pos hin, if_neg (by simp), e5]
    exact ih (i + 1) n (by omega) (by omega)
theorem same_refl (l : List (Int × Int)) (hl : l.length ≤ 1099511627776) : m_law36_same l l = some true := by
  have := FU_ge
  unfold m_law36_same
  rw [if_neg (by simp), jn_eq]
  exact same_loop l hl l.length 0 FU (by omega) (by omega)

end Go.Proofs.Ytkplmgdmkfgjhaa
/- Runs as lists: adding, sorting, subtracting as the reference does it. -/
namespace Go.Proofs.Ytkplmgdmkfgjhaa
attribute [local irreducible] FU

theorem LtP.trans {a b c : Int × Int} (h : LtP a b) (h' : LtP b c) : LtP a c := by unfold LtP at *; omega
theorem LtP.tri (a b : Int × Int) : LtP a b ∨ a = b ∨ LtP b a := by
  obtain ⟨a1, a2⟩ := a
  obtain ⟨b1, b2⟩ := b
  unfold LtP
  simp only [Prod.mk.injEq]
  omega
abbrev SL (l : List (Int × Int)) : Prop := l.Pairwise LtP
theorem run_iff (l : List (Int × Int)) : Run l ↔ (∀ p ∈ l, OkP p) ∧ SL l := by
  constructor
  · intro h
    refine ⟨fun p hp => ?_, ?_⟩
    · obtain ⟨i, hi, rfl⟩ := List.getElem_of_mem hp
      have := (h i (Nat.zero_le _) hi).1
      rwa [gi_nat hi] at this
    · rw [SL, List.pairwise_iff_getElem]
      have step : ∀ (d i : Nat) (hi : i + d + 1 < l.length), LtP (l[i]'(by omega)) (l[i + d + 1]'hi) := by
        intro d
        induction d with
        | zero =>
          intro i hi
          have := (h (i + 1) (Nat.zero_le _) (by omega)).2 (by omega)
          rw [show ((i + 1 : Nat) : Int) - 1 = (i : Int) by omega, gi_nat (by omega), gi_nat (by omega)] at this
          exact this
        | succ d ih =>
          intro i hi
          have := (h (i + (d + 1) + 1) (Nat.zero_le _) hi).2 (by omega)
          rw [show ((i + (d + 1) + 1 : Nat) : Int) - 1 = ((i + d + 1 : Nat) : Int) by omega, gi_nat (by omega), gi_nat hi] at this
          exact (ih i (by omega)).trans this
      intro i j hi hj hij
      obtain ⟨d, rfl⟩ : ∃ d, j = i + d + 1 := ⟨j - i - 1, by omega⟩
      exact step d i hj
  · intro ⟨h1, h2⟩ i _ hi
    rw [gi_nat hi]
    refine ⟨h1 _ (List.getElem_mem _), fun h0 => ?_⟩
    rw [show (i : Int) - 1 = ((i - 1 : Nat) : Int) by omega, gi_nat (by omega)]
    exact List.pairwise_iff_getElem.1 h2 (i - 1) i (by omega) hi (by omega)

theorem add_loop (l : List (Int × Int)) (q : Int × Int) (hl : l.length ≤ 1099511627776) (K : Int → Option (List (Int × Int))) : ∀ (m i n : Nat), i + m = l.length → m < n →
    ∃ j : Nat, i ≤ j ∧ j ≤ l.length ∧ m_ref35_Add_L2 l q K n i = K j ∧ (∀ k (h : k < l.length), i ≤ k → k < j → LtP l[k] q) ∧ (∀ h : j < l.length, ¬ LtP l[j] q) := by
  intro m
  induction m with
  | zero =>
    intro i n hi h
    obtain ⟨n, rfl⟩ : ∃ k, n = k + 1 := ⟨n - 1, by omega⟩
    obtain rfl : i = l.length := by omega
    exact ⟨l.length, Nat.le_refl _, Nat.le_refl _, by simp [m_ref35_Add_L2, m_ref35_Add_B2, jn_eq], fun k h1 h2 h3 => by omega, fun h => absurd h (Nat.lt_irrefl _)⟩
  | succ m ih =>
    intro i n hi h
    obtain ⟨n, rfl⟩ : ∃ k, n = k + 1 := ⟨n - 1, by omega⟩
    have hin : (0 : Int) ≤ (i : Int) ∧ (i : Int) < (l.length : Int) := by omega
    have e5 : i64 ((i : Int) + 1) = ((i + 1 : Nat) : Int) := by rw [i64_id (by omega)]; omega
    rw [m_ref35_Add_L2, m_ref35_Add_B2]
    simp only [jn_eq, if_pos hin.2, need_pos hin, e5, gi_nat (show i < l.length by omega), rLess, bnd1_mk]
    by_cases he : LtP l[i] q
    · simp only [he, decide_true, if_true]
      obtain ⟨j, j1, j2, j3, j4, j5⟩ := ih (i + 1) n (by omega) (by omega)
      refine ⟨j, by omega, j2, j3, fun k h1 h2 h3 => ?_, j5⟩
      by_cases hk : k = i
      · subst hk; exact he
      · exact j4 k h1 (by omega) h3
    · simp only [he, decide_false, Bool.false_eq_true, if_false]
      exact ⟨i, Nat.le_refl _, by omega, rfl, fun k h1 h2 h3 => by omega, fun _ => he⟩

theorem add_spec (l : List (Int × Int)) (q : Int × Int) (hl : l.length ≤ 1000000000) (hs : SL l) :
    ∃ r, m_ref35_Add l q = some r ∧ SL r ∧ (∀ x, x ∈ r ↔ x ∈ l ∨ x = q) ∧ r.length ≤ l.length + 1 := by
  have := FU_ge
  unfold m_ref35_Add
  rw [jn_eq]
  obtain ⟨j, _, j2, j3, j4, j5⟩ := add_loop l q (by omega) (fun x5 => jn (fun (x32_j73 : Bool) => if x32_j73 then (some l) else (need (0 ≤ x5 ∧ x5 ≤ (List.length l : Int)) (need (List.length ([] : List (Int × Int)) + List.length (List.take (Int.toNat x5) l) ≤ 137438953472) (need (List.length (([] : List (Int × Int)) ++ (List.take (Int.toNat x5) l)) + List.length [q] ≤ 137438953472) (need ((0 : Int) ≤ x5 ∧ x5 ≤ (List.length l : Int)) (need (List.length ((([] : List (Int × Int)) ++ (List.take (Int.toNat x5) l)) ++ [q]) + List.length (List.drop (Int.toNat x5) l) ≤ 137438953472) (some (((([] : List (Int × Int)) ++ (List.take (Int.toNat x5) l)) ++ [q]) ++ (List.drop (Int.toNat x5) l))))))))) (fun k73 => if x5 < (List.length l : Int) then (need ((0 : Int) ≤ x5 ∧ x5 < (List.length l : Int)) (k73 (decide ((gi l x5) = q)))) else (k73 false))) l.length 0 FU (by omega) (by omega)
  have hA : ∀ a ∈ l.take j, LtP a q := by
    intro a ha
    obtain ⟨k, hk, rfl⟩ := List.getElem_of_mem ha
    simp only [List.length_take] at hk
    rw [List.getElem_take]
    exact j4 k (by omega) (Nat.zero_le _) (by omega)
  have hsplit := List.take_append_drop j l
  have hpw : SL (l.take j ++ l.drop j) := by rw [hsplit]; exact hs
  obtain ⟨p1, p2, p3⟩ := List.pairwise_append.1 hpw
  have ins : (∀ b ∈ l.drop j, LtP q b) → ∃ r, (some (((([] : List (Int × Int)) ++ (List.take j l)) ++ [q]) ++ (List.drop j l)) : Option (List (Int × Int))) = some r ∧ SL r ∧ (∀ x, x ∈ r ↔ x ∈ l ∨ x = q) ∧ r.length ≤ l.length + 1 := by
    intro hB
    refine ⟨_, rfl, ?_, fun x => ?_, ?_⟩
    · rw [List.nil_append, SL, List.append_assoc, List.pairwise_append]
      refine ⟨p1, ?_, fun a ha b hb => ?_⟩
      · simp only [List.singleton_append, List.pairwise_cons]
        exact ⟨hB, p2⟩
      · simp only [List.singleton_append, List.mem_cons] at hb
        rcases hb with rfl | hb
        · exact hA a ha
        · exact p3 a ha b hb
    · have : x ∈ l ↔ x ∈ l.take j ∨ x ∈ l.drop j := by rw [← List.mem_append, hsplit]
      rw [this]
      simp only [List.nil_append, List.append_assoc, List.mem_append, List.mem_singleton]
      constructor
      · rintro (h | h | h) <;> simp [h]
      · rintro ((h | h) | h) <;> simp [h]
    · simp; omega
  rw [Int.natCast_zero] at j3
  rw [j3]
  have n1 : (0 : Int) ≤ (j : Int) ∧ (j : Int) ≤ (List.length l : Int) := by omega
  have n2 : List.length ([] : List (Int × Int)) + List.length (List.take j l) ≤ 137438953472 := by simp; omega
  have n3 : List.length (([] : List (Int × Int)) ++ (List.take j l)) + List.length [q] ≤ 137438953472 := by simp; omega
  have n4 : List.length ((([] : List (Int × Int)) ++ (List.take j l)) ++ [q]) + List.length (List.drop j l) ≤ 137438953472 := by simp; omega
  simp only [jn_eq, Int.toNat_natCast, need_pos n1, need_pos n2, need_pos n3, need_pos n4]
  by_cases hj : j < l.length
  · have hdrop := List.drop_eq_getElem_cons hj
    rw [if_pos (by omega), need_pos (by omega), gi_nat hj]
    by_cases he : l[j] = q
    · simp only [he, decide_true, if_true]
      exact ⟨l, rfl, hs, fun x => ⟨Or.inl, fun h => h.elim id (fun h => by rw [h, ← he]; exact List.getElem_mem _)⟩, by omega⟩
    · simp only [he, decide_false, Bool.false_eq_true, if_false]
      refine ins fun b hb => ?_
      have hq : LtP q l[j] := by
        rcases LtP.tri l[j] q with h | h | h
        · exact absurd h (j5 hj)
        · exact absurd h he
        · exact h
      rw [hdrop] at hb p2
      rcases List.mem_cons.1 hb with rfl | hb
      · exact hq
      · exact hq.trans ((List.pairwise_cons.1 p2).1 b hb)
  · rw [if_neg (by omega)]
    simp only [Bool.false_eq_true, if_false]
    refine ins fun b hb => ?_
    rw [List.drop_eq_nil_of_le (by omega)] at hb
    cases hb

theorem sorted_check (l : List (Int × Int)) (hl : l.length ≤ 1099511627776) (K : Unit → Option (List (Int × Int))) : ∀ (m i n : Nat), i + m = l.length → m < n →
    m_ref35_Sorted_L2 l K n i = if (∀ p ∈ l.drop i, OkP p) then K () else some [] := by
  intro m
  induction m with
  | zero =>
    intro i n hi h
    obtain ⟨n, rfl⟩ : ∃ k, n = k + 1 := ⟨n - 1, by omega⟩
    obtain rfl : i = l.length := by omega
    simp [m_ref35_Sorted_L2, m_ref35_Sorted_B2]
  | succ m ih =>
    intro i n hi h
    obtain ⟨n, rfl⟩ : ∃ k, n = k + 1 := ⟨n - 1, by omega⟩
    have hin : (0 : Int) ≤ (i : Int) ∧ (i : Int) < (l.length : Int) := by omega
    have e5 : i64 ((i : Int) + 1) = ((i + 1 : Nat) : Int) := by rw [i64_id (by omega)]; omega
    rw [m_ref35_Sorted_L2, m_ref35_Sorted_B2, if_pos hin.2, need_pos hin, e5, gi_nat (by omega), rIsPair, bnd1_mk, ih (i + 1) n (by omega) (by omega), List.drop_eq_getElem_cons (show i < l.length by omega)]
    generalize List.drop (i + 1) l = t
    by_cases he : OkP l[i]
    · simp only [List.forall_mem_cons, he, true_and, decide_true, Bool.not_true, Bool.false_eq_true, if_false]
    · simp only [List.forall_mem_cons, he, false_and, decide_false, Bool.not_false, if_true, if_false]

theorem sorted_adds (l : List (Int × Int)) (hl : l.length ≤ 100000000) : ∀ (m i n : Nat) (r : List (Int × Int)), i + m = l.length → m < n → SL r → r.length ≤ i →
    ∃ s, m_ref35_Sorted_L4 l (fun x3 => some x3) n r i = some s ∧ SL s ∧ (∀ x, x ∈ s ↔ x ∈ r ∨ x ∈ l.drop i) ∧ s.length ≤ l.length := by
  intro m
  induction m with
  | zero =>
    intro i n r hi h h1 h2
    obtain ⟨n, rfl⟩ : ∃ k, n = k + 1 := ⟨n - 1, by omega⟩
    obtain rfl : i = l.length := by omega
    exact ⟨r, by simp [m_ref35_Sorted_L4, m_ref35_Sorted_B4], h1, by simp, h2⟩
  | succ m ih =>
    intro i n r hi h h1 h2
    obtain ⟨n, rfl⟩ : ∃ k, n = k + 1 := ⟨n - 1, by omega⟩
    have hin : (0 : Int) ≤ (i : Int) ∧ (i : Int) < (l.length : Int) := by omega
    have e5 : i64 ((i : Int) + 1) = ((i + 1 : Nat) : Int) := by rw [i64_id (by omega)]; omega
    obtain ⟨t, t1, t2, t3, t4⟩ := add_spec r (gi l (i : Int)) (by omega) h1
    rw [m_ref35_Sorted_L4, m_ref35_Sorted_B4, if_pos hin.2, need_pos hin, e5, t1, bnd1_mk]
    obtain ⟨s, s1, s2, s3, s4⟩ := ih (i + 1) n t (by omega) (by omega) t2 (by omega)
    refine ⟨s, s1, s2, fun x => ?_, s4⟩
    rw [s3, t3, gi_nat (by omega), List.drop_eq_getElem_cons (show i < l.length by omega), List.mem_cons, or_assoc]

theorem sorted_spec (l : List (Int × Int)) (hl : l.length ≤ 100000000) :
    ∃ s, m_ref35_Sorted l = some s ∧ s.length ≤ l.length ∧ ((∀ p ∈ l, OkP p) → SL s ∧ ∀ x, x ∈ s ↔ x ∈ l) ∧ (¬ (∀ p ∈ l, OkP p) → s = []) := by
  have := FU_ge
  unfold m_ref35_Sorted
  simp only [jn_eq]
  have h := sorted_check l (by omega) (fun _ => m_ref35_Sorted_L4 l (fun x3 => some x3) FU [] 0) l.length 0 FU (by omega) (by omega)
  rw [List.drop_zero] at h
  obtain ⟨s, s1, s2, s3, s4⟩ := sorted_adds l hl l.length 0 FU [] (by omega) (by omega) List.Pairwise.nil (Nat.le_refl _)
  rw [List.drop_zero] at s3
  by_cases hp : ∀ p ∈ l, OkP p
  · rw [if_pos hp] at h
    exact ⟨s, h.trans s1, s4, fun _ => ⟨s2, fun x => by rw [s3]; simp⟩, fun h => absurd hp h⟩
  · rw [if_neg hp] at h
    exact ⟨[], h, by simp, fun h => absurd h hp, fun _ => rfl⟩

end Go.Proofs.Ytkplmgdmkfgjhaa
/- The tape's draws. -/
namespace Go.Proofs.Ytkplmgdmkfgjhaa
attribute [local irreducible] FU

theorem tmod_range (x n : Int) (h : 1 ≤ n) : -n < Int.tmod x n ∧ Int.tmod x n < n := by
  have h1 := Int.natAbs_tmod x n
  have h2 : x.natAbs % n.natAbs < n.natAbs := Nat.mod_lt _ (by omega)
  omega
/-- A tape is the list it reads and the place it stands at. -/
theorem next_spec (xs : List Int) (p n : Int) (h0 : 0 ≤ p) (h1 : p < 4611686018427387904) (hn : n ≤ 4611686018427387904) :
    ∃ v, m_gen2_Tape_Next (xs, p) n = some (v, (xs, p + 1)) ∧ 0 ≤ v ∧ (1 ≤ n → v < n) ∧ (n < 1 → v = 0) := by
  unfold m_gen2_Tape_Next
  simp only [jn_eq, i64_id (show -9223372036854775808 ≤ p + 1 ∧ p + 1 ≤ 9223372036854775807 by omega)]
  have main : ∀ x : Int, ∃ v, (if n < 1 then some ((0 : Int), (xs, p + 1)) else need (n ≠ 0) (if Int.tmod x n < 0 then some (i64 (Int.tmod x n + n), (xs, p + 1)) else some (Int.tmod x n, (xs, p + 1)))) = some (v, (xs, p + 1)) ∧ 0 ≤ v ∧ (1 ≤ n → v < n) ∧ (n < 1 → v = 0) := by
    intro x
    by_cases hn1 : n < 1
    · rw [if_pos hn1]; exact ⟨0, rfl, by omega, by omega, by omega⟩
    · rw [if_neg hn1, need_pos (by omega)]
      have := tmod_range x n (by omega)
      by_cases hx : Int.tmod x n < 0
      · rw [if_pos hx, i64_id (by omega)]; exact ⟨_, rfl, by omega, by omega, by omega⟩
      · rw [if_neg hx]; exact ⟨_, rfl, by omega, by omega, by omega⟩
  by_cases hp : p < (List.length xs : Int)
  · rw [if_pos hp, need_pos (by omega)]; exact main _
  · rw [if_neg hp]; exact main _

theorem pairs_loop (xs : List Int) (K : List Int → Int → List (Int × Int) → Option (List (Int × Int) × (List Int × Int))) : ∀ (m n : Nat) (p : Int) (ps : List (Int × Int)), m < n → m ≤ 1000000 → 0 ≤ p → p + 4 * m < 4611686018427387904 → ps.length + m ≤ 100000000 → (∀ q ∈ ps, OkP q) →
    ∃ l p', m_law36_pairs_L2 K n xs p ps m = K xs p' l ∧ l.length = ps.length + m ∧ p ≤ p' ∧ p' ≤ p + 4 * m ∧ (∀ q ∈ l, OkP q) := by
  intro m
  induction m with
  | zero =>
    intro n p ps h hm h0 h1 h2 h3
    obtain ⟨n, rfl⟩ : ∃ k, n = k + 1 := ⟨n - 1, by omega⟩
    exact ⟨ps, p, by simp [m_law36_pairs_L2, m_law36_pairs_B2], by omega, by omega, by omega, h3⟩
  | succ m ih =>
    intro n p ps h hm h0 h1 h2 h3
    obtain ⟨n, rfl⟩ : ∃ k, n = k + 1 := ⟨n - 1, by omega⟩
    obtain ⟨v1, a1, b1, c1, _⟩ := next_spec xs p 4 (by omega) (by omega) (by omega)
    obtain ⟨v2, a2, b2, c2, _⟩ := next_spec xs (p + 1) 2 (by omega) (by omega) (by omega)
    obtain ⟨v3, a3, b3, c3, _⟩ := next_spec xs (p + 1 + 1) 6 (by omega) (by omega) (by omega)
    obtain ⟨v4, a4, b4, c4, _⟩ := next_spec xs (p + 1 + 1 + 1) 3 (by omega) (by omega) (by omega)
    have c1 := c1 (by omega)
    have c2 := c2 (by omega)
    have c3 := c3 (by omega)
    have c4 := c4 (by omega)
    rw [m_law36_pairs_L2, m_law36_pairs_B2, if_pos (by omega)]
    simp only [a1, a2, a3, a4, bnd1_mk]
    have e1 : i64 (200 * v2) = 200 * v2 := i64_id (by omega)
    have e2 : i64 (1 + 200 * v2) = 1 + 200 * v2 := i64_id (by omega)
    have e3 : i64 (90 * v4) = 90 * v4 := i64_id (by omega)
    have e4 : i64 (1 + 90 * v4) = 1 + 90 * v4 := i64_id (by omega)
    have m1 : 0 ≤ v1 * (1 + 200 * v2) ∧ v1 * (1 + 200 * v2) ≤ 603 := by
      have : v2 = 0 ∨ v2 = 1 := by omega
      rcases this with rfl | rfl <;> omega
    have m2 : 0 ≤ v3 * (1 + 90 * v4) ∧ v3 * (1 + 90 * v4) ≤ 905 := by
      have : v4 = 0 ∨ v4 = 1 ∨ v4 = 2 := by omega
      rcases this with rfl | rfl | rfl <;> omega
    have e5 : i64 (v1 * (1 + 200 * v2)) = v1 * (1 + 200 * v2) := i64_id (by omega)
    have e6 : i64 (v3 * (1 + 90 * v4)) = v3 * (1 + 90 * v4) := i64_id (by omega)
    have e7 : i64 (((m + 1 : Nat) : Int) - 1) = (m : Int) := by rw [i64_id (by omega)]; omega
    simp only [e1, e2, e3, e4, e5, e6, e7]
    rw [need_pos (by simp; omega)]
    obtain ⟨l, p', d1, d2, d3, d4, d5⟩ := ih n (p + 1 + 1 + 1 + 1) (ps ++ [(v1 * (1 + 200 * v2), v3 * (1 + 90 * v4))]) (by omega) (by omega) (by omega) (by omega) (by simp; omega)
      (fun q hq => by
        rcases List.mem_append.1 hq with hq | hq
        · exact h3 q hq
        · simp at hq; subst hq; exact ⟨m1.1, by simp only []; omega, m2.1, by simp only []; omega⟩)
    exact ⟨l, p', d1, by rw [d2]; simp; omega, by omega, by omega, d5⟩

theorem pairs_spec (xs : List Int) (p n : Int) (h0 : 0 ≤ p) (h1 : p < 1000000000000) (hn0 : 0 ≤ n) (hn : n ≤ 100000) :
    ∃ l p', m_law36_pairs (xs, p) n = some (l, (xs, p')) ∧ (l.length : Int) ≤ n ∧ p ≤ p' ∧ p' ≤ p + 4 * n + 1 ∧ (∀ q ∈ l, OkP q) := by
  have := FU_ge
  obtain ⟨v, a, b, c, _⟩ := next_spec xs p (n + 1) h0 (by omega) (by omega)
  have c := c (by omega)
  unfold m_law36_pairs
  rw [jn_eq, i64_id (by omega)]
  simp only [a, bnd1_mk]
  obtain ⟨l, p', d1, d2, d3, d4, d5⟩ := pairs_loop xs (fun (x0_0_j1 : List Int) (x0_1_j1 : Int) (x5_j1 : List (Int × Int)) => some (x5_j1, (x0_0_j1, x0_1_j1))) v.toNat FU (p + 1) [] (by omega) (by omega) (by omega) (by omega) (by simp; omega) (fun q hq => by cases hq)
  rw [show ((v.toNat : Nat) : Int) = v by omega] at d1
  exact ⟨l, p', d1, by rw [d2]; simp; omega, by omega, by omega, d5⟩

theorem run_spec (xs : List Int) (p n : Int) (h0 : 0 ≤ p) (h1 : p < 1000000000000) (hn0 : 0 ≤ n) (hn : n ≤ 100000) :
    ∃ l p', m_law36_run (xs, p) n = some (l, (xs, p')) ∧ (l.length : Int) ≤ n ∧ p ≤ p' ∧ p' ≤ p + 4 * n + 1 ∧ Run l := by
  obtain ⟨l, p', a1, a2, a3, a4, a5⟩ := pairs_spec xs p n h0 h1 hn0 hn
  obtain ⟨s, s1, s2, s3, _⟩ := sorted_spec l (by omega)
  obtain ⟨t1, t2⟩ := s3 a5
  refine ⟨s, p', ?_, by omega, a3, a4, (run_iff s).2 ⟨fun q hq => a5 q ((t2 q).1 hq), t1⟩⟩
  unfold m_law36_run
  simp only [a1, bnd1_mk, s1]

theorem enc_ok {l : List (Int × Int)} (h : Run l) (h1 : 1 ≤ l.length) (h2 : l.length ≤ 1024) : ∃ r, m_ref35_EncodeBlock l = some (r, 0) ∧ m_frontier_encode l = some r ∧ r.length ≤ 30000 ∧ 4 ≤ r.length := by
  obtain ⟨b, _, b2, b3, _⟩ := block_agree l (by omega)
  obtain ⟨r, r1, r2, r3, r4⟩ := b3 (b2.2 ⟨h, h1, h2⟩)
  exact ⟨r, r4, r1, r2, r3⟩

theorem uv_small (ys : List UInt8) (x : Int) (h : x < 128) (hl : ys.length ≤ 1000000000) : m_codec_AppendUvarint ys x = some (ys ++ [u8i x]) := by
  obtain ⟨N, hN⟩ := FU_k 1 (by omega)
  unfold m_codec_AppendUvarint
  rw [jn_eq, hN, m_codec_AppendUvarint_L2, m_codec_AppendUvarint_B2, if_neg (by omega), need_pos (by simp; omega)]

theorem sane_true : m_law36_sane = some true := by
  obtain ⟨N, hN⟩ := FU_k 4 (by omega)
  have hr : Run [(0, 5), (0, 7), (2, 1)] := (run_iff _).2 ⟨by decide, by simp [LtP]⟩
  obtain ⟨b, b1, b2, _⟩ := block_agree [(0, 5), (0, 7), (2, 1)] (by simp)
  have hb := b2.2 ⟨hr, by simp, by simp⟩
  subst hb
  obtain ⟨c, c1, c2, c3⟩ := sum_agree [3, 0, 5, 0, 1, 2, 1] (by simp)
  have henc : m_frontier_encode [(0, 5), (0, 7), (2, 1)] = some ([3, 0, 5, 0, 1, 2, 1] ++ sum4 c) := by
    have g0 : gi [((0 : Int), (5 : Int)), (0, 7), (2, 1)] 0 = (0, 5) := rfl
    have g1 : gi [((0 : Int), (5 : Int)), (0, 7), (2, 1)] 1 = (0, 7) := rfl
    have g2 : gi [((0 : Int), (5 : Int)), (0, 7), (2, 1)] 2 = (2, 1) := rfl
    have w0 : i64 0 = 0 := rfl
    have w1 : i64 1 = 1 := rfl
    have w2 : i64 2 = 2 := rfl
    have w3 : i64 3 = 3 := rfl
    have u0 : u8i 0 = 0 := rfl
    have u1 : u8i 1 = 1 := rfl
    have u2 : u8i 2 = 2 := rfl
    have u3 : u8i 3 = 3 := rfl
    have u5 : u8i 5 = 5 := rfl
    unfold m_frontier_encode
    rw [uv_small [] _ (by simp) (by simp), bnd1_mk, jn_eq, hN]
    simp [m_frontier_encode_L2, m_frontier_encode_B2, jn_eq, need, g0, g1, g2, w0, w1, w2, w3, u0, u1, u2, u3, u5, uv_small, bnd1_mk]
    rw [c2, bnd1_mk]
    rfl
  unfold m_law36_sane m_frontier_EncodeBlock
  simp only [b1, bnd1_mk, henc, jn_eq, Bool.not_true, Bool.false_eq_true, if_false]
  rw [if_pos trivial, if_pos (by simp [sum4]), need_pos (by simp [sum4])]
  simp

end Go.Proofs.Ytkplmgdmkfgjhaa
/- Uvarints as bytes; reading them. -/
namespace Go.Proofs.Ytkplmgdmkfgjhaa
attribute [local irreducible] FU
/-- The bytes of a number; at most k + 1. -/
def uvB : Nat → Nat → List UInt8
  | 0, n => [u8i (n : Int)]
  | k + 1, n => if n < 128 then [u8i (n : Int)] else u8i ((n % 128 + 128 : Nat) : Int) :: uvB k (n / 128)
theorem uvB_len : ∀ (k n : Nat), 1 ≤ (uvB k n).length ∧ (uvB k n).length ≤ k + 1
  | 0, n => by simp [uvB]
  | k + 1, n => by
    rw [uvB]
    split
    · simp
    · have := uvB_len k (n / 128); simp only [List.length_cons]; omega
theorem uv_sp (K : List UInt8 → Int → Option (List UInt8)) (hK : ∀ ys x, ys.length ≤ 1000000010 → K ys x = some (ys ++ [u8i x])) :
    ∀ (m z n : Nat) (ys : List UInt8), z < 2 ^ (7 * (m + 1)) → m < n → z < 2 ^ 63 → ys.length + m ≤ 1000000010 → m_codec_AppendUvarint_L2 K n ys (z : Int) = some (ys ++ uvB m z) := by
  intro m
  induction m with
  | zero =>
    intro z n ys hz h1 h3 hy
    obtain ⟨n, rfl⟩ : ∃ q, n = q + 1 := ⟨n - 1, by omega⟩
    rw [m_codec_AppendUvarint_L2, m_codec_AppendUvarint_B2, if_neg (by omega), hK _ _ (by omega)]; rfl
  | succ m ih =>
    intro z n ys hz h1 h3 hy
    obtain ⟨n, rfl⟩ : ∃ q, n = q + 1 := ⟨n - 1, by omega⟩
    rw [m_codec_AppendUvarint_L2, m_codec_AppendUvarint_B2, uvB]
    by_cases hc : z < 128
    · rw [if_neg (by omega), if_pos hc, hK _ _ (by omega)]
    · rw [if_pos (by omega), if_neg hc]
      have hb : u8i (bOr .i64 (bAnd .i64 (z : Int) 127) 128) = u8i ((z % 128 + 128 : Nat) : Int) := by
        rw [show (127 : Int) = ((127 : Nat) : Int) from rfl, bAnd_nat z 127 (by omega) (by omega), and_127, show (128 : Int) = ((128 : Nat) : Int) from rfl, bOr_nat _ 128 (by omega) (by omega)]
        have := Nat.two_pow_add_eq_or_of_lt (i := 7) (b := z % 128) (by omega) 1
        rw [Nat.or_comm, show (128 : Nat) = 2 ^ 7 * 1 from rfl, ← this]
        congr 2; omega
      have hd : Int.fdiv (z : Int) (2 ^ min (Int.toNat 7) IntKind.i64.bits) = ((z / 128 : Nat) : Int) := by
        rw [show min (Int.toNat 7) IntKind.i64.bits = 7 from rfl, Int.fdiv_eq_ediv_of_nonneg _ (by omega)]; omega
      rw [hb, hd, need_pos (by simp; omega), ih (z / 128) n _ (by
        have hp : 2 ^ (7 * (m + 1 + 1)) = 2 ^ (7 * (m + 1)) * 128 := by rw [show 7 * (m + 1 + 1) = 7 * (m + 1) + 7 by omega, Nat.pow_add]
        omega) (by omega) (by omega) (by simp; omega), List.append_assoc]
      rfl
theorem uv_spec (ys : List UInt8) (z : Nat) (hz : z < 2 ^ 35) (hl : ys.length ≤ 1000000000) : m_codec_AppendUvarint ys (z : Int) = some (ys ++ uvB 4 z) := by
  unfold m_codec_AppendUvarint
  rw [jn_eq]
  exact uv_sp _ (fun ys x h => by rw [need_pos (by simp; omega)]) 4 z FU ys hz (by have := FU_ge; omega) (by omega) (by omega)
end Go.Proofs.Ytkplmgdmkfgjhaa
/- A block as bytes; decoding it again. -/
namespace Go.Proofs.Ytkplmgdmkfgjhaa
attribute [local irreducible] FU
/-- The bytes of a pair after another. -/
def pB : Option (Int × Int) → Int × Int → List UInt8
  | none, p => uvB 4 p.1.toNat ++ uvB 4 p.2.toNat
  | some q, p => uvB 4 (p.1 - q.1).toNat ++ if p.1 = q.1 then uvB 4 (p.2 - q.2 - 1).toNat else uvB 4 p.2.toNat
def eB : Option (Int × Int) → List (Int × Int) → List UInt8
  | _, [] => []
  | o, p :: l => pB o p ++ eB (some p) l
theorem pB_len (o : Option (Int × Int)) (p : Int × Int) : (pB o p).length ≤ 10 := by
  cases o with
  | none => have := (uvB_len 4 p.1.toNat).2; have := (uvB_len 4 p.2.toNat).2; simp only [pB, List.length_append]; omega
  | some q =>
    have h1 := (uvB_len 4 (p.1 - q.1).toNat).2
    have h2 := (uvB_len 4 p.2.toNat).2
    have h3 := (uvB_len 4 (p.2 - q.2 - 1).toNat).2
    simp only [pB, List.length_append]
    split <;> omega
theorem eB_len : ∀ (l : List (Int × Int)) (o : Option (Int × Int)), (eB o l).length ≤ 10 * l.length
  | [], _ => by simp [eB]
  | p :: l, o => by
    have := pB_len o p
    have := eB_len l (some p)
    rw [eB]; simp only [List.length_append, List.length_cons]; omega
def bef (l : List (Int × Int)) (i : Nat) : Option (Int × Int) := if i = 0 then none else some (gi l ((i : Int) - 1))
/-- The entries of a block: what precedes a place, and what comes there. -/
theorem run_at {l : List (Int × Int)} (hr : Run l) {i : Nat} (hi : i < l.length) : OkP (gi l (i : Int)) ∧ (0 < i → OkP (gi l ((i : Int) - 1)) ∧ LtP (gi l ((i : Int) - 1)) (gi l (i : Int))) := by
  have hok := hr i (Nat.zero_le _) hi
  refine ⟨hok.1, fun h0 => ⟨?_, hok.2 h0⟩⟩
  have := (hr (i - 1) (Nat.zero_le _) (by omega)).1
  rwa [show ((i - 1 : Nat) : Int) = (i : Int) - 1 by omega] at this
theorem enc_sp (l : List (Int × Int)) (hr : Run l) (hl : l.length ≤ 1024) (K : List UInt8 → Option (List UInt8)) : ∀ (m i n : Nat) (ys : List UInt8), i + m = l.length → m < n → ys.length + 10 * m ≤ 1000000 →
    m_frontier_encode_L2 l K n ys (i : Int) = K (ys ++ eB (bef l i) (l.drop i)) := by
  intro m
  induction m with
  | zero =>
    intro i n ys hi h1 h3
    obtain ⟨n, rfl⟩ : ∃ q, n = q + 1 := ⟨n - 1, by omega⟩
    obtain rfl : i = l.length := by omega
    rw [m_frontier_encode_L2, m_frontier_encode_B2, if_neg (by omega), List.drop_length, eB, List.append_nil]
  | succ m ih =>
    intro i n ys hi h1 h3
    obtain ⟨n, rfl⟩ : ∃ q, n = q + 1 := ⟨n - 1, by omega⟩
    have hil : i < l.length := by omega
    have e5 : i64 ((i : Int) + 1) = ((i + 1 : Nat) : Int) := by rw [i64_id (by omega)]; omega
    have e6 : i64 ((i : Int) - 1) = (i : Int) - 1 := i64_id (by omega)
    obtain ⟨hok, hbf⟩ := run_at hr hil
    have hd : l.drop i = gi l (i : Int) :: l.drop (i + 1) := by rw [gi_nat hil]; exact List.drop_eq_getElem_cons hil
    have hb1 : bef l (i + 1) = some (gi l (i : Int)) := by
      unfold bef
      rw [if_neg (by omega), show ((i + 1 : Nat) : Int) - 1 = (i : Int) by omega]
    rw [m_frontier_encode_L2, m_frontier_encode_B2, if_pos (by omega)]
    simp only [jn_eq, e5, e6]
    rw [need_pos (by omega), hd, eB]
    have fin : ∀ zs : List UInt8, zs = ys ++ pB (bef l i) (gi l (i : Int)) → m_frontier_encode_L2 l K n zs ((i + 1 : Nat) : Int) = K (ys ++ (pB (bef l i) (gi l (i : Int)) ++ eB (some (gi l (i : Int))) (l.drop (i + 1)))) := fun zs hz => by
      have hlen := pB_len (bef l i) (gi l (i : Int))
      rw [ih (i + 1) n zs (by omega) (by omega) (by rw [hz, List.length_append]; omega), hb1, hz, List.append_assoc]
    obtain ⟨o1, o2, o3, o4⟩ := hok
    have uvs : ∀ (zs : List UInt8) (x : Int), 0 ≤ x → x ≤ 2147483647 → zs.length ≤ 1000100 → m_codec_AppendUvarint zs x = some (zs ++ uvB 4 x.toNat) := fun zs x h0 h1 h2 => by
      obtain ⟨z, rfl⟩ : ∃ z : Nat, x = (z : Int) := ⟨x.toNat, by omega⟩
      exact uv_spec zs z (by omega) (by omega)
    by_cases h0 : i = 0
    · subst h0
      have hbf0 : bef l 0 = none := rfl
      rw [hbf0] at fin ⊢
      simp only [Int.natCast_zero, Int.lt_irrefl, if_false, Bool.false_eq_true, Int.sub_zero] at *
      rw [i64_id (by omega), uvs ys _ o1 o2 (by omega), bnd1_mk, uvs _ _ o3 o4 (by have := (uvB_len 4 (gi l 0).1.toNat).2; rw [List.length_append]; omega), bnd1_mk]
      exact fin _ (by rw [pB, List.append_assoc])
    · obtain ⟨⟨p1, p2, p3, p4⟩, hlt⟩ := hbf (by omega)
      have hbfi : bef l i = some (gi l ((i : Int) - 1)) := by unfold bef; rw [if_neg h0]
      rw [hbfi] at fin ⊢
      have hpos : (0 : Int) < (i : Int) := by omega
      rw [if_pos hpos, need_pos (by omega)]
      simp only [if_pos hpos]
      unfold LtP at hlt
      rw [i64_id (by omega), uvs ys _ (by omega) (by omega) (by omega), bnd1_mk]
      have hul := (uvB_len 4 ((gi l (i : Int)).1 - (gi l ((i : Int) - 1)).1).toNat).2
      by_cases hs : (gi l (i : Int)).1 = (gi l ((i : Int) - 1)).1
      · rw [decide_eq_true hs, if_pos rfl, i64_id (x := (gi l (i : Int)).2 - (gi l ((i : Int) - 1)).2) (by omega), i64_id (by omega), uvs _ _ (by omega) (by omega) (by rw [List.length_append]; omega), bnd1_mk]
        exact fin _ (by rw [pB, if_pos hs, List.append_assoc])
      · rw [decide_eq_false hs, if_neg (by simp), uvs _ _ o3 o4 (by rw [List.length_append]; omega), bnd1_mk]
        exact fin _ (by rw [pB, if_neg hs, List.append_assoc])
/-- A block without and with its sum. -/
def bd (l : List (Int × Int)) : List UInt8 := uvB 4 l.length ++ eB none l
noncomputable def cs (ys : List UInt8) : Int := (m_codec_Checksum ys).getD 0
noncomputable def blk (l : List (Int × Int)) : List UInt8 := bd l ++ sum4 (cs (bd l))
theorem bd_len (l : List (Int × Int)) : 1 ≤ (bd l).length ∧ (bd l).length ≤ 5 + 10 * l.length := by
  have h1 := uvB_len 4 l.length
  have h2 := eB_len l none
  unfold bd; rw [List.length_append]; omega
theorem blk_len (l : List (Int × Int)) : (blk l).length = (bd l).length + 4 := by unfold blk sum4; simp
theorem encode_spec {l : List (Int × Int)} (hr : Run l) (hl : l.length ≤ 1024) : m_frontier_encode l = some (blk l) := by
  unfold m_frontier_encode
  rw [uv_spec [] l.length (by omega) (by simp), bnd1_mk, jn_eq, show (0 : Int) = ((0 : Nat) : Int) from rfl, enc_sp l hr hl _ l.length 0 FU _ (by omega) (by have := FU_ge; omega) (by have := (uvB_len 4 l.length).2; rw [List.nil_append]; omega), List.nil_append, List.drop_zero]
  have h := bd_len l
  obtain ⟨c, c1, c2, _⟩ := sum_agree (bd l) (by omega)
  have hc : cs (bd l) = c := by unfold cs; rw [c1]; rfl
  show bnd1 (m_codec_AppendSum (bd l) 0) _ = _
  rw [c2, bnd1_mk, ← hc]; rfl
end Go.Proofs.Ytkplmgdmkfgjhaa
/- Loops over lists. -/
namespace Go.Proofs.Ytkplmgdmkfgjhaa
attribute [local irreducible] FU

/-! ### Without repetitions -/
section
variable {α : Type} [DecidableEq α]
end
end Go.Proofs.Ytkplmgdmkfgjhaa
/- slices.Compact at pairs. -/
namespace Go.Proofs.Ytkplmgdmkfgjhaa
attribute [local irreducible] FU
end Go.Proofs.Ytkplmgdmkfgjhaa
/- Sorting, merging, subtracting of the program, and the reference's. -/
namespace Go.Proofs.Ytkplmgdmkfgjhaa
attribute [local irreducible] FU

/-! ### Searching -/
/-! ### Merging -/
end Go.Proofs.Ytkplmgdmkfgjhaa
/- A run written to the disk and read again. -/
namespace Go.Proofs.Ytkplmgdmkfgjhaa
attribute [local irreducible] FU
theorem run_take {l : List (Int × Int)} (h : Run l) (n : Nat) : Run (l.take n) := by
  rw [run_iff] at h ⊢
  exact ⟨fun p hp => h.1 p (List.mem_of_mem_take hp), h.2.sublist (List.take_sublist ..)⟩
theorem run_drop {l : List (Int × Int)} (h : Run l) (n : Nat) : Run (l.drop n) := by
  rw [run_iff] at h ⊢
  exact ⟨fun p hp => h.1 p (List.mem_of_mem_drop hp), h.2.sublist (List.drop_sublist ..)⟩
/-- The disk with one file at the most; w: the writes. -/
def DQ (cap : Int) (D : Dk) (data : List UInt8) (w : Nat) : Prop := D.cap = cap ∧ D.fl = 0 ∧ D.dn = false ∧ D.wr = (w : Int) ∧ ((D.names = [] ∧ D.files = [] ∧ data = [] ∧ D.pend = []) ∨ ∃ d, D.names = [([114], 0)] ∧ D.files = [(data, d)] ∧ D.pend.length ≤ 1)
def DR (cap : Int) (D : Dk) (data : List UInt8) (w : Nat) : Prop := D.cap = cap ∧ D.fl = 0 ∧ D.dn = false ∧ D.wr = (w : Int) ∧ ∃ d, D.names = [([114], 0)] ∧ D.files = [(data, d)] ∧ D.pend.length ≤ 1
theorem DR.q {cap : Int} {D : Dk} {data : List UInt8} {w : Nat} (h : DR cap D data w) : DQ cap D data w := ⟨h.1, h.2.1, h.2.2.1, h.2.2.2.1, .inr h.2.2.2.2⟩
theorem used0 (D : Dk) (h : D.names = []) : m_dkUsed D = some 0 := by
  unfold m_dkUsed
  rw [h]
  exact rngC_mk (fun l' hp => by rw [hp.eq_nil]; rfl)
end Go.Proofs.Ytkplmgdmkfgjhaa
/- Reading what was written; the law of the round trip; the examples. -/
namespace Go.Proofs.Ytkplmgdmkfgjhaa
attribute [local irreducible] FU
end Go.Proofs.Ytkplmgdmkfgjhaa
/- The states of both disks of FrontierFiles: Append and Sync. -/
namespace Go.Proofs.Ytkplmgdmkfgjhaa
attribute [local irreducible] FU
abbrev LFs := List (List UInt8 × Int)
abbrev RDk := Int × LFs × LFs × LFs × List (Int × List UInt8 × List UInt8 × Int) × Int × Bool × Int
structure St where
  fs : LFs
  nm : Option Nat
  du : Option Nat
  pe : Option Nat
  wr : Nat
  fl : Nat
  dn : Bool
def dirL : Option Nat → LFs
  | none => []
  | some i => [([114], (i : Int))]
def peD : Option Nat → List (List UInt8 × List UInt8 × Int)
  | none => []
  | some i => [([], [114], (i : Int))]
def peR : Option Nat → List (Int × List UInt8 × List UInt8 × Int)
  | none => []
  | some i => [(1, [114], [], (i : Int))]
def mkD (S : St) : Dk := ⟨300, S.fs, dirL S.nm, dirL S.du, peD S.pe, S.wr, S.fl, S.dn⟩
def mkR (S : St) : RDk := (300, S.fs, dirL S.nm, dirL S.du, peR S.pe, S.fl, S.dn, S.wr)
structure OkS (B : Nat) (S : St) : Prop where
  nm : ∀ i, S.nm = some i → i < S.fs.length
  du : ∀ i, S.du = some i → i < S.fs.length
  pe : ∀ i, S.pe = some i → i < S.fs.length
  np : S.nm = none → S.pe = none
  fb : ∀ x ∈ S.fs, x.1.length ≤ 300 ∧ 0 ≤ x.2 ∧ x.2 ≤ x.1.length
  fl : S.fl ≤ 3
  wr : S.wr ≤ B
  ln : S.fs.length ≤ B
theorem OkS.mono {B C : Nat} {S : St} (h : OkS B S) (hc : B ≤ C) : OkS C S := ⟨h.nm, h.du, h.pe, h.np, h.fb, h.fl, Nat.le_trans h.wr hc, Nat.le_trans h.ln hc⟩
def wS (S : St) : St := { S with wr := S.wr + 1, fl := S.fl - 1, dn := if 0 < S.fl then decide (S.fl = 1) else S.dn }
theorem wD {B : Nat} {S : St} (h : OkS B S) (hB : B ≤ 1000000) : dkWr (mkD S) = mkD (wS S) := by
  obtain ⟨fs, nm, du, pe, wr, fl, dn⟩ := S
  have h1 := h.wr
  have h2 := h.fl
  dsimp only at h1 h2
  have e1 : i64 ((wr : Int) + 1) = ((wr + 1 : Nat) : Int) := by rw [i64_id (by omega)]; omega
  unfold dkWr mkD wS
  dsimp only
  rw [e1]
  by_cases h0 : 0 < fl
  · have e2 : i64 ((fl : Int) - 1) = ((fl - 1 : Nat) : Int) := by rw [i64_id (by omega)]; omega
    rw [if_pos (by omega), if_pos (by omega), if_pos h0, e2]
    have : decide (((fl - 1 : Nat) : Int) = 0) = decide (fl = 1) := decide_eq_decide.2 (by omega)
    rw [this]
  · rw [if_neg (by omega), if_neg (by omega), if_neg h0, show fl - 1 = fl by omega]
theorem wR {B : Nat} {S : St} (h : OkS B S) (hB : B ≤ 1000000) : m_ref35_Disk_write (mkR S) = some ((wS S).dn, mkR (wS S)) := by
  obtain ⟨fs, nm, du, pe, wr, fl, dn⟩ := S
  have h1 := h.wr
  have h2 := h.fl
  dsimp only at h1 h2
  have e1 : i64 ((wr : Int) + 1) = ((wr + 1 : Nat) : Int) := by rw [i64_id (by omega)]; omega
  unfold m_ref35_Disk_write mkR wS
  rw [jn_eq]
  dsimp only
  rw [e1]
  by_cases h0 : 0 < fl
  · have e2 : i64 ((fl : Int) - 1) = ((fl - 1 : Nat) : Int) := by rw [i64_id (by omega)]; omega
    rw [if_pos (by omega), if_pos h0, e2]
    have : decide (((fl - 1 : Nat) : Int) = 0) = decide (fl = 1) := decide_eq_decide.2 (by omega)
    rw [this]
  · rw [if_neg (by omega), if_neg h0, show fl - 1 = fl by omega]
theorem okW {B : Nat} {S : St} (h : OkS B S) : OkS (B + 1) (wS S) :=
  ⟨h.nm, h.du, h.pe, h.np, h.fb, by have := h.fl; show S.fl - 1 ≤ 3; omega, Nat.succ_le_succ h.wr, Nat.le_succ_of_le h.ln⟩
def crS (S : St) : St := match S.nm with
  | some _ => S
  | none => { S with fs := S.fs ++ [([], 0)], nm := some S.fs.length, pe := some S.fs.length }
def ap1 (S : St) (i : Nat) (b : List UInt8) : St := { S with fs := S.fs.set i ((gi S.fs (i : Int)).1 ++ b, (gi S.fs (i : Int)).2) }
def usS (S : St) : Nat := match S.nm with
  | none => 0
  | some i => (gi S.fs (i : Int)).1.length
def apS (S : St) (b : List UInt8) : Int × St :=
  if S.dn = true then (25, S) else if 300 < usS S + b.length then (10, S)
  else if (wS S).dn = true then (25, ap1 (crS (wS S)) ((crS (wS S)).nm.getD 0) (b.take (b.length / 2))) else (0, ap1 (crS (wS S)) ((crS (wS S)).nm.getD 0) b)
theorem gi_mem' {l : LFs} {i : Nat} (h : i < l.length) : gi l (i : Int) ∈ l := by
  rw [gi_nat h]; exact List.getElem_mem h
theorem usD {B : Nat} {S : St} (h : OkS B S) : m_dkUsed (mkD S) = some (usS S : Int) := by
  obtain ⟨fs, nm, du, pe, wr, fl, dn⟩ := S
  cases nm with
  | none => exact used0 _ rfl
  | some i =>
    have hi := h.nm i rfl
    have hb := (h.fb _ (gi_mem' hi)).1
    dsimp only at hi hb
    unfold m_dkUsed
    refine rngC_mk (fun l' hp => ?_)
    rw [show (mkD ⟨fs, some i, du, pe, wr, fl, dn⟩).names = [([114], (i : Int))] from rfl] at hp
    rw [List.perm_singleton.1 hp]
    show ((m_dkUsedR fs ([114], (i : Int)) 0).bind _).bind _ = _
    unfold m_dkUsedR
    rw [need_pos (by dsimp only; omega)]
    dsimp only
    rw [i64_id (by omega)]
    simp [foldB, usS]
theorem findR0 (s : List UInt8) : m_ref35_find [] s = some (-1) := by
  obtain ⟨n, hn⟩ := FU_k 1 (by omega)
  unfold m_ref35_find
  rw [jn_eq, hn]
  simp [m_ref35_find_L2, m_ref35_find_B2]
theorem findR1 (s : List UInt8) (i : Int) : m_ref35_find [(s, i)] s = some i := by
  obtain ⟨n, hn⟩ := FU_k 1 (by omega)
  unfold m_ref35_find
  rw [jn_eq, hn]
  simp [m_ref35_find_L2, m_ref35_find_B2, need_pos, gi]
theorem goodR : m_ref35_good [114] = some true := by
  unfold m_ref35_good
  rw [jn_eq]
  simp
theorem usR {B : Nat} {S : St} (h : OkS B S) : m_ref35_Disk_Used (mkR S) = some (usS S : Int) := by
  obtain ⟨fs, nm, du, pe, wr, fl, dn⟩ := S
  obtain ⟨n, hn⟩ := FU_k 2 (by omega)
  unfold m_ref35_Disk_Used
  rw [jn_eq, hn]
  cases nm with
  | none => simp [m_ref35_Disk_Used_L2, m_ref35_Disk_Used_B2, mkR, dirL, usS]
  | some i =>
    have hi := h.nm i rfl
    have hb := (h.fb _ (gi_mem' hi)).1
    dsimp only at hi hb
    have e1 : i64 ((0 : Int) + 1) = 1 := by rw [i64_id (by omega)]; rfl
    have hg : gi [(([114] : List UInt8), (i : Int))] 0 = ([114], (i : Int)) := rfl
    rw [m_ref35_Disk_Used_L2, m_ref35_Disk_Used_B2]
    simp only [mkR, dirL, List.length_singleton, hg]
    rw [if_pos (by omega), need_pos (by omega), need_pos (by omega), e1, Int.zero_add, i64_id (by omega), m_ref35_Disk_Used_L2, m_ref35_Disk_Used_B2]
    simp [usS]
end Go.Proofs.Ytkplmgdmkfgjhaa
/- Both disks of FrontierFiles do alike. -/
namespace Go.Proofs.Ytkplmgdmkfgjhaa
attribute [local irreducible] FU
theorem half_n {n : Nat} (h : n ≤ 1000000) : i64 (Int.tdiv (n : Int) 2) = ((n / 2 : Nat) : Int) := by
  have : Int.tdiv (n : Int) 2 = ((n / 2 : Nat) : Int) := by
    rw [Int.tdiv_eq_ediv_of_nonneg (by omega)]; omega
  rw [this, i64_id (by omega)]
theorem dkByS {B : Nat} {S : St} (h : OkS B S) (hB : B ≤ 1000000) (b : List UInt8) : dkBy (mkD S) b = if (wS S).dn = true then (b.take (b.length / 2), 25) else (b, 0) := by
  unfold dkBy
  rw [wD h hB]; rfl
theorem crD (fs : LFs) (b : List UInt8) : (fs ++ [(([] : List UInt8), (0 : Int))]).set fs.length ((gi (fs ++ [(([] : List UInt8), (0 : Int))]) (fs.length : Int)).1 ++ b, (gi (fs ++ [(([] : List UInt8), (0 : Int))]) (fs.length : Int)).2) = fs ++ [(b, 0)] := by
  have : gi (fs ++ [(([] : List UInt8), (0 : Int))]) (fs.length : Int) = ([], 0) := by simp [gi]
  rw [this, List.set_append_right _ _ (Nat.le_refl _)]
  simp
theorem apD {B : Nat} {S : St} (h : OkS B S) (hB : B ≤ 1000000) {b : List UInt8} (hb : b.length ≤ 1000000) : m_disk_Append (mkD S) [114] b = some ((apS S b).1, mkD (apS S b).2) := by
  have hu := usD h
  have hby := dkByS h hB b
  have hw := wD h hB
  unfold m_disk_Append apS
  rw [hu, hw, hby]
  by_cases hd : S.dn = true
  · rw [if_pos (show (mkD S).dn = true from hd), if_pos hd]
  rw [if_neg (show ¬ (mkD S).dn = true from hd), if_neg hd, if_neg (by simp), bnd1_mk]
  have hus : usS S ≤ 300 := by
    unfold usS
    split
    · omega
    · rename_i i hi; exact (h.fb _ (gi_mem' (h.nm i hi))).1
  have hcap : i64 ((mkD S).cap - (usS S : Int)) = 300 - (usS S : Int) := by show i64 ((300 : Int) - (usS S : Int)) = _; exact i64_id (by omega)
  rw [hcap]
  obtain ⟨fs, nm, du, pe, wr, fl, dn⟩ := S
  have h1 := h.wr
  have h2 := h.ln
  dsimp only at h1 h2
  cases nm with
  | none =>
    have hpe : pe = none := h.np rfl
    subst hpe
    rw [if_neg (by simp [mkD, dirL])]
    by_cases hf : 300 < usS ⟨fs, none, du, none, wr, fl, dn⟩ + b.length
    · rw [if_pos hf, if_pos (by omega)]
    rw [if_neg hf, if_neg (by omega), need_pos (by omega), if_pos (by simp [mkD, dirL, lookL]), need_pos (by simp [mkD, peD])]
    cases hwd : (wS ⟨fs, none, du, none, wr, fl, dn⟩).dn
    · rw [if_neg (by simp), if_neg (by simp)]
      simp only [crS, wS, ap1, mkD, Option.getD_some]
      rw [crD]
      simp [dirL, putL, peD]
    · rw [if_pos rfl, if_pos rfl]
      simp only [crS, wS, ap1, mkD, Option.getD_some]
      rw [crD]
      simp [dirL, putL, peD]
  | some i =>
    have hi := h.nm i rfl
    dsimp only at hi
    have hfb := (h.fb _ (gi_mem' hi)).1
    have hlk : (lookL (mkD ⟨fs, some i, du, pe, wr, fl, dn⟩).names [114]).getD (-1) = (i : Int) := by simp [mkD, dirL, lookL]
    rw [hlk, if_neg (by omega)]
    by_cases hf : 300 < usS ⟨fs, some i, du, pe, wr, fl, dn⟩ + b.length
    · rw [if_pos hf, if_pos (by omega)]
    rw [if_neg hf, if_neg (by omega), need_pos (by omega), if_neg (by omega), need_pos (by show 0 ≤ (i : Int) ∧ (i : Int) < (fs.length : Int); omega)]
    cases hwd : (wS ⟨fs, some i, du, pe, wr, fl, dn⟩).dn
    · rw [if_neg (by simp), if_neg (by simp), need_pos (by show (gi fs (i : Int)).1.length + b.length ≤ _; dsimp only at hfb; omega)]
      simp only [crS, wS, ap1, mkD, Option.getD_some, Int.toNat_natCast]
    · rw [if_pos rfl, if_pos rfl, need_pos (by show (gi fs (i : Int)).1.length + (b.take (b.length / 2)).length ≤ _; rw [List.length_take]; dsimp only at hfb; omega)]
      simp only [crS, wS, ap1, mkD, Option.getD_some, Int.toNat_natCast]
theorem apOk {B : Nat} {S : St} (h : OkS B S) (b : List UInt8) : OkS (B + 1) (apS S b).2 ∧ ((apS S b).1 = 25 ∨ (apS S b).1 = 10 ∨ (apS S b).1 = 0 ∧ (apS S b).2.dn = false ∧ (apS S b).2.nm ≠ none) := by
  have hB1 : OkS (B + 1) S := ⟨h.nm, h.du, h.pe, h.np, h.fb, h.fl, Nat.le_succ_of_le h.wr, Nat.le_succ_of_le h.ln⟩
  have key : ∀ c : List UInt8, usS S + c.length ≤ 300 → OkS (B + 1) (ap1 (crS (wS S)) ((crS (wS S)).nm.getD 0) c) ∧ (ap1 (crS (wS S)) ((crS (wS S)).nm.getD 0) c).dn = (wS S).dn ∧ (ap1 (crS (wS S)) ((crS (wS S)).nm.getD 0) c).nm ≠ none := fun c hc => by
    obtain ⟨fs, nm, du, pe, wr, fl, dn⟩ := S
    cases nm with
    | none =>
      have hpe : pe = none := h.np rfl
      subst hpe
      have e : ap1 (crS (wS ⟨fs, none, du, none, wr, fl, dn⟩)) ((crS (wS ⟨fs, none, du, none, wr, fl, dn⟩)).nm.getD 0) c = { wS ⟨fs, none, du, none, wr, fl, dn⟩ with fs := fs ++ [(c, 0)], nm := some fs.length, pe := some fs.length } := by
        simp only [crS, wS, ap1, Option.getD_some]
        rw [crD]
      rw [e]
      have hl : (fs ++ [(c, (0 : Int))]).length = fs.length + 1 := by simp
      refine ⟨⟨fun i hi => ?_, fun i hi => ?_, fun i hi => ?_, fun hn => ?_, fun x hx => ?_, ?_, ?_, ?_⟩, rfl, by simp⟩
      · dsimp only at hi ⊢; rw [hl]; cases hi; omega
      · have := h.du i hi; dsimp only at this ⊢; rw [hl]; omega
      · dsimp only at hi ⊢; rw [hl]; cases hi; omega
      · cases hn
      · rcases List.mem_append.1 hx with hx | hx
        · exact h.fb x hx
        · rw [List.mem_singleton.1 hx]
          simp only [usS] at hc
          exact ⟨by dsimp only; omega, by dsimp only; omega, by dsimp only; omega⟩
      · have := h.fl; show fl - 1 ≤ 3; dsimp only at this; omega
      · exact Nat.succ_le_succ h.wr
      · dsimp only; rw [hl]; exact Nat.succ_le_succ h.ln
    | some i =>
      have hi := h.nm i rfl
      dsimp only at hi
      have hfb := h.fb _ (gi_mem' hi)
      dsimp only at hfb
      simp only [usS] at hc
      have e : ap1 (crS (wS ⟨fs, some i, du, pe, wr, fl, dn⟩)) ((crS (wS ⟨fs, some i, du, pe, wr, fl, dn⟩)).nm.getD 0) c = { wS ⟨fs, some i, du, pe, wr, fl, dn⟩ with fs := fs.set i ((gi fs (i : Int)).1 ++ c, (gi fs (i : Int)).2) } := rfl
      rw [e]
      have hl : (fs.set i ((gi fs (i : Int)).1 ++ c, (gi fs (i : Int)).2)).length = fs.length := List.length_set
      refine ⟨⟨fun j hj => ?_, fun j hj => ?_, fun j hj => ?_, h.np, fun x hx => ?_, ?_, Nat.succ_le_succ h.wr, ?_⟩, rfl, by simp [wS]⟩
      · dsimp only; rw [hl]; exact h.nm j hj
      · dsimp only; rw [hl]; exact h.du j hj
      · dsimp only; rw [hl]; exact h.pe j hj
      · rcases List.mem_or_eq_of_mem_set hx with hx | rfl
        · exact h.fb x hx
        · refine ⟨by dsimp only; rw [List.length_append]; omega, hfb.2.1, ?_⟩
          dsimp only
          rw [List.length_append]
          have := hfb.2.2
          omega
      · have := h.fl; show fl - 1 ≤ 3; dsimp only at this; omega
      · dsimp only; rw [hl]; exact Nat.le_succ_of_le h.ln
  unfold apS
  by_cases hd : S.dn = true
  · rw [if_pos hd]; exact ⟨hB1, .inl rfl⟩
  rw [if_neg hd]
  by_cases hf : 300 < usS S + b.length
  · rw [if_pos hf]; exact ⟨hB1, .inr (.inl rfl)⟩
  rw [if_neg hf]
  cases hwd : (wS S).dn
  · rw [if_neg (by simp)]
    obtain ⟨k1, k2, k3⟩ := key b (by omega)
    exact ⟨k1, .inr (.inr ⟨rfl, k2.trans hwd, k3⟩)⟩
  · rw [if_pos rfl]
    exact ⟨(key _ (by rw [List.length_take]; omega)).1, .inl rfl⟩
theorem withR (i : Int) : m_ref35_with [] [114] i = some [([114], i)] := by
  obtain ⟨n, hn⟩ := FU_k 1 (by omega)
  have hw : m_ref35_without [] [114] = some [] := by
    unfold m_ref35_without
    rw [jn_eq, hn, m_ref35_without_L2, m_ref35_without_B2]
    simp
  unfold m_ref35_with
  rw [hw, bnd1_mk, jn_eq, hn, m_ref35_with_L2, m_ref35_with_B2, jn_eq]
  simp [need_pos]
theorem apR {B : Nat} {S : St} (h : OkS B S) (hB : B ≤ 1000000) {b : List UInt8} (hb : b.length ≤ 1000000) : m_ref35_Disk_Append (mkR S) [114] b = some ((apS S b).1, mkR (apS S b).2) := by
  have hu := usR h
  have hw := wR h hB
  have hus : usS S ≤ 300 := by
    unfold usS
    split
    · omega
    · rename_i i hi; exact (h.fb _ (gi_mem' (h.nm i hi))).1
  have hsum : i64 ((usS S : Int) + (b.length : Int)) = (usS S : Int) + b.length := i64_id (by omega)
  have heta : ((mkR S).1, (mkR S).2.1, (mkR S).2.2.1, (mkR S).2.2.2.1, (mkR S).2.2.2.2.1, (mkR S).2.2.2.2.2.1, (mkR S).2.2.2.2.2.2.1, (mkR S).2.2.2.2.2.2.2) = mkR S := rfl
  have hh : i64 (Int.tdiv (b.length : Int) 2) = ((b.length / 2 : Nat) : Int) := half_n hb
  unfold m_ref35_Disk_Append apS
  rw [heta, hu, hw, goodR]
  simp only [bnd1_mk, jn_eq, hsum, hh, List.nil_append, Bool.not_true, Bool.false_eq_true, if_false]
  by_cases hd : S.dn = true
  · rw [if_pos hd]
    obtain ⟨fs, nm, du, pe, wr, fl, dn⟩ := S
    cases nm with
    | none => rw [show (mkR ⟨fs, none, du, pe, wr, fl, dn⟩).2.2.1 = [] from rfl, findR0, bnd1_mk, if_pos (show (mkR ⟨fs, none, du, pe, wr, fl, dn⟩).2.2.2.2.2.2.1 = true from hd)]
    | some i => rw [show (mkR ⟨fs, some i, du, pe, wr, fl, dn⟩).2.2.1 = [([114], (i : Int))] from rfl, findR1, bnd1_mk, if_pos (show (mkR ⟨fs, some i, du, pe, wr, fl, dn⟩).2.2.2.2.2.2.1 = true from hd)]
  obtain ⟨fs, nm, du, pe, wr, fl, dn⟩ := S
  have h1 := h.wr
  have h2 := h.ln
  dsimp only at h1 h2
  have hdn : ¬ (mkR ⟨fs, nm, du, pe, wr, fl, dn⟩).2.2.2.2.2.2.1 = true := hd
  rw [if_neg hd]
  cases nm with
  | none =>
    have hpe : pe = none := h.np rfl
    subst hpe
    rw [show (mkR ⟨fs, none, du, none, wr, fl, dn⟩).2.2.1 = [] from rfl, findR0, bnd1_mk, if_neg hdn, if_pos (by omega), if_neg (by simp)]
    by_cases hf : 300 < usS ⟨fs, none, du, none, wr, fl, dn⟩ + b.length
    · rw [if_pos hf, if_pos (decide_eq_true (by show (300 : Int) < _; omega))]
    rw [if_neg hf, if_neg (by rw [decide_eq_true_eq]; show ¬ (300 : Int) < _; omega), if_pos (by omega)]
    simp only [mkR, wS, peR, dirL, crS, ap1, Option.getD_some]
    rw [need_pos (by simp; omega), need_pos (by simp; omega)]
    unfold m_ref35_Disk_perform m_ref35_done
    simp only [if_true, withR, bnd1_mk, List.nil_append, List.length_nil, List.length_singleton]
    rw [need_pos (by omega), need_pos (by omega), bnd1_mk]
    dsimp only
    have hl : (fs ++ [(([] : List UInt8), (0 : Int))]).length = fs.length + 1 := by simp
    have hg : gi (fs ++ [(([] : List UInt8), (0 : Int))]) (fs.length : Int) = ([], 0) := by simp [gi]
    by_cases hwd : (if 0 < fl then decide (fl = 1) else dn) = true
    · simp only [hwd, if_true]
      rw [need_pos (by omega), need_pos (by rw [hl]; omega), need_pos (by rw [hl]; omega), need_pos (by rw [hg]; simp), need_pos (by rw [hg]; simp; omega), need_pos (by rw [hl]; omega)]
      simp only [Int.toNat_natCast]
    · simp only [Bool.not_eq_true] at hwd
      simp only [hwd, Bool.false_eq_true, if_false]
      rw [need_pos (by rw [hl]; omega), need_pos (by rw [hl]; omega), need_pos (by rw [hg]; simp), need_pos (by rw [hg]; simp; omega), need_pos (by rw [hl]; omega)]
      simp only [Int.toNat_natCast]
  | some i =>
    have hi := h.nm i rfl
    dsimp only at hi
    have hfb := (h.fb _ (gi_mem' hi)).1
    dsimp only at hfb
    rw [show (mkR ⟨fs, some i, du, pe, wr, fl, dn⟩).2.2.1 = [([114], (i : Int))] from rfl, findR1, bnd1_mk, if_neg hdn, if_neg (by omega)]
    by_cases hf : 300 < usS ⟨fs, some i, du, pe, wr, fl, dn⟩ + b.length
    · rw [if_pos hf, if_pos (decide_eq_true (by show (300 : Int) < _; omega))]
    rw [if_neg hf, if_neg (by rw [decide_eq_true_eq]; show ¬ (300 : Int) < _; omega), if_neg (by omega)]
    simp only [mkR, wS, dirL, crS, ap1, Option.getD_some]
    by_cases hwd : (if 0 < fl then decide (fl = 1) else dn) = true
    · simp only [hwd, if_true]
      rw [need_pos (by omega), need_pos (by simp; omega), need_pos (by omega), need_pos (by simp; omega), need_pos (by rw [List.length_take]; omega), need_pos (by omega)]
      simp only [Int.toNat_natCast]
    · simp only [Bool.not_eq_true] at hwd
      simp only [hwd, Bool.false_eq_true, if_false]
      rw [need_pos (by simp; omega), need_pos (by omega), need_pos (by simp; omega), need_pos (by omega), need_pos (by omega)]
      simp only [Int.toNat_natCast]
/-- Sync. -/
def syS (S : St) : Int × St := match S.nm with
  | none => (if S.dn = true then 25 else 21, S)
  | some i => if S.dn = true then (25, S) else if (wS S).dn = true then (25, wS S) else
    (0, { wS S with fs := S.fs.set i ((gi S.fs (i : Int)).1, ((gi S.fs (i : Int)).1.length : Int)), du := some i, pe := none })
theorem chkD (S : St) : dkChk (mkD S) [114] = if S.dn = true then 25 else if S.nm = none then 21 else 0 := by
  unfold dkChk
  by_cases hd : S.dn = true
  · rw [if_pos (show (mkD S).dn = true from hd), if_pos hd]
  · rw [if_neg (show ¬ (mkD S).dn = true from hd), if_neg hd, if_neg (by simp)]
    cases hn : S.nm with
    | none => rw [if_pos (by simp [mkD, hn, dirL, lookL]), if_pos rfl]
    | some i => rw [if_neg (by simp [mkD, hn, dirL, lookL]), if_neg (by simp)]
theorem syD {B : Nat} {S : St} (h : OkS B S) (hB : B ≤ 1000000) : m_disk_Sync (mkD S) [114] = some ((syS S).1, mkD (syS S).2) := by
  have hw := wD h hB
  unfold m_disk_Sync syS
  rw [chkD, hw]
  by_cases hd : S.dn = true
  · rw [if_pos hd, if_pos (by omega)]
    split <;> simp [hd]
  · rw [if_neg hd]
    cases hn : S.nm with
    | none => rw [if_pos rfl, if_pos (by omega)]; simp [hd]
    | some i =>
      have hi := h.nm i hn
      have hlk : (lookL (mkD S).names [114]).getD (-1) = (i : Int) := by simp [mkD, hn, dirL, lookL]
      rw [if_neg (by simp), hlk]
      dsimp only
      rw [if_neg hd]
      by_cases hwd : (wS S).dn = true
      · rw [if_pos hwd, if_pos (show (mkD (wS S)).dn = true from hwd)]
      · rw [if_neg hwd, if_neg (show ¬ (mkD (wS S)).dn = true from hwd), need_pos (by show 0 ≤ (i : Int) ∧ (i : Int) < (S.fs.length : Int); omega)]
        have e : (mkD S).names = dirL (some i) := by rw [← hn]; rfl
        rw [e]
        rfl
theorem misR (S : St) : m_ref35_Disk_missing (mkR S) [114] = some (if S.dn = true then 25 else if S.nm = none then 21 else 0) := by
  unfold m_ref35_Disk_missing
  rw [goodR]
  by_cases hd : S.dn = true
  · rw [if_pos (show (mkR S).2.2.2.2.2.2.1 = true from hd), if_pos hd]
  · rw [if_neg (show ¬ (mkR S).2.2.2.2.2.2.1 = true from hd), if_neg hd]
    cases hn : S.nm with
    | none => rw [show (mkR S).2.2.1 = [] from (show dirL S.nm = [] by rw [hn]; rfl), findR0]; simp [bnd1_mk]
    | some i => rw [show (mkR S).2.2.1 = [([114], (i : Int))] from (show dirL S.nm = _ by rw [hn]; rfl), findR1]; simp [bnd1_mk]
theorem syR {B : Nat} {S : St} (h : OkS B S) (hB : B ≤ 1000000) : m_ref35_Disk_Sync (mkR S) [114] = some ((syS S).1, mkR (syS S).2) := by
  have hw := wR h hB
  have heta : ∀ S : St, ((mkR S).1, (mkR S).2.1, (mkR S).2.2.1, (mkR S).2.2.2.1, (mkR S).2.2.2.2.1, (mkR S).2.2.2.2.2.1, (mkR S).2.2.2.2.2.2.1, (mkR S).2.2.2.2.2.2.2) = mkR S := fun _ => rfl
  have h2 := h.ln
  unfold m_ref35_Disk_Sync syS
  rw [heta, misR, hw, bnd1_mk, bnd1_mk]
  dsimp only
  rw [heta]
  by_cases hd : S.dn = true
  · rw [if_pos hd, if_pos (by omega)]
    split <;> simp [hd]
  · rw [if_neg hd]
    cases hn : S.nm with
    | none => rw [if_pos rfl, if_pos (by omega)]; simp [hd]
    | some i =>
      have hi := h.nm i hn
      rw [if_neg (by simp)]
      dsimp only
      rw [if_neg hd]
      by_cases hwd : (wS S).dn = true
      · rw [if_pos hwd, if_pos hwd]
      · have e : (mkR (wS S)).2.2.1 = [([114], (i : Int))] := show dirL S.nm = _ by rw [hn]; rfl
        have e1 : (mkR (wS S)).2.1 = S.fs := rfl
        rw [if_neg hwd, if_neg hwd, e, findR1, bnd1_mk, e1]
        simp only [List.nil_append, List.length_nil]
        rw [need_pos (by omega), need_pos (by omega), need_pos (by omega)]
        simp only [mkR, wS, hn, dirL, peR, Int.toNat_natCast]
theorem syOk {B : Nat} {S : St} (h : OkS B S) : OkS (B + 1) (syS S).2 := by
  have hB1 : OkS (B + 1) S := ⟨h.nm, h.du, h.pe, h.np, h.fb, h.fl, Nat.le_succ_of_le h.wr, Nat.le_succ_of_le h.ln⟩
  unfold syS
  split
  · exact hB1
  · rename_i i hi
    split
    · exact hB1
    · split
      · exact okW h
      · have hil := h.nm i hi
        have hl : (S.fs.set i ((gi S.fs (i : Int)).1, ((gi S.fs (i : Int)).1.length : Int))).length = S.fs.length := List.length_set
        have hfb := h.fb _ (gi_mem' hil)
        refine ⟨fun j hj => ?_, fun j hj => ?_, fun j hj => (by cases hj), fun _ => rfl, fun x hx => ?_, (okW h).fl, (okW h).wr, ?_⟩
        · dsimp only; rw [hl]; exact h.nm j hj
        · dsimp only at hj ⊢; rw [hl]; cases hj; exact hil
        · rcases List.mem_or_eq_of_mem_set hx with hx | rfl
          · exact h.fb x hx
          · exact ⟨hfb.1, by dsimp only; omega, Int.le_refl _⟩
        · dsimp only; rw [hl]; exact Nat.le_succ_of_le h.ln
end Go.Proofs.Ytkplmgdmkfgjhaa
/- FrontierFiles: what both write and read. -/
namespace Go.Proofs.Ytkplmgdmkfgjhaa
attribute [local irreducible] FU
def DOk (xs : List UInt8) (i : Int) (r : List (Int × Int) × Int × Int) : Prop := r.1.length ≤ 1024 ∧ (r.2.2 = 0 → 1 ≤ r.1.length ∧ i < r.2.1 ∧ r.2.1 ≤ xs.length)
theorem end_agree2 (xs : List UInt8) (a1 : Int) (h0 : 0 ≤ a1) (hl : xs.length ≤ 10000000) (xa : Int) (h1 : a1 ≤ xa) (h2 : xa ≤ xs.length) (l : List (Int × Int)) (hll : l.length ≤ 1024) :
    ∃ r : List (Int × Int) × Int × Int, endF xs a1 xa 0 l = some r ∧ endR xs a1 xa 0 l = some r ∧ DOk xs a1 r := by
  unfold endF endR
  have e1 : i64 (xa + 4) = xa + 4 := i64_id (by omega)
  have e2 : i64 ((List.length xs : Int) - xa) = (List.length xs : Int) - xa := i64_id (by omega)
  simp only [jn_eq, e1, e2, ne_eq, not_true_eq_false, if_false]
  by_cases hs : (List.length xs : Int) < xa + 4
  · rw [if_pos hs, if_pos (by omega)]
    exact ⟨_, rfl, rfl, by simp [DOk]⟩
  · have n1 : (0 : Int) ≤ a1 ∧ a1 ≤ xa + 4 ∧ xa + 4 ≤ (List.length xs : Int) := by omega
    have n2 : (0 : Int) ≤ a1 ∧ a1 ≤ xa ∧ xa ≤ (List.length xs : Int) := by omega
    rw [if_neg hs, if_neg (by omega)]
    simp only [need_pos n1, need_pos n2]
    obtain ⟨A, rfl⟩ : ∃ A : Nat, a1 = A := ⟨a1.toNat, by omega⟩
    obtain ⟨B, rfl⟩ : ∃ B : Nat, xa = B := ⟨xa.toNat, by omega⟩
    have hs1 : (List.take (Int.toNat ((B : Int) + 4) - Int.toNat (A : Int)) (List.drop (Int.toNat (A : Int)) xs)).length = (List.take (Int.toNat (B : Int) - Int.toNat (A : Int)) (List.drop (Int.toNat (A : Int)) xs)).length + 4 := by
      simp only [List.length_take, List.length_drop]; omega
    obtain ⟨b, q, b1, b2, b3⟩ := sealed_agree (List.take (Int.toNat (B : Int) - Int.toNat (A : Int)) (List.drop (Int.toNat (A : Int)) xs)) (List.take (Int.toNat ((B : Int) + 4) - Int.toNat (A : Int)) (List.drop (Int.toNat (A : Int)) xs)) hs1
      (by rw [List.take_take]; congr 1; simp only [List.length_take, List.length_drop]; omega) (by simp only [List.length_take, List.length_drop]; omega)
    generalize List.take (Int.toNat ((B : Int) + 4) - Int.toNat (A : Int)) (List.drop (Int.toNat (A : Int)) xs) = s at *
    rw [b1, b2, bnd1_mk, bnd1_mk]
    cases b
    · have hq : ¬ q = s := fun h => by simpa using b3.2 h
      simp only [hq, not_false_eq_true, if_true, Bool.not_false]
      exact ⟨_, rfl, rfl, by simp [DOk]⟩
    · have hq : q = s := b3.1 rfl
      simp only [hq, not_true_eq_false, if_false, Bool.not_true, Bool.false_eq_true]
      obtain ⟨c, c1, c2, c3, c4⟩ := block_agree l (by omega)
      rw [c1, bnd1_mk]
      cases c
      · rw [c4 rfl, bnd1_mk]
        exact ⟨_, rfl, rfl, by simp [DOk]⟩
      · obtain ⟨r, d1, d2, d2', d3⟩ := c3 rfl
        rw [d1, d3, bnd1_mk, bnd1_mk, m_bytes_Equal, bnd1_mk]
        by_cases hr : r = s
        · exact ⟨(l, (B : Int) + 4, 0), by simp [hr], by simp [hr], hll, fun _ => ⟨(c2.1 rfl).2.1, by dsimp only; omega, by dsimp only; omega⟩⟩
        · exact ⟨([], 0, 22), by simp [hr], by simp [hr], by simp [DOk]⟩

theorem decode_agree2 (xs : List UInt8) (hl : xs.length ≤ 10000000) (i : Int) :
    ∃ r : List (Int × Int) × Int × Int, m_frontier_DecodeBlock xs i = some r ∧ m_ref35_DecodeBlock xs i = some r ∧ DOk xs i r := by
  obtain ⟨N, hN⟩ := FU_k 1 (by omega)
  have hFU := FU_ge
  by_cases h0 : i < 0
  · exact ⟨([], 0, 1), by simp [m_frontier_DecodeBlock, jn_eq, h0], by simp [m_ref35_DecodeBlock, jn_eq, h0], by simp [DOk]⟩
  by_cases h1 : (xs.length : Int) < i
  · exact ⟨([], 0, 1), by simp [m_frontier_DecodeBlock, jn_eq, h0, h1], by simp [m_ref35_DecodeBlock, jn_eq, h0, h1], by simp [DOk]⟩
  obtain ⟨v, j, j', e, f1, r1, a1, a2⟩ := num_agree xs i (by omega) (by omega) (by omega)
  have bad : ∀ x : Int, x ≠ 0 → ∃ r : List (Int × Int) × Int × Int, m_frontier_DecodeBlock_L14 xs (v, j, e) (endF xs i) FU j x [] 0 = some r ∧ m_ref35_DecodeBlock_L2 xs (v, j', e) (endR xs i) FU j' x [] 0 = some r ∧ DOk xs i r := by
    intro x hx
    rw [hN, dec_exit_f _ _ _ _ _ _ _ _ (Or.inl hx), dec_exit_r _ _ _ _ _ _ _ _ (Or.inl hx)]
    exact ⟨([], 0, x), by simp [endF, hx], by simp [endR, hx], by simp [DOk, hx]⟩
  have main : ∀ z : Bool, z = (if e = 0 then (if v < 1 then true else decide (1024 < v)) else false) →
      ∃ r : List (Int × Int) × Int × Int, m_frontier_DecodeBlock_L14 xs (v, j, e) (endF xs i) FU j (if z = true then 22 else e) [] 0 = some r ∧ m_ref35_DecodeBlock_L2 xs (v, j', e) (endR xs i) FU j' (if z = true then 22 else e) [] 0 = some r ∧ DOk xs i r := by
    intro z hz
    by_cases hz1 : z = true
    · simp only [if_pos hz1]; exact bad 22 (by omega)
    · simp only [if_neg hz1]
      by_cases he : e = 0
      · subst he
        obtain ⟨rfl, b1, b2, b3, b4⟩ := a1 rfl
        rw [if_pos rfl] at hz
        have hv : 1 ≤ v ∧ v ≤ 1024 := by
          by_cases hv1 : v < 1
          · rw [if_pos hv1] at hz; exact absurd hz hz1
          · rw [if_neg hv1] at hz
            have : ¬ (1024 < v) := fun h => hz1 (by rw [hz]; simp [h])
            omega
        obtain ⟨xa, xb, e, la, lb, q1, q2, q3⟩ := dec_loop xs (by omega) (v, j, 0) (v, j, 0) v.toNat (by omega) (by simp only []; omega) (by simp only []; omega) (endF xs i) (endR xs i) v.toNat 0 FU FU j [] (by omega) (by omega) (by omega) (by omega) b2 rfl (fun p hp => by cases hp)
        rw [Int.natCast_zero] at q1 q2
        rw [q1, q2]
        by_cases he : e = 0
        · subst he
          obtain ⟨rfl, rfl, z1, z2, z3⟩ := q3 rfl
          exact end_agree2 xs i (by omega) hl xa (by omega) z2 la (by omega)
        · exact ⟨([], 0, e), by simp [endF, he], by simp [endR, he], by simp [DOk, he]⟩
      · exact bad e he
  obtain ⟨r, q1, q2, q3⟩ := main _ rfl
  refine ⟨r, ?_, ?_, q3⟩
  · rw [← q1]
    unfold m_frontier_DecodeBlock
    simp only [jn_eq, h0, h1, decide_false, Bool.false_eq_true, if_false, f1, bnd1_mk]
    by_cases he : e = 0
    · subst he
      by_cases hv1 : v < 1
      · simp only [hv1, if_true]; rfl
      · by_cases hv2 : 1024 < v
        · simp only [hv1, hv2, if_true, if_false, decide_true]; rfl
        · simp only [hv1, hv2, if_true, if_false, decide_false, Bool.false_eq_true]; rfl
    · simp only [he, if_false, Bool.false_eq_true]; rfl
  · rw [← q2]
    unfold m_ref35_DecodeBlock
    simp only [jn_eq, h0, h1, decide_false, Bool.false_eq_true, if_false, r1, bnd1_mk]
    by_cases he : e = 0
    · subst he
      by_cases hv1 : v < 1
      · simp only [hv1, if_true]; rfl
      · by_cases hv2 : 1024 < v
        · simp only [hv1, hv2, if_true, if_false, decide_true]; rfl
        · simp only [hv1, hv2, if_true, if_false, decide_false, Bool.false_eq_true]; rfl
    · simp only [he, if_false, Bool.false_eq_true]; rfl
theorem rd2 {xs : List UInt8} (hx : xs.length ≤ 1000) (e0 : Int) (D : Dk) (R : RDk) : ∀ (k fu fv : Nat) (at_ : Int) (l : List (Int × Int)) (c : Nat), (xs.length : Int) - at_ ≤ (k : Int) → 0 ≤ at_ → k < fu → k < fv → c + k ≤ 1000 → l.length ≤ 1024 * c →
    ∃ r : List (Int × Int) × Int × Int, m_frontier_read_L2 (xs, e0, D) (fun (x8_j3 : Int) (x9_j3 : List (Int × Int)) (x10_j3 : Int) => if ¬ x8_j3 = 0 then (some ([], 0, x8_j3, D)) else (some (x9_j3, x10_j3, 0, D))) fu 0 l (c : Int) at_ = some (r.1, r.2.1, r.2.2, D) ∧
      m_ref35_Read_L2 (xs, e0, R) (fun (x9_j2 : List (Int × Int)) (x10_j2 : Int) => some (x9_j2, x10_j2, 0, R)) fv l (c : Int) at_ = some (r.1, r.2.1, r.2.2, R) ∧ r.1.length ≤ 10000000
  | k, 0, _, _, _, _, _, _, h, _, _, _ => by omega
  | k, _ + 1, 0, _, _, _, _, _, _, h, _, _ => by omega
  | k, fu + 1, fv + 1, at_, l, c, hk, h0, hf, hv, hc, hl => by
    rw [m_frontier_read_L2, m_ref35_Read_L2]
    unfold m_frontier_read_B2 m_ref35_Read_B2
    simp only [jn_eq, if_true]
    by_cases hal : at_ < (xs.length : Int)
    · obtain ⟨k, rfl⟩ : ∃ q, k = q + 1 := ⟨k - 1, by omega⟩
      rw [decide_eq_true hal, if_pos rfl, if_pos hal]
      obtain ⟨⟨ps, j, e⟩, d1, d2, d3, d4⟩ := decode_agree2 xs (by omega) at_
      dsimp only at d3 d4
      rw [d1, d2, bnd1_mk, bnd1_mk]
      dsimp only
      have hct : i64 ((c : Int) + 1) = ((c + 1 : Nat) : Int) := by rw [i64_id (by omega)]; omega
      by_cases he : e = 0
      · subst he
        obtain ⟨g1, g2, g3⟩ := d4 rfl
        simp only [if_true, not_true_eq_false, if_false]
        have n3 : l.length + ps.length ≤ 137438953472 := by omega
        have go := rd2 hx e0 D R k fu fv j (l ++ ps) (c + 1) (by omega) (by omega) (by omega) (by omega) (by omega) (by rw [List.length_append]; omega)
        by_cases hl0 : 0 < (l.length : Int)
        · have e6 : i64 ((l.length : Int) - 1) = (l.length : Int) - 1 := i64_id (by omega)
          have n1 : (0 : Int) ≤ 0 ∧ 0 < (ps.length : Int) := by omega
          have n2 : (0 : Int) ≤ (l.length : Int) - 1 ∧ (l.length : Int) - 1 < (l.length : Int) := by omega
          rw [if_pos hl0, if_pos hl0]
          simp only [need_pos n1, e6, need_pos n2, fCompare, rLess, bnd1_mk]
          by_cases hlt : LtP (gi l ((l.length : Int) - 1)) (gi ps 0)
          · rw [if_pos hlt, decide_eq_false (by omega), decide_eq_true hlt]
            simp only [Bool.false_eq_true, if_false, Bool.not_true]
            simp only [need_pos n3, hct]
            exact go
          · have hge : (0 : Int) ≤ (if LtP (gi l ((l.length : Int) - 1)) (gi ps 0) then -1 else if (gi l ((l.length : Int) - 1)) = (gi ps 0) then 0 else 1) := by
              rw [if_neg hlt]; split <;> omega
            rw [decide_eq_true hge, decide_eq_false hlt]
            simp only [if_true, Bool.not_false]
            rw [need_pos (by omega)]
            obtain ⟨fu, rfl⟩ : ∃ q, fu = q + 1 := ⟨fu - 1, by omega⟩
            rw [m_frontier_read_L2]
            unfold m_frontier_read_B2
            simp only [jn_eq]
            exact ⟨([], 0, 22), by simp, rfl, by simp⟩
        · rw [if_neg hl0, if_neg hl0]
          simp only [Bool.false_eq_true, if_false]
          simp only [need_pos n3, hct]
          exact go
      · simp only [he, if_false, not_false_eq_true, if_true, Bool.false_eq_true]
        rw [need_pos (by omega)]
        obtain ⟨fu, rfl⟩ : ∃ q, fu = q + 1 := ⟨fu - 1, by omega⟩
        rw [m_frontier_read_L2]
        unfold m_frontier_read_B2
        simp only [jn_eq]
        exact ⟨([], 0, e), by simp [he], rfl, by simp⟩
    · rw [decide_eq_false hal, if_neg (by simp), if_neg hal]
      exact ⟨(l, (c : Int), 0), by simp, rfl, by show l.length ≤ _; omega⟩
end Go.Proofs.Ytkplmgdmkfgjhaa
/- FrontierFiles: Write, Read, Blocks, Fail, Crash on both disks. -/
namespace Go.Proofs.Ytkplmgdmkfgjhaa
attribute [local irreducible] FU
def rdB (S : St) : List UInt8 := if S.dn = true then [] else match S.nm with
  | none => []
  | some i => (gi S.fs (i : Int)).1
def rdE (S : St) : Int := if S.dn = true then 25 else if S.nm = none then 21 else 0
theorem rdD {B : Nat} {S : St} (h : OkS B S) : m_disk_Read (mkD S) [114] = some (rdB S, rdE S, mkD S) := by
  unfold m_disk_Read rdB rdE
  rw [chkD]
  by_cases hd : S.dn = true
  · rw [if_pos hd, if_pos (by omega), if_pos hd]
  · rw [if_neg hd, if_neg hd]
    cases hn : S.nm with
    | none => rw [if_pos rfl, if_pos (by omega)]
    | some i =>
      have hi := h.nm i hn
      have hb := (h.fb _ (gi_mem' hi)).1
      have hlk : (lookL (mkD S).names [114]).getD (-1) = (i : Int) := by simp [mkD, hn, dirL, lookL]
      rw [if_neg (by simp), if_neg (by simp), hlk, need_pos (by show 0 ≤ (i : Int) ∧ (i : Int) < (S.fs.length : Int); omega), need_pos (by show (gi S.fs (i : Int)).1.length ≤ _; omega)]
      rfl
theorem rdR {B : Nat} {S : St} (h : OkS B S) : m_ref35_Disk_Read (mkR S) [114] = some (rdB S, rdE S, mkR S) := by
  have heta : ∀ S : St, ((mkR S).1, (mkR S).2.1, (mkR S).2.2.1, (mkR S).2.2.2.1, (mkR S).2.2.2.2.1, (mkR S).2.2.2.2.2.1, (mkR S).2.2.2.2.2.2.1, (mkR S).2.2.2.2.2.2.2) = mkR S := fun _ => rfl
  unfold m_ref35_Disk_Read rdB rdE
  rw [heta, misR, bnd1_mk]
  by_cases hd : S.dn = true
  · rw [if_pos hd, if_pos (by omega), if_pos hd]
  · rw [if_neg hd, if_neg hd]
    cases hn : S.nm with
    | none => rw [if_pos rfl, if_pos (by omega)]
    | some i =>
      have hi := h.nm i hn
      have hb := (h.fb _ (gi_mem' hi)).1
      have e : (mkR S).2.2.1 = [([114], (i : Int))] := show dirL S.nm = _ by rw [hn]; rfl
      have e1 : (mkR S).2.1 = S.fs := rfl
      rw [if_neg (by simp), if_neg (by simp), e, findR1, bnd1_mk, e1]
      simp only [List.nil_append, List.length_nil]
      rw [need_pos (by omega), need_pos (by omega)]
theorem rdB_len {B : Nat} {S : St} (h : OkS B S) : (rdB S).length ≤ 300 := by
  unfold rdB
  split
  · simp
  · split
    · simp
    · rename_i i hi; exact (h.fb _ (gi_mem' (h.nm i hi))).1
theorem read2 {B : Nat} {S : St} (h : OkS B S) : ∃ r : List (Int × Int) × Int × Int, m_frontier_read (mkD S) [114] = some (r.1, r.2.1, r.2.2, mkD S) ∧ m_ref35_Read (mkR S) [114] = some (r.1, r.2.1, r.2.2, mkR S) ∧ r.1.length ≤ 10000000 := by
  have heta : ∀ S : St, ((mkR S).1, (mkR S).2.1, (mkR S).2.2.1, (mkR S).2.2.2.1, (mkR S).2.2.2.2.1, (mkR S).2.2.2.2.2.1, (mkR S).2.2.2.2.2.2.1, (mkR S).2.2.2.2.2.2.2) = mkR S := fun _ => rfl
  have hb := rdB_len h
  have hFU := FU_ge
  unfold m_frontier_read m_ref35_Read
  rw [heta, rdD h, rdR h, bnd1_mk, bnd1_mk, jn_eq, jn_eq]
  dsimp only
  rw [heta]
  by_cases he : rdE S = 0
  · rw [he, if_neg (by simp)]
    exact rd2 (by omega) 0 (mkD S) (mkR S) 300 FU FU 0 [] 0 (by omega) (by omega) (by omega) (by omega) (by omega) (by simp)
  · obtain ⟨n, hn⟩ := FU_k 1 (by omega)
    rw [if_pos he, hn, m_frontier_read_L2]
    unfold m_frontier_read_B2
    simp only [jn_eq, he, if_false, Bool.false_eq_true]
    exact ⟨([], 0, rdE S), by simp [he], rfl, by simp⟩
theorem wr2 {l : List (Int × Int)} (hr : Run l) (hl : l.length ≤ 1000) {n : Nat} (hn : 1 ≤ n ∧ n ≤ 1024) : ∀ (k fu fv a B : Nat) (S : St), (l.drop a).length ≤ k → k < fu → k < fv → a ≤ 3000 → OkS B S → B + k ≤ 900000 →
    ∃ e S', m_frontier_Write_L2 [114] l (n : Int) (fun x0d_j13 => bnd1 (m_disk_Sync x0d_j13 [114]) (fun y39 => some (y39.1, y39.2))) fu (mkD S) (a : Int) = some (e, mkD S') ∧
      m_ref35_Write_L2 [114] l (n : Int) (fun x0_0_j11 x0_1_j11 x0_2_j11 x0_3_j11 x0_4_j11 x0_5_j11 x0_6_j11 x0_7_j11 => bnd1 (m_ref35_Disk_Sync (x0_0_j11, x0_1_j11, x0_2_j11, x0_3_j11, x0_4_j11, x0_5_j11, x0_6_j11, x0_7_j11) [114]) (fun y31 => some (y31.1, (y31.2.1, y31.2.2.1, y31.2.2.2.1, y31.2.2.2.2.1, y31.2.2.2.2.2.1, y31.2.2.2.2.2.2.1, y31.2.2.2.2.2.2.2.1, y31.2.2.2.2.2.2.2.2)))) fv (mkR S).1 (mkR S).2.1 (mkR S).2.2.1 (mkR S).2.2.2.1 (mkR S).2.2.2.2.1 (mkR S).2.2.2.2.2.1 (mkR S).2.2.2.2.2.2.1 (mkR S).2.2.2.2.2.2.2 (a : Int) = some (e, mkR S') ∧ OkS (B + k + 1) S'
  | k, 0, _, _, _, _, _, h, _, _, _, _ => by omega
  | k, _ + 1, 0, _, _, _, _, _, h, _, _, _ => by omega
  | k, fu + 1, fv + 1, a, B, S, hk, hf, hv, ha, hS, hB => by
    have heta : ∀ S : St, ((mkR S).1, (mkR S).2.1, (mkR S).2.2.1, (mkR S).2.2.2.1, (mkR S).2.2.2.2.1, (mkR S).2.2.2.2.2.1, (mkR S).2.2.2.2.2.2.1, (mkR S).2.2.2.2.2.2.2) = mkR S := fun _ => rfl
    rw [m_frontier_Write_L2, m_frontier_Write_B2, m_ref35_Write_L2, m_ref35_Write_B2]
    by_cases hal : a < l.length
    · obtain ⟨k, rfl⟩ : ∃ q, k = q + 1 := ⟨k - 1, by rw [List.length_drop] at hk; omega⟩
      have e1 : i64 ((a : Int) + (n : Int)) = ((a + n : Nat) : Int) := by rw [i64_id (by omega)]; omega
      have hmin : min ((a + n : Nat) : Int) (l.length : Int) = ((min (a + n) l.length : Nat) : Int) := by omega
      have hch : List.take (Int.toNat ((min (a + n) l.length : Nat) : Int) - Int.toNat (a : Int)) (List.drop (Int.toNat (a : Int)) l) = (l.drop a).take n := by
        rw [Int.toNat_natCast, Int.toNat_natCast, List.take_eq_take_iff, List.length_drop]; omega
      have hcl : ((l.drop a).take n).length = min n (l.length - a) := by rw [List.length_take, List.length_drop]
      obtain ⟨r, r1, r2, r3, _⟩ := enc_ok (run_take (run_drop hr a) n) (by omega) (by omega)
      have n1 : (0 : Int) ≤ (a : Int) ∧ (a : Int) ≤ ((min (a + n) l.length : Nat) : Int) ∧ ((min (a + n) l.length : Nat) : Int) ≤ (l.length : Int) := by omega
      rw [if_pos (by omega), if_pos (by omega)]
      simp only [e1, hmin, need_pos n1, hch, r1, r2, bnd1_mk, heta]
      rw [apD hS (by omega) (by omega), apR hS (by omega) (by omega), bnd1_mk, bnd1_mk]
      obtain ⟨o1, o2⟩ := apOk hS r
      dsimp only
      by_cases he : (apS S r).1 = 0
      · rw [if_neg (by simp [he]), if_neg (by simp [he])]
        obtain ⟨e, S', g1, g2, g3⟩ := wr2 hr hl hn k fu fv (a + n) (B + 1) (apS S r).2 (by rw [List.length_drop] at hk ⊢; omega) (by omega) (by omega) (by omega) o1 (by omega)
        exact ⟨e, S', g1, g2, by rw [show B + (k + 1) + 1 = B + 1 + k + 1 by omega]; exact g3⟩
      · rw [if_pos he, if_pos he]
        exact ⟨_, _, rfl, rfl, o1.mono (by omega)⟩
    · rw [if_neg (by omega), if_neg (by omega), heta, syD hS (by omega), syR hS (by omega), bnd1_mk, bnd1_mk]
      exact ⟨_, _, rfl, rfl, (syOk hS).mono (by omega)⟩
theorem write2 {B : Nat} {S : St} (h : OkS B S) (hB : B ≤ 800000) {l : List (Int × Int)} (hl : l.length ≤ 1000) (n : Int) :
    ∃ e S', m_frontier_Write (mkD S) [114] l n = some (e, mkD S') ∧ m_ref35_Write (mkR S) [114] l n = some (e, mkR S') ∧ OkS (B + 1002) S' := by
  have heta : ∀ S : St, ((mkR S).1, (mkR S).2.1, (mkR S).2.2.1, (mkR S).2.2.2.1, (mkR S).2.2.2.2.1, (mkR S).2.2.2.2.2.1, (mkR S).2.2.2.2.2.2.1, (mkR S).2.2.2.2.2.2.2) = mkR S := fun _ => rfl
  have hFU := FU_ge
  obtain ⟨b, r1, r2, r3⟩ := run_agree l (by omega)
  have hz : ∀ z : Bool, (z = false → Run l ∧ 1 ≤ n ∧ n ≤ 1024) → ∃ e S', (if z = true then some ((1 : Int), mkD S) else (if (l.length : Int) = 0 then (bnd1 (m_disk_Append (mkD S) [114] ([] : List UInt8)) (fun y11 => if ¬ y11.1 = 0 then (some (y11.1, y11.2)) else (m_frontier_Write_L2 [114] l n (fun x0d_j13 => bnd1 (m_disk_Sync x0d_j13 [114]) (fun y39 => some (y39.1, y39.2))) FU y11.2 0))) else m_frontier_Write_L2 [114] l n (fun x0d_j13 => bnd1 (m_disk_Sync x0d_j13 [114]) (fun y39 => some (y39.1, y39.2))) FU (mkD S) 0)) = some (e, mkD S') ∧
      (if z = true then some ((1 : Int), mkR S) else (if (l.length : Int) = 0 then (bnd1 (m_ref35_Disk_Append (mkR S) [114] ([] : List UInt8)) (fun y10 => if ¬ y10.1 = 0 then (some (y10.1, (y10.2.1, y10.2.2.1, y10.2.2.2.1, y10.2.2.2.2.1, y10.2.2.2.2.2.1, y10.2.2.2.2.2.2.1, y10.2.2.2.2.2.2.2.1, y10.2.2.2.2.2.2.2.2))) else (m_ref35_Write_L2 [114] l n (fun x0_0_j11 x0_1_j11 x0_2_j11 x0_3_j11 x0_4_j11 x0_5_j11 x0_6_j11 x0_7_j11 => bnd1 (m_ref35_Disk_Sync (x0_0_j11, x0_1_j11, x0_2_j11, x0_3_j11, x0_4_j11, x0_5_j11, x0_6_j11, x0_7_j11) [114]) (fun y31 => some (y31.1, (y31.2.1, y31.2.2.1, y31.2.2.2.1, y31.2.2.2.2.1, y31.2.2.2.2.2.1, y31.2.2.2.2.2.2.1, y31.2.2.2.2.2.2.2.1, y31.2.2.2.2.2.2.2.2)))) FU y10.2.1 y10.2.2.1 y10.2.2.2.1 y10.2.2.2.2.1 y10.2.2.2.2.2.1 y10.2.2.2.2.2.2.1 y10.2.2.2.2.2.2.2.1 y10.2.2.2.2.2.2.2.2 0))) else (m_ref35_Write_L2 [114] l n (fun x0_0_j11 x0_1_j11 x0_2_j11 x0_3_j11 x0_4_j11 x0_5_j11 x0_6_j11 x0_7_j11 => bnd1 (m_ref35_Disk_Sync (x0_0_j11, x0_1_j11, x0_2_j11, x0_3_j11, x0_4_j11, x0_5_j11, x0_6_j11, x0_7_j11) [114]) (fun y31 => some (y31.1, (y31.2.1, y31.2.2.1, y31.2.2.2.1, y31.2.2.2.2.1, y31.2.2.2.2.2.1, y31.2.2.2.2.2.2.1, y31.2.2.2.2.2.2.2.1, y31.2.2.2.2.2.2.2.2)))) FU (mkR S).1 (mkR S).2.1 (mkR S).2.2.1 (mkR S).2.2.2.1 (mkR S).2.2.2.2.1 (mkR S).2.2.2.2.2.1 (mkR S).2.2.2.2.2.2.1 (mkR S).2.2.2.2.2.2.2 0))) = some (e, mkR S') ∧ OkS (B + 1002) S' := by
    intro z hz
    cases z
    · obtain ⟨hr, hn⟩ := hz rfl
      obtain ⟨m, rfl⟩ : ∃ m : Nat, n = m := ⟨n.toNat, by omega⟩
      simp only [Bool.false_eq_true, if_false]
      by_cases h0 : (l.length : Int) = 0
      · rw [if_pos h0, if_pos h0, apD h (by omega) (by simp), apR h (by omega) (by simp), bnd1_mk, bnd1_mk]
        obtain ⟨o1, o2⟩ := apOk h []
        dsimp only
        by_cases he : (apS S []).1 = 0
        · rw [if_neg (by simp [he]), if_neg (by simp [he])]
          obtain ⟨e, S', g1, g2, g3⟩ := wr2 hr hl (n := m) (by omega) 1000 FU FU 0 (B + 1) (apS S []).2 (by rw [List.length_drop]; omega) (by omega) (by omega) (by omega) o1 (by omega)
          exact ⟨e, S', g1, g2, g3.mono (by omega)⟩
        · rw [if_pos he, if_pos he]
          exact ⟨_, _, rfl, rfl, o1.mono (by omega)⟩
      · rw [if_neg h0, if_neg h0]
        obtain ⟨e, S', g1, g2, g3⟩ := wr2 hr hl (n := m) (by omega) 1000 FU FU 0 B S (by rw [List.length_drop]; omega) (by omega) (by omega) (by omega) h (by omega)
        exact ⟨e, S', g1, g2, g3.mono (by omega)⟩
    · exact ⟨1, S, rfl, rfl, h.mono (by omega)⟩
  unfold m_frontier_Write m_ref35_Write
  simp only [jn_eq, r1, r2, bnd1_mk, heta]
  cases b
  · exact hz true (fun h => by cases h)
  · simp only [Bool.not_true, Bool.false_eq_true, if_false]
    by_cases h1 : n < 1
    · simp only [h1, if_true]
      exact hz true (fun h => by cases h)
    · simp only [h1, if_false]
      exact hz (decide (1024 < n)) (fun h => ⟨r3.1 rfl, by omega, by have := of_decide_eq_false h; omega⟩)
end Go.Proofs.Ytkplmgdmkfgjhaa
/- FrontierFiles: Fail and Crash on both disks. -/
namespace Go.Proofs.Ytkplmgdmkfgjhaa
attribute [local irreducible] FU
def flS (S : St) : St := if S.dn = true then S else { S with fl := 3 }
theorem flD (S : St) : m_disk_Fail (mkD S) 3 = some (mkD (flS S)) := by
  unfold m_disk_Fail flS
  by_cases hd : S.dn = true
  · rw [if_pos (show (mkD S).dn = true from hd), if_pos hd]
  · rw [if_neg (show ¬ (mkD S).dn = true from hd), if_neg hd]; rfl
theorem flR (S : St) : m_ref35_Disk_Fail (mkR S) 3 = some (mkR (flS S)) := by
  unfold m_ref35_Disk_Fail flS
  by_cases hd : S.dn = true
  · rw [if_neg (by rw [show (mkR S).2.2.2.2.2.2.1 = true from hd]; simp), if_pos hd]
  · rw [if_pos (by rw [show (mkR S).2.2.2.2.2.2.1 = S.dn from rfl]; simpa using hd), if_neg hd]; rfl
theorem flOk {B : Nat} {S : St} (h : OkS B S) : OkS B (flS S) := by
  unfold flS
  split
  · exact h
  · exact ⟨h.nm, h.du, h.pe, h.np, h.fb, Nat.le_refl _, h.wr, h.ln⟩
theorem withG (o : Option Nat) (i : Int) : m_ref35_with (dirL o) [114] i = some [([114], i)] := by
  obtain ⟨n, hn⟩ := FU_k 2 (by omega)
  have hw : m_ref35_without (dirL o) [114] = some [] := by
    unfold m_ref35_without
    rw [jn_eq, hn, m_ref35_without_L2, m_ref35_without_B2]
    cases o with
    | none => simp [dirL]
    | some j =>
      have e1 : i64 ((0 : Int) + 1) = 1 := by rw [i64_id (by omega)]; rfl
      have hg : gi [(([114] : List UInt8), (j : Int))] 0 = ([114], (j : Int)) := rfl
      simp only [dirL, List.length_singleton, jn_eq, hg]
      rw [if_pos (by omega), need_pos (by omega), if_neg (by simp), e1, m_ref35_without_L2, m_ref35_without_B2]
      simp
  unfold m_ref35_with
  rw [hw, bnd1_mk, jn_eq, hn, m_ref35_with_L2, m_ref35_with_B2, jn_eq]
  simp [need_pos]
def keN (S : St) : Option Nat := match S.pe with
  | none => S.du
  | some j => some j
/-- How much of what is not durable stays. -/
def keM (f : List UInt8 × Int) (i : Int) : Int := f.2 + Int.tmod i ((f.1.length : Int) - f.2 + 1)
def keF (fs : LFs) (o : Option Nat) (i : Int) : LFs := match o with
  | none => fs
  | some j => if 0 < ((gi fs (j : Int)).1.length : Int) - (gi fs (j : Int)).2 then fs.set j ((gi fs (j : Int)).1.take (keM (gi fs (j : Int)) i).toNat, keM (gi fs (j : Int)) i) else fs
def keS (S : St) (i : Int) : St := ⟨keF S.fs (keN S) i, keN S, keN S, none, 0, 0, false⟩
theorem keM_ok {f : List UInt8 × Int} {i : Int} (h0 : 0 ≤ f.2) (h1 : f.2 ≤ f.1.length) (hi : 0 ≤ i) : 0 ≤ Int.tmod i ((f.1.length : Int) - f.2 + 1) ∧ 0 ≤ keM f i ∧ keM f i ≤ f.1.length ∧ f.2 ≤ keM f i := by
  unfold keM
  have h2 : 0 ≤ Int.tmod i ((f.1.length : Int) - f.2 + 1) := Int.tmod_nonneg _ hi
  have h3 : Int.tmod i ((f.1.length : Int) - f.2 + 1) < (f.1.length : Int) - f.2 + 1 := Int.tmod_lt_of_pos _ (by omega)
  omega
theorem keOk {B : Nat} {S : St} (h : OkS B S) {i : Int} (hi : 0 ≤ i) : OkS B (keS S i) := by
  have hl : (keF S.fs (keN S) i).length = S.fs.length := by
    unfold keF
    split
    · rfl
    · split
      · exact List.length_set
      · rfl
  have hk : ∀ j, keN S = some j → j < S.fs.length := fun j hj => by
    unfold keN at hj
    split at hj
    · exact h.du j hj
    · rename_i q hq; cases hj; exact h.pe _ hq
  refine ⟨fun j hj => ?_, fun j hj => ?_, fun j hj => (by cases hj), fun _ => rfl, fun x hx => ?_, by show 0 ≤ 3; omega, Nat.zero_le _, ?_⟩
  · show j < (keF S.fs (keN S) i).length; rw [hl]; exact hk j hj
  · show j < (keF S.fs (keN S) i).length; rw [hl]; exact hk j hj
  · replace hx : x ∈ keF S.fs (keN S) i := hx
    unfold keF at hx
    split at hx
    · exact h.fb x hx
    · rename_i j hj
      have hfb := h.fb _ (gi_mem' (hk j hj))
      obtain ⟨k1, k2, k3, k4⟩ := keM_ok hfb.2.1 hfb.2.2 hi
      split at hx
      · rcases List.mem_or_eq_of_mem_set hx with hx | rfl
        · exact h.fb x hx
        · exact ⟨by dsimp only; rw [List.length_take]; omega, k2, by dsimp only; rw [List.length_take]; omega⟩
      · exact h.fb x hx
  · show (keF S.fs (keN S) i).length ≤ B; rw [hl]; exact h.ln
theorem crND (S : St) : crN (mkD S) (peD S.pe).length = dirL (keN S) := by
  unfold crN keN
  obtain ⟨fs, nm, du, pe, wr, fl, dn⟩ := S
  cases pe with
  | none => rfl
  | some j =>
    show dkPf ([], [114], (j : Int)) (dirL du) = _
    unfold dkPf
    dsimp only
    rw [if_neg (by omega), if_pos rfl]
    cases du <;> simp [dirL, putL]
theorem nms1 (o : Option Nat) : nms (dirL o) = (dirL o).map (·.1) := by
  cases o <;> simp [nms, dirL, List.mergeSort]
theorem crD2 {B : Nat} {S : St} (h : OkS B S) (hB : B ≤ 1000000) {i : Int} (hi : 0 ≤ i ∧ i ≤ 4) : m_disk_Crash (mkD S) [1, i] = some (mkD (keS S i)) := by
  have hk : ∀ j, keN S = some j → j < S.fs.length := fun j hj => by
    unfold keN at hj
    split at hj
    · exact h.du j hj
    · rename_i q hq; cases hj; exact h.pe _ hq
  have hpl : (peD S.pe).length ≤ 1 := by cases S.pe <;> simp [peD]
  have hnx : dkNx [1, i] (((mkD S).pend.length : Nat) : Int) = some (((peD S.pe).length : Nat) : Int) := by
    show dkNx [1, i] (((peD S.pe).length : Nat) : Int) = _
    unfold dkNx
    have : (peD S.pe).length = 0 ∨ (peD S.pe).length = 1 := by omega
    rcases this with h1 | h1 <;> rw [h1] <;> rw [i64_id (by omega), need_pos (by omega)] <;> rfl
  unfold m_disk_Crash
  rw [hnx, bnd1_mk, need_pos (by show 0 ≤ _ ∧ _ ≤ (((peD S.pe).length : Nat) : Int); omega), Int.toNat_natCast, crND, need_pos ⟨by show (peD S.pe).length < _; omega, by cases keN S <;> simp [dirL]⟩, nms1]
  have hcl : crL (dirL (keN S)) ((dirL (keN S)).map (·.1)) (mkD S).files [1, i].tail = some (keF S.fs (keN S) i) := by
    show crL (dirL (keN S)) ((dirL (keN S)).map (·.1)) S.fs [i] = _
    cases hke : keN S with
    | none => rfl
    | some j =>
      have hj := hk j hke
      have hfb := h.fb _ (gi_mem' hj)
      obtain ⟨k1, k2, k3, k4⟩ := keM_ok hfb.2.1 hfb.2.2 hi.1
      have hlk : (lookL [(([114] : List UInt8), (j : Int))] [114]).getD (-1) = (j : Int) := by simp [lookL]
      show crL [(([114] : List UInt8), (j : Int))] [[114]] S.fs [i] = _
      unfold crL keF
      rw [hlk, need_pos (by omega), i64_id (by omega)]
      have hdk : dkNx [i] (((gi S.fs (j : Int)).1.length : Int) - (gi S.fs (j : Int)).2) = some (Int.tmod i (((gi S.fs (j : Int)).1.length : Int) - (gi S.fs (j : Int)).2 + 1)) := by
        unfold dkNx
        rw [i64_id (by omega), need_pos (by omega)]
        show some (Int.tmod (max i 0) _) = _
        rw [Int.max_eq_left hi.1]
      rw [hdk, bnd1_mk]
      have hkm : (gi S.fs (j : Int)).2 + Int.tmod i (((gi S.fs (j : Int)).1.length : Int) - (gi S.fs (j : Int)).2 + 1) = keM (gi S.fs (j : Int)) i := rfl
      rw [hkm, i64_id (by omega), need_pos (by omega)]
      dsimp only
      split
      · rw [crL, Int.toNat_natCast]
      · rw [crL]
  rw [hcl, bnd1_mk]
  rfl
theorem pick0 (i : Int) : m_ref35_pick [1, i] 0 = some 1 := by
  unfold m_ref35_pick
  rw [if_neg (by simp), need_pos (by simp)]
  rfl
theorem pick1 {i : Int} (hi : 0 ≤ i) : m_ref35_pick [1, i] 1 = some i := by
  unfold m_ref35_pick
  rw [if_neg (by simp), need_pos (by simp)]
  show some (max i 0) = _
  rw [Int.max_eq_left hi]
theorem crR2 {B : Nat} {S : St} (h : OkS B S) (hB : B ≤ 1000000) {i : Int} (hi : 0 ≤ i ∧ i ≤ 4) : m_ref35_Disk_Crash (mkR S) [1, i] = some (mkR (keS S i)) := by
  have hk : ∀ j, keN S = some j → j < S.fs.length := fun j hj => by
    unfold keN at hj
    split at hj
    · exact h.du j hj
    · rename_i q hq; cases hj; exact h.pe _ hq
  obtain ⟨n, hn⟩ := FU_k 2 (by omega)
  have e1 : i64 ((0 : Int) + 1) = 1 := by rw [i64_id (by omega)]; rfl
  have e2 : i64 ((1 : Int) + 1) = 2 := by rw [i64_id (by omega)]; rfl
  have hl2 : ∀ K : LFs → Option RDk, m_ref35_Disk_Crash_L2 (mkR S) [1, i] K FU (mkR S).2.2.2.1 0 = K (dirL (keN S)) := fun K => by
    show m_ref35_Disk_Crash_L2 (mkR S) [1, i] K FU (dirL S.du) 0 = _
    rw [hn, m_ref35_Disk_Crash_L2, m_ref35_Disk_Crash_B2, pick0, bnd1_mk]
    show need ((i64 (((peR S.pe).length : Int) + 1)) ≠ 0) (if (0 : Int) < Int.tmod 1 (i64 (((peR S.pe).length : Int) + 1)) then _ else _) = _
    unfold keN
    cases hp : S.pe with
    | none =>
      rw [show (((peR none).length : Nat) : Int) = 0 from rfl, e1, need_pos (by omega), if_neg (by decide)]
    | some j =>
      rw [show (((peR (some j)).length : Nat) : Int) = 1 from rfl, e2, need_pos (by omega), if_pos (by decide)]
      have hg : gi (mkR S).2.2.2.2.1 0 = (1, [114], [], (j : Int)) := by show gi (peR S.pe) 0 = _; rw [hp]; rfl
      rw [need_pos (by show (0 : Int) ≤ 0 ∧ 0 < ((peR S.pe).length : Int); rw [hp]; simp [peR]), hg]
      unfold m_ref35_done
      rw [if_pos rfl]
      dsimp only
      rw [withG, bnd1_mk, bnd1_mk, e1, m_ref35_Disk_Crash_L2, m_ref35_Disk_Crash_B2, pick0, bnd1_mk]
      show need ((i64 (((peR S.pe).length : Int) + 1)) ≠ 0) (if (1 : Int) < Int.tmod 1 (i64 (((peR S.pe).length : Int) + 1)) then _ else _) = _
      rw [hp, show (((peR (some j)).length : Nat) : Int) = 1 from rfl, e2, need_pos (by omega), if_neg (by decide)]
      rfl
  unfold m_ref35_Disk_Crash
  rw [jn_eq, hl2, need_pos (by have := h.ln; show 0 + S.fs.length ≤ _; omega), jn_eq, List.nil_append]
  show m_ref35_Disk_Crash_L4 [1, i] (dirL (keN S)) _ FU S.fs 1 0 = _
  rw [hn, m_ref35_Disk_Crash_L4, m_ref35_Disk_Crash_B4]
  unfold keS keF
  cases hke : keN S with
  | none => simp [dirL, mkR, peR]
  | some j =>
    have hj := hk j hke
    have hfb := h.fb _ (gi_mem' hj)
    obtain ⟨k1, k2, k3, k4⟩ := keM_ok hfb.2.1 hfb.2.2 hi.1
    have hg : gi (dirL (some j)) 0 = ([114], (j : Int)) := rfl
    have n1 : (0 : Int) ≤ (j : Int) ∧ (j : Int) < (S.fs.length : Int) := by omega
    rw [if_pos (by simp [dirL]), need_pos (by simp [dirL])]
    simp only [hg, jn_eq, need_pos n1]
    have em : i64 (((gi S.fs (j : Int)).1.length : Int) - (gi S.fs (j : Int)).2) = ((gi S.fs (j : Int)).1.length : Int) - (gi S.fs (j : Int)).2 := i64_id (by omega)
    have em1 : i64 (((gi S.fs (j : Int)).1.length : Int) - (gi S.fs (j : Int)).2 + 1) = ((gi S.fs (j : Int)).1.length : Int) - (gi S.fs (j : Int)).2 + 1 := i64_id (by omega)
    have hkm : (gi S.fs (j : Int)).2 + Int.tmod i (((gi S.fs (j : Int)).1.length : Int) - (gi S.fs (j : Int)).2 + 1) = keM (gi S.fs (j : Int)) i := rfl
    rw [em]
    by_cases hm : 0 < ((gi S.fs (j : Int)).1.length : Int) - (gi S.fs (j : Int)).2
    · rw [if_pos hm, if_pos hm, pick1 hi.1, bnd1_mk, em1, need_pos (by omega), hkm, i64_id (by omega), need_pos (by omega)]
      have hset : ∀ z : List UInt8 × Int, gi (S.fs.set (Int.toNat (j : Int)) z) (j : Int) = z := fun z => by unfold gi; rw [Int.toNat_natCast, List.getElem?_set_self hj]; rfl
      rw [need_pos (by rw [List.length_set]; omega), need_pos (by rw [List.length_set]; omega)]
      simp only [hset, List.set_set, e1]
      have hlt : (((gi S.fs (j : Int)).1.take (keM (gi S.fs (j : Int)) i).toNat).length : Int) = keM (gi S.fs (j : Int)) i := by rw [List.length_take]; omega
      rw [hlt, m_ref35_Disk_Crash_L4, m_ref35_Disk_Crash_B4, if_neg (by simp [dirL]), Int.toNat_natCast]
      rfl
    · rw [if_neg hm, if_neg hm, e1, m_ref35_Disk_Crash_L4, m_ref35_Disk_Crash_B4, if_neg (by simp [dirL]), Int.toNat_natCast]
      have hsame : S.fs.set j ((gi S.fs (j : Int)).1, ((gi S.fs (j : Int)).1.length : Int)) = S.fs := by
        have : ((gi S.fs (j : Int)).1, ((gi S.fs (j : Int)).1.length : Int)) = gi S.fs (j : Int) := Prod.ext rfl (by dsimp only; omega)
        rw [this, gi_nat hj, List.set_getElem_self]
      rw [hsame]
      rfl
end Go.Proofs.Ytkplmgdmkfgjhaa
/- FrontierFiles: the last write, of a run of whatever length. -/
namespace Go.Proofs.Ytkplmgdmkfgjhaa
attribute [local irreducible] FU
def sumU (F : LFs) : LFs → Nat
  | [] => 0
  | y :: l => (gi F y.2).1.length + sumU F l
theorem sumU_perm {F l l' : LFs} (h : l'.Perm l) : sumU F l' = sumU F l := by
  induction h with
  | nil => rfl
  | cons x _ ih => simp [sumU, ih]
  | swap x y l => simp only [sumU]; omega
  | trans _ _ h1 h2 => exact h1.trans h2
theorem sumU_mem {F : LFs} {y : List UInt8 × Int} : ∀ {l : LFs}, y ∈ l → (gi F y.2).1.length ≤ sumU F l
  | [], h => by cases h
  | x :: l, h => by
    rcases List.mem_cons.1 h with rfl | h
    · simp [sumU]
    · have := sumU_mem (F := F) h; simp only [sumU]; omega
theorem sumU_le {F : LFs} : ∀ (l : LFs), (∀ y ∈ l, (gi F y.2).1.length ≤ 300) → sumU F l ≤ 300 * l.length
  | [], _ => by simp [sumU]
  | y :: l, h => by
    have h1 := h y List.mem_cons_self
    have h2 := sumU_le l (fun z hz => h z (List.mem_cons_of_mem _ hz))
    simp only [sumU, List.length_cons]; omega
theorem fold_us {F : LFs} : ∀ (l : LFs) (n : Nat), (∀ y ∈ l, 0 ≤ y.2 ∧ y.2 < (F.length : Int)) → n + sumU F l ≤ 1000000 → foldB (m_dkUsedR F) l (n : Int) = some ((n + sumU F l : Nat) : Int)
  | [], n, _, _ => by simp [foldB, sumU]
  | y :: l, n, hp, hb => by
    simp only [sumU] at hb
    rw [foldB]
    unfold m_dkUsedR
    rw [need_pos (hp y List.mem_cons_self), i64_id (by omega)]
    show foldB (m_dkUsedR F) l _ = _
    rw [show (n : Int) + ((gi F y.2).1.length : Int) = ((n + (gi F y.2).1.length : Nat) : Int) by omega, fold_us l _ (fun z hz => hp z (List.mem_cons_of_mem _ hz)) (by omega)]
    simp only [sumU, Nat.add_assoc]
structure GD (D : Dk) : Prop where
  cap : D.cap = 300
  dn : D.dn = false
  pl : ∀ y ∈ D.names, 0 ≤ y.2 ∧ y.2 < (D.files.length : Int)
  fb : ∀ x ∈ D.files, x.1.length ≤ 300
  nl : D.names.length ≤ 2
  ab : lookL D.names [115] = none → D.names.length ≤ 1 ∧ D.pend.length ≤ 1
theorem gi_memI {l : LFs} {i : Int} (h0 : 0 ≤ i) (h1 : i < (l.length : Int)) : gi l i ∈ l := by
  obtain ⟨j, rfl⟩ : ∃ j : Nat, i = j := ⟨i.toNat, by omega⟩
  exact gi_mem' (by omega)
theorem usG {D : Dk} (h : GD D) : m_dkUsed D = some ((sumU D.files D.names : Nat) : Int) ∧ sumU D.files D.names ≤ 600 := by
  have hs : sumU D.files D.names ≤ 600 := by
    have := sumU_le (F := D.files) D.names (fun y hy => h.fb _ (gi_memI (h.pl y hy).1 (h.pl y hy).2))
    have := h.nl
    omega
  refine ⟨?_, hs⟩
  unfold m_dkUsed
  refine rngC_mk (fun l' hp => ?_)
  have := fold_us (F := D.files) l' 0 (fun y hy => h.pl y (hp.mem_iff.1 hy)) (by rw [sumU_perm hp]; omega)
  rw [Int.natCast_zero] at this
  rw [this, sumU_perm hp, Nat.zero_add]
  rfl
theorem lookL_mem {s : List UInt8} {v : Int} : ∀ {l : LFs}, lookL l s = some v → (s, v) ∈ l
  | [], h => by cases h
  | x :: l, h => by
    unfold lookL at h
    split at h
    · rename_i hx; cases h; rw [← hx]; exact List.mem_cons_self
    · exact List.mem_cons_of_mem _ (lookL_mem h)
theorem lookL_put (s : List UInt8) (v : Int) : ∀ (l : LFs), lookL (putL l s v) s = some v
  | [] => by simp [putL, lookL]
  | x :: l => by
    unfold putL
    split
    · simp [lookL]
    · rename_i hx; unfold lookL; rw [if_neg hx]; exact lookL_put s v l
theorem putL_mem {s : List UInt8} {v : Int} {y : List UInt8 × Int} : ∀ {l : LFs}, y ∈ putL l s v → y ∈ l ∨ y = (s, v)
  | [], h => .inr (List.mem_singleton.1 h)
  | x :: l, h => by
    unfold putL at h
    split at h
    · rcases List.mem_cons.1 h with h | h
      · exact .inr h
      · exact .inl (List.mem_cons_of_mem _ h)
    · rcases List.mem_cons.1 h with rfl | h
      · exact .inl List.mem_cons_self
      · rcases putL_mem h with h | h
        · exact .inl (List.mem_cons_of_mem _ h)
        · exact .inr h
theorem putL_len (s : List UInt8) (v : Int) : ∀ (l : LFs), (putL l s v).length ≤ l.length + 1
  | [] => by simp [putL]
  | x :: l => by
    unfold putL
    split
    · simp
    · have := putL_len s v l; simp only [List.length_cons]; omega
theorem dkBy_spec (D : Dk) (b : List UInt8) : (dkBy D b).1.length ≤ b.length ∧ ((dkBy D b).2 = 25 ∨ (dkBy D b).2 = 0 ∧ (dkWr D).dn = false) := by
  unfold dkBy
  cases h : (dkWr D).dn
  · rw [if_neg (by simp)]; exact ⟨Nat.le_refl _, .inr ⟨rfl, rfl⟩⟩
  · rw [if_pos rfl]; exact ⟨by dsimp only; rw [List.length_take]; omega, .inl rfl⟩
theorem apG {D : Dk} (h : GD D) {b : List UInt8} (hb : b.length ≤ 30000) : ∃ e D', m_disk_Append D [115] b = some (e, D') ∧ (e = 10 ∨ e = 25 ∨ e = 0 ∧ GD D') := by
  obtain ⟨u1, u2⟩ := usG h
  obtain ⟨b1, b2⟩ := dkBy_spec D b
  have hnl := h.nl
  unfold m_disk_Append
  rw [u1, bnd1_mk, if_neg (by rw [h.dn]; simp), if_neg (by simp), if_neg (by omega), h.cap, i64_id (by omega)]
  by_cases hf : (300 : Int) - ((sumU D.files D.names : Nat) : Int) < (b.length : Int)
  · rw [if_pos hf]; exact ⟨_, _, rfl, .inl rfl⟩
  rw [if_neg hf, need_pos (by omega)]
  cases hlk : lookL D.names [115] with
  | none =>
    obtain ⟨a1, a2⟩ := h.ab hlk
    rw [Option.getD_none, if_pos rfl, need_pos (by omega)]
    refine ⟨_, _, rfl, ?_⟩
    rcases b2 with b2 | ⟨b2, b3⟩
    · exact .inr (.inl b2)
    · refine .inr (.inr ⟨b2, h.cap, b3, fun y hy => ?_, fun x hx => ?_, ?_, fun hn => ?_⟩)
      · have hl : ((D.files ++ [((dkBy D b).1, (0 : Int))]).length : Int) = (D.files.length : Int) + 1 := by simp
        dsimp only at hy ⊢
        rcases putL_mem hy with hy | rfl
        · have := h.pl y hy; omega
        · dsimp only; omega
      · rcases List.mem_append.1 hx with hx | hx
        · exact h.fb x hx
        · rw [List.mem_singleton.1 hx]; dsimp only; omega
      · have := putL_len [115] (D.files.length : Int) D.names; dsimp only; omega
      · dsimp only at hn; rw [lookL_put] at hn; cases hn
  | some j =>
    have hm := lookL_mem hlk
    have hj := h.pl _ hm
    have hs := sumU_mem (F := D.files) hm
    dsimp only at hj hs
    have hfj := h.fb _ (gi_memI hj.1 hj.2)
    rw [Option.getD_some, if_neg (by omega), need_pos hj, need_pos (by omega)]
    refine ⟨_, _, rfl, ?_⟩
    rcases b2 with b2 | ⟨b2, b3⟩
    · exact .inr (.inl b2)
    · refine .inr (.inr ⟨b2, h.cap, b3, fun y hy => ?_, fun x hx => ?_, h.nl, fun hn => ?_⟩)
      · have := h.pl y hy
        dsimp only
        rw [List.length_set]
        exact this
      · rcases List.mem_or_eq_of_mem_set hx with hx | rfl
        · exact h.fb x hx
        · dsimp only; rw [List.length_append]; omega
      · dsimp only at hn; rw [show (dkWr D).names = D.names from rfl, hlk] at hn; cases hn
theorem syG {D : Dk} (h : GD D) : ∃ e D', m_disk_Sync D [115] = some (e, D') ∧ e ≠ 1 := by
  unfold m_disk_Sync
  have hchk : dkChk D [115] = 21 ∧ lookL D.names [115] = none ∨ ∃ j, lookL D.names [115] = some j := by
    cases hlk : lookL D.names [115] with
    | none => exact .inl ⟨by unfold dkChk; rw [h.dn, hlk]; simp, rfl⟩
    | some j => exact .inr ⟨j, rfl⟩
  rcases hchk with ⟨hc, _⟩ | ⟨j, hlk⟩
  · rw [if_pos (by omega), hc]; exact ⟨_, _, rfl, by omega⟩
  · have hj := h.pl _ (lookL_mem hlk)
    dsimp only at hj
    have hc : dkChk D [115] = 0 := by
      unfold dkChk
      rw [h.dn, hlk, Option.getD_some, if_neg (by simp), if_neg (by simp), if_neg (by omega)]
    rw [if_neg (by omega), hlk, Option.getD_some]
    split
    · exact ⟨_, _, rfl, by omega⟩
    · rw [need_pos hj]; exact ⟨_, _, rfl, by omega⟩
theorem wrG {l : List (Int × Int)} (hr : Run l) (hl : l.length ≤ 9223372036854775807) : ∀ (k fu a : Nat) (D : Dk), a + k = l.length → k < fu → GD D → ∃ e D', m_frontier_Write_L2 [115] l 1 (fun x0d_j13 => bnd1 (m_disk_Sync x0d_j13 [115]) (fun y39 => some (y39.1, y39.2))) fu D (a : Int) = some (e, D') ∧ e ≠ 1 := by
  intro k
  induction k with
  | zero =>
    intro fu a D hk hf hD
    obtain ⟨fu, rfl⟩ : ∃ q, fu = q + 1 := ⟨fu - 1, by omega⟩
    rw [m_frontier_Write_L2, m_frontier_Write_B2, if_neg (by omega)]
    obtain ⟨e, D', s1, s2⟩ := syG hD
    rw [s1, bnd1_mk]
    exact ⟨_, _, rfl, s2⟩
  | succ k ih =>
    intro fu a D hk hf hD
    obtain ⟨fu, rfl⟩ : ∃ q, fu = q + 1 := ⟨fu - 1, by omega⟩
    have e1 : i64 ((a : Int) + 1) = ((a + 1 : Nat) : Int) := by rw [i64_id (by omega)]; omega
    have hmin : min ((a + 1 : Nat) : Int) (l.length : Int) = ((a + 1 : Nat) : Int) := by omega
    have hch : List.take (Int.toNat ((a + 1 : Nat) : Int) - Int.toNat (a : Int)) (List.drop (Int.toNat (a : Int)) l) = (l.drop a).take 1 := by
      rw [Int.toNat_natCast, Int.toNat_natCast, show a + 1 - a = 1 by omega]
    have hcl : ((l.drop a).take 1).length = 1 := by rw [List.length_take, List.length_drop]; omega
    have hbl := blk_len ((l.drop a).take 1)
    have hbd := bd_len ((l.drop a).take 1)
    rw [m_frontier_Write_L2, m_frontier_Write_B2, if_pos (by omega), e1, hmin, need_pos (by omega), hch, encode_spec (run_take (run_drop hr a) 1) (by omega), bnd1_mk]
    obtain ⟨e, D', s1, s2⟩ := apG hD (b := blk ((l.drop a).take 1)) (by omega)
    rw [s1, bnd1_mk]
    dsimp only
    rcases s2 with rfl | rfl | ⟨rfl, s2⟩
    · rw [if_pos (by omega)]; exact ⟨_, _, rfl, by omega⟩
    · rw [if_pos (by omega)]; exact ⟨_, _, rfl, by omega⟩
    · rw [if_neg (by simp)]
      exact ih fu (a + 1) D' (by omega) (by omega) s2
theorem writeG {l : List (Int × Int)} (hl : l.length ≤ 9223372036854775807) {D : Dk} (hD : GD D) : ∃ e D' b, m_frontier_Write D [115] l 1 = some (e, D') ∧ m_ref35_IsRun l = some b ∧ (decide (¬ e = 1)) = b := by
  have hFU := FU_ge
  obtain ⟨b, r1, r2, r3⟩ := run_agree l hl
  unfold m_frontier_Write
  simp only [jn_eq, r1, bnd1_mk]
  cases b
  · simp only [Bool.not_false, if_true]
    exact ⟨1, D, false, rfl, r2, by simp⟩
  · simp only [Bool.not_true, Bool.false_eq_true, if_false]
    rw [if_neg (by omega), decide_eq_false (by omega)]
    simp only [Bool.false_eq_true, if_false]
    by_cases h0 : (l.length : Int) = 0
    · rw [if_pos h0]
      obtain ⟨e, D', s1, s2⟩ := apG hD (b := []) (by simp)
      rw [s1, bnd1_mk]
      dsimp only
      rcases s2 with rfl | rfl | ⟨rfl, s2⟩
      · rw [if_pos (by omega)]; exact ⟨_, _, true, rfl, r2, by decide⟩
      · rw [if_pos (by omega)]; exact ⟨_, _, true, rfl, r2, by decide⟩
      · rw [if_neg (by simp)]
        obtain ⟨e, D2, g1, g2⟩ := wrG (r3.1 rfl) hl l.length FU 0 D' (by omega) (by omega) s2
        exact ⟨e, D2, true, g1, r2, decide_eq_true g2⟩
    · rw [if_neg h0]
      obtain ⟨e, D2, g1, g2⟩ := wrG (r3.1 rfl) hl l.length FU 0 D (by omega) (by omega) hD
      exact ⟨e, D2, true, g1, r2, decide_eq_true g2⟩
theorem gdS {B : Nat} {S : St} (h : OkS B S) (hd : S.dn = false) : GD (mkD S) := by
  refine ⟨rfl, hd, fun y hy => ?_, fun x hx => (h.fb x hx).1, ?_, fun _ => ⟨?_, ?_⟩⟩
  · replace hy : y ∈ dirL S.nm := hy
    cases hn : S.nm with
    | none => rw [hn] at hy; cases hy
    | some i =>
      have := h.nm i hn
      rw [hn] at hy
      rw [List.mem_singleton.1 hy]
      show 0 ≤ (i : Int) ∧ (i : Int) < (S.fs.length : Int)
      omega
  · show (dirL S.nm).length ≤ 2; cases S.nm <;> simp [dirL]
  · show (dirL S.nm).length ≤ 1; cases S.nm <;> simp [dirL]
  · show (peD S.pe).length ≤ 1; cases S.pe <;> simp [peD]
end Go.Proofs.Ytkplmgdmkfgjhaa
