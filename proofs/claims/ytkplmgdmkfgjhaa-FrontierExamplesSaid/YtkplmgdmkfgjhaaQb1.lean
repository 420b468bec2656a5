/- Models, by program: what the functions compute. -/
import Derived.Test.YtkplmgdmkfgjhaaQb0
namespace Go.Proofs.Ytkplmgdmkfgjhaa

/- cspcheck.cspcheckref35.Has -/
/- cspcheck.cspcheckref35.Less -/
noncomputable def m_ref35_Less (a0 : Int × Int) (a1 : Int × Int) : Option Bool :=
  jn (fun (x4_j1 : Bool) => some x4_j1) (fun k1 => if a0.1 < a1.1 then (k1 true) else (if a0.1 = a1.1 then (k1 (decide (a0.2 < a1.2))) else (k1 false)))
/- cspcheck.cspcheckref35.Add -/
noncomputable def m_ref35_Add_B2 (a0 : List (Int × Int)) (a1 : Int × Int) (k1 : Int → Option (List (Int × Int))) (rec2 : Int → Option (List (Int × Int))) (x5_l2 : Int) : Option (List (Int × Int)) :=
  jn (fun (x18_j64 : Bool) => if x18_j64 then (rec2 (i64 (x5_l2 + 1))) else (k1 x5_l2)) (fun k64 => if x5_l2 < (List.length a0 : Int) then (need ((0 : Int) ≤ x5_l2 ∧ x5_l2 < (List.length a0 : Int)) (bnd1 (m_ref35_Less (gi a0 x5_l2) a1) (fun y68 => k64 y68))) else (k64 false))
noncomputable def m_ref35_Add_L2 (a0 : List (Int × Int)) (a1 : Int × Int) (k1 : Int → Option (List (Int × Int))) : Nat → Int → Option (List (Int × Int))
  | 0, _ => none
  | n + 1, x5_l2 => m_ref35_Add_B2 a0 a1 k1 (m_ref35_Add_L2 a0 a1 k1 n) x5_l2
noncomputable def m_ref35_Add (a0 : List (Int × Int)) (a1 : Int × Int) : Option (List (Int × Int)) :=
  jn (fun (x5_j1 : Int) => jn (fun (x32_j73 : Bool) => if x32_j73 then (some a0) else (need (0 ≤ x5_j1 ∧ x5_j1 ≤ (List.length a0 : Int)) (need (List.length ([] : List (Int × Int)) + List.length (List.take (Int.toNat x5_j1) a0) ≤ 137438953472) (need (List.length (([] : List (Int × Int)) ++ (List.take (Int.toNat x5_j1) a0)) + List.length [a1] ≤ 137438953472) (need ((0 : Int) ≤ x5_j1 ∧ x5_j1 ≤ (List.length a0 : Int)) (need (List.length ((([] : List (Int × Int)) ++ (List.take (Int.toNat x5_j1) a0)) ++ [a1]) + List.length (List.drop (Int.toNat x5_j1) a0) ≤ 137438953472) (some (((([] : List (Int × Int)) ++ (List.take (Int.toNat x5_j1) a0)) ++ [a1]) ++ (List.drop (Int.toNat x5_j1) a0))))))))) (fun k73 => if x5_j1 < (List.length a0 : Int) then (need ((0 : Int) ≤ x5_j1 ∧ x5_j1 < (List.length a0 : Int)) (k73 (decide ((gi a0 x5_j1) = a1)))) else (k73 false))) (fun k1 => m_ref35_Add_L2 a0 a1 k1 FU 0)
/- cspcheck.cspcheckref35.isPair -/
noncomputable def m_ref35_isPair (a0 : Int × Int) : Option Bool :=
  jn (fun (x2_j1 : Bool) => some x2_j1) (fun k1 => if 0 ≤ a0.1 then (if a0.1 ≤ 2147483647 then (if 0 ≤ a0.2 then (k1 (decide (a0.2 ≤ 2147483647))) else (k1 false)) else (k1 false)) else (k1 false))
/- cspcheck.cspcheckref35.Sorted -/
noncomputable def m_ref35_Sorted_B2 (a0 : List (Int × Int)) (k1 : Unit → Option (List (Int × Int))) (rec2 : Int → Option (List (Int × Int))) (x4_l2 : Int) : Option (List (Int × Int)) :=
  if x4_l2 < (List.length a0 : Int) then (need ((0 : Int) ≤ x4_l2 ∧ x4_l2 < (List.length a0 : Int)) (bnd1 (m_ref35_isPair (gi a0 x4_l2)) (fun y14 => if !y14 then (some []) else (rec2 (i64 (x4_l2 + 1)))))) else (k1 ())
noncomputable def m_ref35_Sorted_L2 (a0 : List (Int × Int)) (k1 : Unit → Option (List (Int × Int))) : Nat → Int → Option (List (Int × Int))
  | 0, _ => none
  | n + 1, x4_l2 => m_ref35_Sorted_B2 a0 k1 (m_ref35_Sorted_L2 a0 k1 n) x4_l2
noncomputable def m_ref35_Sorted_B4 (a0 : List (Int × Int)) (k15 : (List (Int × Int)) → Option (List (Int × Int))) (rec4 : (List (Int × Int)) → Int → Option (List (Int × Int))) (x3_l4 : List (Int × Int)) (x5_l4 : Int) : Option (List (Int × Int)) :=
  if x5_l4 < (List.length a0 : Int) then (need ((0 : Int) ≤ x5_l4 ∧ x5_l4 < (List.length a0 : Int)) (bnd1 (m_ref35_Add x3_l4 (gi a0 x5_l4)) (fun y35 => rec4 y35 (i64 (x5_l4 + 1))))) else (k15 x3_l4)
noncomputable def m_ref35_Sorted_L4 (a0 : List (Int × Int)) (k15 : (List (Int × Int)) → Option (List (Int × Int))) : Nat → (List (Int × Int)) → Int → Option (List (Int × Int))
  | 0, _, _ => none
  | n + 1, x3_l4, x5_l4 => m_ref35_Sorted_B4 a0 k15 (m_ref35_Sorted_L4 a0 k15 n) x3_l4 x5_l4
noncomputable def m_ref35_Sorted (a0 : List (Int × Int)) : Option (List (Int × Int)) :=
  jn (fun (_ : Unit) => jn (fun (x3_j15 : List (Int × Int)) => some x3_j15) (fun k15 => m_ref35_Sorted_L4 a0 k15 FU [] 0)) (fun k1 => m_ref35_Sorted_L2 a0 k1 FU 0)
/- cspcheck.frontier.number -/
noncomputable def m_frontier_number_B2 (a0 : List UInt8) (a1 : Int) (k1 : Unit → Option (Int × Int × Int)) (rec2 : Int → Int → Option (Int × Int × Int)) (x7_l2 : Int) (x10_l2 : Int) : Option (Int × Int × Int) :=
  if x10_l2 < 5 then (if (List.length a0 : Int) ≤ (i64 (a1 + x10_l2)) then (some (0, 0, 23)) else (need ((0 : Int) ≤ i64 (a1 + x10_l2) ∧ (i64 (a1 + x10_l2)) < (List.length a0 : Int)) (need (¬ (i64 (7 * x10_l2)) < 0) (if (gi a0 (i64 (a1 + x10_l2))) < 128 then (some (bOr .i64 x7_l2 (i64 ((UInt8.toNat ((gi a0 (i64 (a1 + x10_l2))) &&& 127) : Int) * 2 ^ min (Int.toNat (i64 (7 * x10_l2))) IntKind.i64.bits)), i64 ((i64 (a1 + x10_l2)) + 1), 0)) else (rec2 (bOr .i64 x7_l2 (i64 ((UInt8.toNat ((gi a0 (i64 (a1 + x10_l2))) &&& 127) : Int) * 2 ^ min (Int.toNat (i64 (7 * x10_l2))) IntKind.i64.bits))) (i64 (x10_l2 + 1))))))) else (k1 ())
noncomputable def m_frontier_number_L2 (a0 : List UInt8) (a1 : Int) (k1 : Unit → Option (Int × Int × Int)) : Nat → Int → Int → Option (Int × Int × Int)
  | 0, _, _ => none
  | n + 1, x7_l2, x10_l2 => m_frontier_number_B2 a0 a1 k1 (m_frontier_number_L2 a0 a1 k1 n) x7_l2 x10_l2
noncomputable def m_frontier_number (a0 : List UInt8) (a1 : Int) : Option (Int × Int × Int) :=
  jn (fun (_ : Unit) => some (0, 0, 22)) (fun k1 => m_frontier_number_L2 a0 a1 k1 FU 0 0)
/- cspcheck.cspcheckref35.uvarint -/
/- cspcheck.codec.Checksum -/
noncomputable def m_codec_Checksum_B14 (k58 : Int → Option Int) (rec14 : Int → Int → Option Int) (x3_l14 : Int) (x16_l14 : Int) : Option Int :=
  if x16_l14 < 8 then (jn (fun (x3_j67 : Int) => rec14 x3_j67 (i64 (x16_l14 + 1))) (fun k67 => if ¬ (bAnd .u32 x3_l14 1) = 0 then (k67 (bXor .u32 (Int.fdiv x3_l14 (2 ^ min (Int.toNat 1) IntKind.u32.bits)) 3988292384)) else (k67 (Int.fdiv x3_l14 (2 ^ min (Int.toNat 1) IntKind.u32.bits))))) else (k58 x3_l14)
noncomputable def m_codec_Checksum_L14 (k58 : Int → Option Int) : Nat → Int → Int → Option Int
  | 0, _, _ => none
  | n + 1, x3_l14, x16_l14 => m_codec_Checksum_B14 k58 (m_codec_Checksum_L14 k58 n) x3_l14 x16_l14
noncomputable def m_codec_Checksum_B8 (a0 : List UInt8) (k1 : Int → Option Int) (rec8 : Int → Int → Option Int) (x3_l8 : Int) (x8_l8 : Int) : Option Int :=
  if x8_l8 < (List.length a0 : Int) then (jn (fun (x3_j58 : Int) => rec8 x3_j58 (i64 (x8_l8 + 1))) (fun k58 => need ((0 : Int) ≤ x8_l8 ∧ x8_l8 < (List.length a0 : Int)) (m_codec_Checksum_L14 k58 FU (bXor .u32 x3_l8 (UInt8.toNat (gi a0 x8_l8) : Int)) 0))) else (k1 x3_l8)
noncomputable def m_codec_Checksum_L8 (a0 : List UInt8) (k1 : Int → Option Int) : Nat → Int → Int → Option Int
  | 0, _, _ => none
  | n + 1, x3_l8, x8_l8 => m_codec_Checksum_B8 a0 k1 (m_codec_Checksum_L8 a0 k1 n) x3_l8 x8_l8
noncomputable def m_codec_Checksum (a0 : List UInt8) : Option Int :=
  jn (fun (x3_j1 : Int) => some (bXor .u32 4294967295 x3_j1)) (fun k1 => m_codec_Checksum_L8 a0 k1 FU 4294967295 0)
/- cspcheck.codec.Sealed -/
noncomputable def m_codec_Sealed (a0 : List UInt8) : Option Bool :=
  if (i64 ((List.length a0 : Int) - 4)) < 0 then (some false) else (need (0 ≤ i64 ((List.length a0 : Int) - 4) ∧ (i64 ((List.length a0 : Int) - 4)) ≤ (List.length a0 : Int)) (bnd1 (m_codec_Checksum (List.take (Int.toNat (i64 ((List.length a0 : Int) - 4))) a0)) (fun y2 => jn (fun (x2_j3 : Bool) => some x2_j3) (fun k3 => need ((0 : Int) ≤ i64 ((List.length a0 : Int) - 4) ∧ (i64 ((List.length a0 : Int) - 4)) < (List.length a0 : Int)) (if (gi a0 (i64 ((List.length a0 : Int) - 4))) = (u8i (Int.fdiv y2 (2 ^ min (Int.toNat 24) IntKind.u32.bits))) then (need ((0 : Int) ≤ i64 ((i64 ((List.length a0 : Int) - 4)) + 1) ∧ (i64 ((i64 ((List.length a0 : Int) - 4)) + 1)) < (List.length a0 : Int)) (if (gi a0 (i64 ((i64 ((List.length a0 : Int) - 4)) + 1))) = (u8i (Int.fdiv y2 (2 ^ min (Int.toNat 16) IntKind.u32.bits))) then (need ((0 : Int) ≤ i64 ((i64 ((List.length a0 : Int) - 4)) + 2) ∧ (i64 ((i64 ((List.length a0 : Int) - 4)) + 2)) < (List.length a0 : Int)) (if (gi a0 (i64 ((i64 ((List.length a0 : Int) - 4)) + 2))) = (u8i (Int.fdiv y2 (2 ^ min (Int.toNat 8) IntKind.u32.bits))) then (need ((0 : Int) ≤ i64 ((i64 ((List.length a0 : Int) - 4)) + 3) ∧ (i64 ((i64 ((List.length a0 : Int) - 4)) + 3)) < (List.length a0 : Int)) (k3 (decide ((gi a0 (i64 ((i64 ((List.length a0 : Int) - 4)) + 3))) = (u8i y2))))) else (k3 false))) else (k3 false))) else (k3 false))))))
/- cspcheck.frontier.isPair -/
noncomputable def m_frontier_isPair (a0 : Int × Int) : Option Bool :=
  jn (fun (x2_j1 : Bool) => some x2_j1) (fun k1 => if 0 ≤ a0.1 then (if 0 ≤ a0.2 then (if a0.1 ≤ 2147483647 then (k1 (decide (a0.2 ≤ 2147483647))) else (k1 false)) else (k1 false)) else (k1 false))
/- cmp.isNaN(int) -/
noncomputable def m_cmp_isNaN_int (a0 : Int) : Option Bool :=
  some (decide (¬ a0 = a0))
/- cmp.Compare(int) -/
noncomputable def m_cmp_Compare_int (a0 : Int) (a1 : Int) : Option Int :=
  bnd1 (m_cmp_isNaN_int a0) (fun y1 => bnd1 (m_cmp_isNaN_int a1) (fun y2 => if y1 then (if y2 then (some 0) else (some (-1))) else (if y2 then (some 1) else (if a0 < a1 then (some (-1)) else (if a1 < a0 then (some 1) else (some 0))))))
/- slices.Compare(()int,int) -/
noncomputable def m_slices_Compare_L_int_int_B2 (a0 : List Int) (a1 : List Int) (k1 : Unit → Option Int) (rec2 : Int → Option Int) (x11_l2 : Int) : Option Int :=
  if x11_l2 < (List.length a0 : Int) then (need ((0 : Int) ≤ x11_l2 ∧ x11_l2 < (List.length a0 : Int)) (if (List.length a1 : Int) ≤ x11_l2 then (some 1) else (need ((0 : Int) ≤ x11_l2 ∧ x11_l2 < (List.length a1 : Int)) (bnd1 (m_cmp_Compare_int (gi a0 x11_l2) (gi a1 x11_l2)) (fun y20 => if ¬ y20 = 0 then (some y20) else (rec2 (i64 (x11_l2 + 1)))))))) else (k1 ())
noncomputable def m_slices_Compare_L_int_int_L2 (a0 : List Int) (a1 : List Int) (k1 : Unit → Option Int) : Nat → Int → Option Int
  | 0, _ => none
  | n + 1, x11_l2 => m_slices_Compare_L_int_int_B2 a0 a1 k1 (m_slices_Compare_L_int_int_L2 a0 a1 k1 n) x11_l2
noncomputable def m_slices_Compare_L_int_int (a0 : List Int) (a1 : List Int) : Option Int :=
  jn (fun (_ : Unit) => if (List.length a0 : Int) < (List.length a1 : Int) then (some (-1)) else (some 0)) (fun k1 => m_slices_Compare_L_int_int_L2 a0 a1 k1 FU 0)
/- cspcheck.frontier.compare -/
noncomputable def m_frontier_compare (a0 : Int × Int) (a1 : Int × Int) : Option Int :=
  bnd1 (m_slices_Compare_L_int_int [a0.1, a0.2] [a1.1, a1.2]) (fun y1 => some y1)
/- cspcheck.frontier.isRun -/
noncomputable def m_frontier_isRun_B2 (a0 : List (Int × Int)) (k1 : Unit → Option Bool) (rec2 : Int → Option Bool) (x7_l2 : Int) : Option Bool :=
  if x7_l2 < (List.length a0 : Int) then (need ((0 : Int) ≤ x7_l2 ∧ x7_l2 < (List.length a0 : Int)) (jn (fun (x28_j110 : Bool) => if x28_j110 then (some false) else (rec2 (i64 (x7_l2 + 1)))) (fun k110 => bnd1 (m_frontier_isPair ((gi a0 x7_l2).1, (gi a0 x7_l2).2)) (fun y114 => if !y114 then (k110 true) else (if 0 < x7_l2 then (need ((0 : Int) ≤ i64 (x7_l2 - 1) ∧ (i64 (x7_l2 - 1)) < (List.length a0 : Int)) (bnd1 (m_frontier_compare (gi a0 (i64 (x7_l2 - 1))) ((gi a0 x7_l2).1, (gi a0 x7_l2).2)) (fun y116 => k110 (decide (0 ≤ y116))))) else (k110 false)))))) else (k1 ())
noncomputable def m_frontier_isRun_L2 (a0 : List (Int × Int)) (k1 : Unit → Option Bool) : Nat → Int → Option Bool
  | 0, _ => none
  | n + 1, x7_l2 => m_frontier_isRun_B2 a0 k1 (m_frontier_isRun_L2 a0 k1 n) x7_l2
noncomputable def m_frontier_isRun (a0 : List (Int × Int)) : Option Bool :=
  jn (fun (_ : Unit) => some true) (fun k1 => m_frontier_isRun_L2 a0 k1 FU 0)
/- cspcheck.frontier.isBlock -/
noncomputable def m_frontier_isBlock (a0 : List (Int × Int)) : Option Bool :=
  jn (fun (x2_j1 : Bool) => some x2_j1) (fun k1 => if 1 ≤ (List.length a0 : Int) then (if (List.length a0 : Int) ≤ 1024 then (bnd1 (m_frontier_isRun a0) (fun y3 => k1 y3)) else (k1 false)) else (k1 false))
/- cspcheck.codec.AppendUvarint -/
noncomputable def m_codec_AppendUvarint_B2 (k1 : (List UInt8) → Int → Option (List UInt8)) (rec2 : (List UInt8) → Int → Option (List UInt8)) (x0_l2 : List UInt8) (x1_l2 : Int) : Option (List UInt8) :=
  if 128 ≤ x1_l2 then (need (List.length x0_l2 + List.length [u8i (bOr .i64 (bAnd .i64 x1_l2 127) 128)] ≤ 137438953472) (rec2 (x0_l2 ++ [u8i (bOr .i64 (bAnd .i64 x1_l2 127) 128)]) (Int.fdiv x1_l2 (2 ^ min (Int.toNat 7) IntKind.i64.bits)))) else (k1 x0_l2 x1_l2)
noncomputable def m_codec_AppendUvarint_L2 (k1 : (List UInt8) → Int → Option (List UInt8)) : Nat → (List UInt8) → Int → Option (List UInt8)
  | 0, _, _ => none
  | n + 1, x0_l2, x1_l2 => m_codec_AppendUvarint_B2 k1 (m_codec_AppendUvarint_L2 k1 n) x0_l2 x1_l2
noncomputable def m_codec_AppendUvarint (a0 : List UInt8) (a1 : Int) : Option (List UInt8) :=
  jn (fun (x0_j1 : List UInt8) (x1_j1 : Int) => need (List.length x0_j1 + List.length [u8i x1_j1] ≤ 137438953472) (some (x0_j1 ++ [u8i x1_j1]))) (fun k1 => m_codec_AppendUvarint_L2 k1 FU a0 a1)
/- cspcheck.codec.AppendSum -/
noncomputable def m_codec_AppendSum (a0 : List UInt8) (a1 : Int) : Option (List UInt8) :=
  need ((0 : Int) ≤ a1 ∧ a1 ≤ (List.length a0 : Int) ∧ (List.length a0 : Int) ≤ (List.length a0 : Int)) (bnd1 (m_codec_Checksum (List.take (Int.toNat (List.length a0 : Int) - Int.toNat a1) (List.drop (Int.toNat a1) a0))) (fun y2 => need (List.length a0 + List.length [u8i (Int.fdiv y2 (2 ^ min (Int.toNat 24) IntKind.u32.bits)), u8i (Int.fdiv y2 (2 ^ min (Int.toNat 16) IntKind.u32.bits)), u8i (Int.fdiv y2 (2 ^ min (Int.toNat 8) IntKind.u32.bits)), u8i y2] ≤ 137438953472) (some (a0 ++ [u8i (Int.fdiv y2 (2 ^ min (Int.toNat 24) IntKind.u32.bits)), u8i (Int.fdiv y2 (2 ^ min (Int.toNat 16) IntKind.u32.bits)), u8i (Int.fdiv y2 (2 ^ min (Int.toNat 8) IntKind.u32.bits)), u8i y2]))))
/- cspcheck.frontier.encode -/
noncomputable def m_frontier_encode_B2 (a0 : List (Int × Int)) (k4 : (List UInt8) → Option (List UInt8)) (rec2 : (List UInt8) → Int → Option (List UInt8)) (x3_l2 : List UInt8) (x12_l2 : Int) : Option (List UInt8) :=
  if x12_l2 < (List.length a0 : Int) then (jn (fun (x3_j141 : List UInt8) => rec2 x3_j141 (i64 (x12_l2 + 1))) (fun k141 => need ((0 : Int) ≤ x12_l2 ∧ x12_l2 < (List.length a0 : Int)) (jn (fun (x6_0_j158 : Int) (x6_1_j158 : Int) => bnd1 (m_codec_AppendUvarint x3_l2 (i64 (((gi a0 x12_l2).1) - x6_0_j158))) (fun y161 => jn (fun (x40_j163 : Bool) => if x40_j163 then (bnd1 (m_codec_AppendUvarint y161 (i64 ((i64 (((gi a0 x12_l2).2) - x6_1_j158)) - 1))) (fun y164 => k141 y164)) else (bnd1 (m_codec_AppendUvarint y161 ((gi a0 x12_l2).2)) (fun y166 => k141 y166))) (fun k163 => if 0 < x12_l2 then (k163 (decide (((gi a0 x12_l2).1) = x6_0_j158))) else (k163 false)))) (fun k158 => if 0 < x12_l2 then (need ((0 : Int) ≤ i64 (x12_l2 - 1) ∧ (i64 (x12_l2 - 1)) < (List.length a0 : Int)) (k158 ((gi a0 (i64 (x12_l2 - 1))).1) ((gi a0 (i64 (x12_l2 - 1))).2))) else (k158 ((0, 0).1) ((0, 0).2)))))) else (k4 x3_l2)
noncomputable def m_frontier_encode_L2 (a0 : List (Int × Int)) (k4 : (List UInt8) → Option (List UInt8)) : Nat → (List UInt8) → Int → Option (List UInt8)
  | 0, _, _ => none
  | n + 1, x3_l2, x12_l2 => m_frontier_encode_B2 a0 k4 (m_frontier_encode_L2 a0 k4 n) x3_l2 x12_l2
noncomputable def m_frontier_encode (a0 : List (Int × Int)) : Option (List UInt8) :=
  bnd1 (m_codec_AppendUvarint [] (List.length a0 : Int)) (fun y2 => jn (fun (x3_j4 : List UInt8) => bnd1 (m_codec_AppendSum x3_j4 0) (fun y168 => some y168)) (fun k4 => m_frontier_encode_L2 a0 k4 FU y2 0))
/- bytes.Equal -/
noncomputable def m_bytes_Equal (a0 : List UInt8) (a1 : List UInt8) : Option Bool :=
  some (decide (a0 = a1))
/- cspcheck.frontier.DecodeBlock -/
noncomputable def m_frontier_DecodeBlock_B26 (a0 : List UInt8) (k572 : Int → Int → Int → Int → Option ((List (Int × Int)) × Int × Int)) (rec26 : Int → Int → Int → Int → Int → Option ((List (Int × Int)) × Int × Int)) (x8_l26 : Int) (x9_l26 : Int) (x12_0_l26 : Int) (x12_1_l26 : Int) (x13_l26 : Int) : Option ((List (Int × Int)) × Int × Int) :=
  jn (fun (x55_j609 : Bool) => if x55_j609 then (bnd1 (m_frontier_number a0 x8_l26) (fun y610 => need ((0 : Int) ≤ x13_l26 ∧ x13_l26 < 2) (rec26 y610.2.1 y610.2.2 (if x13_l26 = 0 then y610.1 else x12_0_l26) (if x13_l26 = 0 then x12_1_l26 else y610.1) (i64 (x13_l26 + 1))))) else (k572 x8_l26 x9_l26 x12_0_l26 x12_1_l26)) (fun k609 => if x13_l26 < 2 then (k609 (decide (x9_l26 = 0))) else (k609 false))
noncomputable def m_frontier_DecodeBlock_L26 (a0 : List UInt8) (k572 : Int → Int → Int → Int → Option ((List (Int × Int)) × Int × Int)) : Nat → Int → Int → Int → Int → Int → Option ((List (Int × Int)) × Int × Int)
  | 0, _, _, _, _, _ => none
  | n + 1, x8_l26, x9_l26, x12_0_l26, x12_1_l26, x13_l26 => m_frontier_DecodeBlock_B26 a0 k572 (m_frontier_DecodeBlock_L26 a0 k572 n) x8_l26 x9_l26 x12_0_l26 x12_1_l26 x13_l26
noncomputable def m_frontier_DecodeBlock_B14 (a0 : List UInt8) (y4 : Int × Int × Int) (k8 : Int → Int → (List (Int × Int)) → Option ((List (Int × Int)) × Int × Int)) (rec14 : Int → Int → (List (Int × Int)) → Int → Option ((List (Int × Int)) × Int × Int)) (x8_l14 : Int) (x9_l14 : Int) (x10_l14 : List (Int × Int)) (x11_l14 : Int) : Option ((List (Int × Int)) × Int × Int) :=
  jn (fun (x47_j518 : Bool) => if x47_j518 then (jn (fun (x8_j519 : Int) (x9_j519 : Int) (x10_j519 : List (Int × Int)) => rec14 x8_j519 x9_j519 x10_j519 (i64 (x11_l14 + 1))) (fun k519 => jn (fun (x8_j572 : Int) (x9_j572 : Int) (x12_0_j572 : Int) (x12_1_j572 : Int) => jn (fun (x12_0_j612 : Int) (x12_1_j612 : Int) => need (List.length x10_l14 + List.length [(x12_0_j612, x12_1_j612)] ≤ 137438953472) (k519 x8_j572 x9_j572 (x10_l14 ++ [(x12_0_j612, x12_1_j612)]))) (fun k612 => if 0 < x11_l14 then (need ((0 : Int) ≤ i64 (x11_l14 - 1) ∧ (i64 (x11_l14 - 1)) < (List.length x10_l14 : Int)) (jn (fun (x12_1_j618 : Int) => k612 (i64 (x12_0_j572 + ((gi x10_l14 (i64 (x11_l14 - 1))).1))) x12_1_j618) (fun k618 => if x12_0_j572 = 0 then (k618 (i64 (x12_1_j572 + (i64 (((gi x10_l14 (i64 (x11_l14 - 1))).2) + 1))))) else (k618 x12_1_j572)))) else (k612 x12_0_j572 x12_1_j572))) (fun k572 => m_frontier_DecodeBlock_L26 a0 k572 FU x8_l14 x9_l14 ((0, 0).1) ((0, 0).2) 0))) else (k8 x8_l14 x9_l14 x10_l14)) (fun k518 => if x11_l14 < y4.1 then (k518 (decide (x9_l14 = 0))) else (k518 false))
noncomputable def m_frontier_DecodeBlock_L14 (a0 : List UInt8) (y4 : Int × Int × Int) (k8 : Int → Int → (List (Int × Int)) → Option ((List (Int × Int)) × Int × Int)) : Nat → Int → Int → (List (Int × Int)) → Int → Option ((List (Int × Int)) × Int × Int)
  | 0, _, _, _, _ => none
  | n + 1, x8_l14, x9_l14, x10_l14, x11_l14 => m_frontier_DecodeBlock_B14 a0 y4 k8 (m_frontier_DecodeBlock_L14 a0 y4 k8 n) x8_l14 x9_l14 x10_l14 x11_l14
noncomputable def m_frontier_DecodeBlock (a0 : List UInt8) (a1 : Int) : Option ((List (Int × Int)) × Int × Int) :=
  jn (fun (x23_j3 : Bool) => if x23_j3 then (some ([], 0, 1)) else (bnd1 (m_frontier_number a0 a1) (fun y4 => jn (fun (x9_j5 : Int) => jn (fun (x8_j8 : Int) (x9_j8 : Int) (x10_j8 : List (Int × Int)) => if ¬ x9_j8 = 0 then (some ([], 0, x9_j8)) else (if (i64 ((List.length a0 : Int) - x8_j8)) < 4 then (some ([], 0, 23)) else (need ((0 : Int) ≤ a1 ∧ a1 ≤ i64 (x8_j8 + 4) ∧ (i64 (x8_j8 + 4)) ≤ (List.length a0 : Int)) (bnd1 (m_codec_Sealed (List.take (Int.toNat (i64 (x8_j8 + 4)) - Int.toNat a1) (List.drop (Int.toNat a1) a0))) (fun y632 => if !y632 then (some ([], 0, 24)) else (jn (fun (x114_j633 : Bool) => if x114_j633 then (some ([], 0, 22)) else (some (x10_j8, i64 (x8_j8 + 4), 0))) (fun k633 => bnd1 (m_frontier_isBlock x10_j8) (fun y637 => if !y637 then (k633 true) else (bnd1 (m_frontier_encode x10_j8) (fun y638 => bnd1 (m_bytes_Equal y638 (List.take (Int.toNat (i64 (x8_j8 + 4)) - Int.toNat a1) (List.drop (Int.toNat a1) a0))) (fun y639 => k633 (!y639)))))))))))) (fun k8 => m_frontier_DecodeBlock_L14 a0 y4 k8 FU y4.2.1 x9_j5 [] 0)) (fun k5 => jn (fun (x40_j7 : Bool) => if x40_j7 then (k5 22) else (k5 y4.2.2)) (fun k7 => if y4.2.2 = 0 then (if y4.1 < 1 then (k7 true) else (k7 (decide (1024 < y4.1)))) else (k7 false)))))) (fun k3 => if a1 < 0 then (k3 true) else (k3 (decide ((List.length a0 : Int) < a1))))
/- cspcheck.cspcheckref23.Checksum -/
noncomputable def m_ref23_Checksum_B14 (k58 : Int → Option Int) (rec14 : Int → Int → Option Int) (x3_l14 : Int) (x5_l14 : Int) : Option Int :=
  if x5_l14 < 8 then (jn (fun (x3_j67 : Int) => rec14 x3_j67 (i64 (x5_l14 + 1))) (fun k67 => if (Int.tmod x3_l14 2) = 1 then (k67 (bXor .u32 (Int.fdiv x3_l14 (2 ^ min (Int.toNat 1) IntKind.u32.bits)) 3988292384)) else (k67 (Int.fdiv x3_l14 (2 ^ min (Int.toNat 1) IntKind.u32.bits))))) else (k58 x3_l14)
noncomputable def m_ref23_Checksum_L14 (k58 : Int → Option Int) : Nat → Int → Int → Option Int
  | 0, _, _ => none
  | n + 1, x3_l14, x5_l14 => m_ref23_Checksum_B14 k58 (m_ref23_Checksum_L14 k58 n) x3_l14 x5_l14
noncomputable def m_ref23_Checksum_B8 (a0 : List UInt8) (k1 : Int → Option Int) (rec8 : Int → Int → Option Int) (x3_l8 : Int) (x4_l8 : Int) : Option Int :=
  if x4_l8 < (List.length a0 : Int) then (jn (fun (x3_j58 : Int) => rec8 x3_j58 (i64 (x4_l8 + 1))) (fun k58 => need ((0 : Int) ≤ x4_l8 ∧ x4_l8 < (List.length a0 : Int)) (m_ref23_Checksum_L14 k58 FU (bXor .u32 x3_l8 (UInt8.toNat (gi a0 x4_l8) : Int)) 0))) else (k1 x3_l8)
noncomputable def m_ref23_Checksum_L8 (a0 : List UInt8) (k1 : Int → Option Int) : Nat → Int → Int → Option Int
  | 0, _, _ => none
  | n + 1, x3_l8, x4_l8 => m_ref23_Checksum_B8 a0 k1 (m_ref23_Checksum_L8 a0 k1 n) x3_l8 x4_l8
noncomputable def m_ref23_Checksum (a0 : List UInt8) : Option Int :=
  jn (fun (x3_j1 : Int) => some (bXor .u32 4294967295 x3_j1)) (fun k1 => m_ref23_Checksum_L8 a0 k1 FU 4294967295 0)
/- cspcheck.cspcheckref23.Sealed -/
noncomputable def m_ref23_Sealed (a0 : List UInt8) : Option (List UInt8) :=
  bnd1 (m_ref23_Checksum a0) (fun y1 => need (List.length ([] : List UInt8) + List.length a0 ≤ 137438953472) (need (List.length (([] : List UInt8) ++ a0) + List.length [u8i (Int.fdiv y1 (2 ^ min (Int.toNat 24) IntKind.u32.bits)), u8i (Int.fdiv y1 (2 ^ min (Int.toNat 16) IntKind.u32.bits)), u8i (Int.fdiv y1 (2 ^ min (Int.toNat 8) IntKind.u32.bits)), u8i y1] ≤ 137438953472) (some ((([] : List UInt8) ++ a0) ++ [u8i (Int.fdiv y1 (2 ^ min (Int.toNat 24) IntKind.u32.bits)), u8i (Int.fdiv y1 (2 ^ min (Int.toNat 16) IntKind.u32.bits)), u8i (Int.fdiv y1 (2 ^ min (Int.toNat 8) IntKind.u32.bits)), u8i y1]))))
/- cspcheck.cspcheckref35.IsRun -/
noncomputable def m_ref35_IsRun_B2 (a0 : List (Int × Int)) (k1 : Unit → Option Bool) (rec2 : Int → Option Bool) (x3_l2 : Int) : Option Bool :=
  if x3_l2 < (List.length a0 : Int) then (jn (fun (x32_j130 : Bool) => if x32_j130 then (some false) else (rec2 (i64 (x3_l2 + 1)))) (fun k130 => need ((0 : Int) ≤ x3_l2 ∧ x3_l2 < (List.length a0 : Int)) (bnd1 (m_ref35_isPair (gi a0 x3_l2)) (fun y137 => if !y137 then (k130 true) else (if 0 < x3_l2 then (need ((0 : Int) ≤ i64 (x3_l2 - 1) ∧ (i64 (x3_l2 - 1)) < (List.length a0 : Int)) (need ((0 : Int) ≤ x3_l2 ∧ x3_l2 < (List.length a0 : Int)) (bnd1 (m_ref35_Less (gi a0 (i64 (x3_l2 - 1))) (gi a0 x3_l2)) (fun y140 => k130 (!y140))))) else (k130 false)))))) else (k1 ())
noncomputable def m_ref35_IsRun_L2 (a0 : List (Int × Int)) (k1 : Unit → Option Bool) : Nat → Int → Option Bool
  | 0, _ => none
  | n + 1, x3_l2 => m_ref35_IsRun_B2 a0 k1 (m_ref35_IsRun_L2 a0 k1 n) x3_l2
noncomputable def m_ref35_IsRun (a0 : List (Int × Int)) : Option Bool :=
  jn (fun (_ : Unit) => some true) (fun k1 => m_ref35_IsRun_L2 a0 k1 FU 0)
/- cspcheck.cspcheckref23.Uvarint -/
noncomputable def m_ref23_Uvarint_B2 (k1 : (List UInt8) → Int → Option (List UInt8)) (rec2 : (List UInt8) → Int → Option (List UInt8)) (x0_l2 : List UInt8) (x1_l2 : Int) : Option (List UInt8) :=
  if 128 ≤ x1_l2 then (need (List.length x0_l2 + List.length [u8i (i64 ((Int.tmod x1_l2 128) + 128))] ≤ 137438953472) (rec2 (x0_l2 ++ [u8i (i64 ((Int.tmod x1_l2 128) + 128))]) (i64 (Int.tdiv x1_l2 128)))) else (k1 x0_l2 x1_l2)
noncomputable def m_ref23_Uvarint_L2 (k1 : (List UInt8) → Int → Option (List UInt8)) : Nat → (List UInt8) → Int → Option (List UInt8)
  | 0, _, _ => none
  | n + 1, x0_l2, x1_l2 => m_ref23_Uvarint_B2 k1 (m_ref23_Uvarint_L2 k1 n) x0_l2 x1_l2
noncomputable def m_ref23_Uvarint (a0 : List UInt8) (a1 : Int) : Option (List UInt8) :=
  jn (fun (x0_j1 : List UInt8) (x1_j1 : Int) => need (List.length x0_j1 + List.length [u8i x1_j1] ≤ 137438953472) (some (x0_j1 ++ [u8i x1_j1]))) (fun k1 => m_ref23_Uvarint_L2 k1 FU a0 a1)
/- cspcheck.cspcheckref35.EncodeBlock -/
noncomputable def m_ref35_EncodeBlock_B2 (a0 : List (Int × Int)) (k11 : (List UInt8) → Option ((List UInt8) × Int)) (rec2 : (List UInt8) → Int → Option ((List UInt8) × Int)) (x4_l2 : List UInt8) (x5_l2 : Int) : Option ((List UInt8) × Int) :=
  if x5_l2 < (List.length a0 : Int) then (jn (fun (x4_j228 : List UInt8) => rec2 x4_j228 (i64 (x5_l2 + 1))) (fun k228 => if x5_l2 = 0 then (need ((0 : Int) ≤ 0 ∧ 0 < (List.length a0 : Int)) (need ((0 : Int) ≤ 0 ∧ 0 < (List.length a0 : Int)) (bnd1 (m_ref23_Uvarint x4_l2 ((gi a0 0).1)) (fun y252 => bnd1 (m_ref23_Uvarint y252 ((gi a0 0).2)) (fun y254 => k228 y254))))) else (need ((0 : Int) ≤ x5_l2 ∧ x5_l2 < (List.length a0 : Int)) (need ((0 : Int) ≤ i64 (x5_l2 - 1) ∧ (i64 (x5_l2 - 1)) < (List.length a0 : Int)) (if ((gi a0 x5_l2).1) = ((gi a0 (i64 (x5_l2 - 1))).1) then (need ((0 : Int) ≤ x5_l2 ∧ x5_l2 < (List.length a0 : Int)) (need ((0 : Int) ≤ i64 (x5_l2 - 1) ∧ (i64 (x5_l2 - 1)) < (List.length a0 : Int)) (bnd1 (m_ref23_Uvarint x4_l2 0) (fun y260 => bnd1 (m_ref23_Uvarint y260 (i64 ((i64 (((gi a0 x5_l2).2) - ((gi a0 (i64 (x5_l2 - 1))).2))) - 1))) (fun y262 => k228 y262))))) else (need ((0 : Int) ≤ x5_l2 ∧ x5_l2 < (List.length a0 : Int)) (need ((0 : Int) ≤ i64 (x5_l2 - 1) ∧ (i64 (x5_l2 - 1)) < (List.length a0 : Int)) (need ((0 : Int) ≤ x5_l2 ∧ x5_l2 < (List.length a0 : Int)) (bnd1 (m_ref23_Uvarint x4_l2 (i64 (((gi a0 x5_l2).1) - ((gi a0 (i64 (x5_l2 - 1))).1)))) (fun y267 => bnd1 (m_ref23_Uvarint y267 ((gi a0 x5_l2).2)) (fun y269 => k228 y269))))))))))) else (k11 x4_l2)
noncomputable def m_ref35_EncodeBlock_L2 (a0 : List (Int × Int)) (k11 : (List UInt8) → Option ((List UInt8) × Int)) : Nat → (List UInt8) → Int → Option ((List UInt8) × Int)
  | 0, _, _ => none
  | n + 1, x4_l2, x5_l2 => m_ref35_EncodeBlock_B2 a0 k11 (m_ref35_EncodeBlock_L2 a0 k11 n) x4_l2 x5_l2
noncomputable def m_ref35_EncodeBlock (a0 : List (Int × Int)) : Option ((List UInt8) × Int) :=
  jn (fun (x18_j5 : Bool) => if x18_j5 then (some ([], 1)) else (bnd1 (m_ref23_Uvarint [] (List.length a0 : Int)) (fun y9 => jn (fun (x4_j11 : List UInt8) => bnd1 (m_ref23_Sealed x4_j11) (fun y271 => some (y271, 0))) (fun k11 => m_ref35_EncodeBlock_L2 a0 k11 FU y9 0)))) (fun k5 => bnd1 (m_ref35_IsRun a0) (fun y7 => if !y7 then (k5 true) else (if (List.length a0 : Int) < 1 then (k5 true) else (k5 (decide (1024 < (List.length a0 : Int)))))))
/- cspcheck.cspcheckref35.DecodeBlock -/
/- cspcheck.cspchecklaw36.same -/
noncomputable def m_law36_same_B2 (a0 : List (Int × Int)) (a1 : List (Int × Int)) (k1 : Unit → Option Bool) (rec2 : Int → Option Bool) (x5_l2 : Int) : Option Bool :=
  if x5_l2 < (List.length a0 : Int) then (need ((0 : Int) ≤ x5_l2 ∧ x5_l2 < (List.length a0 : Int)) (need ((0 : Int) ≤ x5_l2 ∧ x5_l2 < (List.length a1 : Int)) (if ¬ (gi a0 x5_l2) = (gi a1 x5_l2) then (some false) else (rec2 (i64 (x5_l2 + 1)))))) else (k1 ())
noncomputable def m_law36_same_L2 (a0 : List (Int × Int)) (a1 : List (Int × Int)) (k1 : Unit → Option Bool) : Nat → Int → Option Bool
  | 0, _ => none
  | n + 1, x5_l2 => m_law36_same_B2 a0 a1 k1 (m_law36_same_L2 a0 a1 k1 n) x5_l2
noncomputable def m_law36_same (a0 : List (Int × Int)) (a1 : List (Int × Int)) : Option Bool :=
  if ¬ (List.length a0 : Int) = (List.length a1 : Int) then (some false) else (jn (fun (_ : Unit) => some true) (fun k1 => m_law36_same_L2 a0 a1 k1 FU 0))
/- cspcheck.cspcheckref35.Subtract -/
/- cspcheck.cspcheckref35.Merge -/
/- slices.BinarySearchFunc(()(2)int,(2)int,(2)int) -/
/- cspcheck.frontier.Subtract -/
/- cspcheck.frontier.EncodeBlock -/
noncomputable def m_frontier_EncodeBlock (a0 : List (Int × Int)) : Option ((List UInt8) × Int) :=
  bnd1 (m_frontier_isBlock a0) (fun y1 => if !y1 then (some ([], 1)) else (bnd1 (m_frontier_encode a0) (fun y2 => some (y2, 0))))
/- cspcheck.cspchecklaw36.sane -/
noncomputable def m_law36_sane  : Option Bool :=
  bnd1 (m_frontier_EncodeBlock [(0, 5), (0, 7), (2, 1)]) (fun y1 => jn (fun (x0_j2 : Bool) => some x0_j2) (fun k2 => if y1.2 = 0 then (if (List.length y1.1 : Int) = 11 then (need (7 ≤ (List.length y1.1 : Int)) (k2 (decide ((List.take (Int.toNat 7) y1.1) = [3, 0, 5, 0, 1, 2, 1])))) else (k2 false)) else (k2 false)))
/- (*cspcheck.cspcheckgen2.Tape).Next -/
/- cspcheck.cspchecklaw36.pairs -/
/- (*cspcheck.cspcheckgen2.Tape).Bytes -/
/- cspcheck.cspcheckgen2.New -/
/- cspcheck.cspchecklaw36.decodes -/
/- cspcheck.cspchecklaw36.run -/
/- cspcheck.cspchecklaw36.FrontierDecode -/
/- slices.Clone(()(2)int,(2)int) -/
noncomputable def m_slices_Clone_L_2_int_2_int (a0 : List (Int × Int)) : Option (List (Int × Int)) :=
  nilc (a0 = []) (some []) (need (List.length ([] : List (Int × Int)) + List.length a0 ≤ 137438953472) (some (([] : List (Int × Int)) ++ a0)))
/- slices.Compact(()(2)int,(2)int) -/
noncomputable def m_slices_Compact_L_2_int_2_int_B26 (a0 : List (Int × Int)) (x3_l14 : Int) (k694 : (List (Int × Int)) → Int → Option (List (Int × Int))) (rec26 : (List (Int × Int)) → Int → Int → Option (List (Int × Int))) (x0_l26 : List (Int × Int)) (x3_l26 : Int) (x5_l26 : Int) : Option (List (Int × Int)) :=
  if x5_l26 < ((Int.toNat (List.length a0 : Int) - Int.toNat x3_l14 : Nat) : Int) then (jn (fun (x0_j741 : List (Int × Int)) (x3_j741 : Int) => rec26 x0_j741 x3_j741 (i64 (x5_l26 + 1))) (fun k741 => need ((0 : Int) ≤ x3_l14 ∧ (0 : Int) ≤ x5_l26 ∧ x5_l26 < (List.length a0 : Int) - x3_l14 ∧ (0 : Int) ≤ (x3_l14 + x5_l26) ∧ (x3_l14 + x5_l26) < (List.length x0_l26 : Int)) (need ((0 : Int) ≤ x3_l14 ∧ (0 : Int) ≤ i64 (x5_l26 - 1) ∧ (i64 (x5_l26 - 1)) < (List.length a0 : Int) - x3_l14 ∧ (0 : Int) ≤ (x3_l14 + (i64 (x5_l26 - 1))) ∧ (x3_l14 + (i64 (x5_l26 - 1))) < (List.length x0_l26 : Int)) (if ¬ (gi x0_l26 (x3_l14 + x5_l26)) = (gi x0_l26 (x3_l14 + (i64 (x5_l26 - 1)))) then (need ((0 : Int) ≤ x3_l14 ∧ (0 : Int) ≤ x5_l26 ∧ x5_l26 < (List.length a0 : Int) - x3_l14 ∧ (0 : Int) ≤ (x3_l14 + x5_l26) ∧ (x3_l14 + x5_l26) < (List.length x0_l26 : Int)) (need ((0 : Int) ≤ x3_l26 ∧ x3_l26 < (List.length x0_l26 : Int)) (k741 (List.set x0_l26 (Int.toNat x3_l26) (gi x0_l26 (x3_l14 + x5_l26))) (i64 (x3_l26 + 1))))) else (k741 x0_l26 x3_l26))))) else (k694 x0_l26 x3_l26)
noncomputable def m_slices_Compact_L_2_int_2_int_L26 (a0 : List (Int × Int)) (x3_l14 : Int) (k694 : (List (Int × Int)) → Int → Option (List (Int × Int))) : Nat → (List (Int × Int)) → Int → Int → Option (List (Int × Int))
  | 0, _, _, _ => none
  | n + 1, x0_l26, x3_l26, x5_l26 => m_slices_Compact_L_2_int_2_int_B26 a0 x3_l14 k694 (m_slices_Compact_L_2_int_2_int_L26 a0 x3_l14 k694 n) x0_l26 x3_l26 x5_l26
noncomputable def m_slices_Compact_L_2_int_2_int_B14 (a0 : List (Int × Int)) (k1 : Unit → Option (List (Int × Int))) (rec14 : Int → Option (List (Int × Int))) (x3_l14 : Int) : Option (List (Int × Int)) :=
  if x3_l14 < (List.length a0 : Int) then (jn (fun (_ : Unit) => rec14 (i64 (x3_l14 + 1))) (fun k628 => need ((0 : Int) ≤ x3_l14 ∧ x3_l14 < (List.length a0 : Int)) (need ((0 : Int) ≤ i64 (x3_l14 - 1) ∧ (i64 (x3_l14 - 1)) < (List.length a0 : Int)) (if (gi a0 x3_l14) = (gi a0 (i64 (x3_l14 - 1))) then (need ((0 : Int) ≤ x3_l14 ∧ x3_l14 ≤ (List.length a0 : Int) ∧ (List.length a0 : Int) ≤ (List.length a0 : Int)) (jn (fun (x0_j694 : List (Int × Int)) (x3_j694 : Int) => need ((0 : Int) ≤ x3_j694 ∧ x3_j694 ≤ (List.length x0_j694 : Int) ∧ (List.length x0_j694 : Int) ≤ (List.length x0_j694 : Int)) (need (0 ≤ x3_j694 ∧ x3_j694 ≤ (List.length (List.take (Int.toNat x3_j694) x0_j694 ++ List.replicate (Int.toNat (List.length x0_j694 : Int) - Int.toNat x3_j694) ((0, 0) : Int × Int) ++ List.drop (Int.toNat x3_j694 + (Int.toNat (List.length x0_j694 : Int) - Int.toNat x3_j694)) x0_j694) : Int)) (some (List.take (Int.toNat x3_j694) (List.take (Int.toNat x3_j694) x0_j694 ++ List.replicate (Int.toNat (List.length x0_j694 : Int) - Int.toNat x3_j694) ((0, 0) : Int × Int) ++ List.drop (Int.toNat x3_j694 + (Int.toNat (List.length x0_j694 : Int) - Int.toNat x3_j694)) x0_j694))))) (fun k694 => m_slices_Compact_L_2_int_2_int_L26 a0 x3_l14 k694 FU a0 x3_l14 1))) else (k628 ()))))) else (k1 ())
noncomputable def m_slices_Compact_L_2_int_2_int_L14 (a0 : List (Int × Int)) (k1 : Unit → Option (List (Int × Int))) : Nat → Int → Option (List (Int × Int))
  | 0, _ => none
  | n + 1, x3_l14 => m_slices_Compact_L_2_int_2_int_B14 a0 k1 (m_slices_Compact_L_2_int_2_int_L14 a0 k1 n) x3_l14
noncomputable def m_slices_Compact_L_2_int_2_int (a0 : List (Int × Int)) : Option (List (Int × Int)) :=
  if (List.length a0 : Int) < 2 then (some a0) else (jn (fun (_ : Unit) => some a0) (fun k1 => m_slices_Compact_L_2_int_2_int_L14 a0 k1 FU 1))
/- cspcheck.frontier.Sorted -/
noncomputable def m_frontier_Sorted_B2 (a0 : List (Int × Int)) (k1 : Unit → Option (List (Int × Int))) (rec2 : Int → Option (List (Int × Int))) (x8_l2 : Int) : Option (List (Int × Int)) :=
  if x8_l2 < (List.length a0 : Int) then (need ((0 : Int) ≤ x8_l2 ∧ x8_l2 < (List.length a0 : Int)) (bnd1 (m_frontier_isPair ((gi a0 x8_l2).1, (gi a0 x8_l2).2)) (fun y20 => if !y20 then (some []) else (rec2 (i64 (x8_l2 + 1)))))) else (k1 ())
noncomputable def m_frontier_Sorted_L2 (a0 : List (Int × Int)) (k1 : Unit → Option (List (Int × Int))) : Nat → Int → Option (List (Int × Int))
  | 0, _ => none
  | n + 1, x8_l2 => m_frontier_Sorted_B2 a0 k1 (m_frontier_Sorted_L2 a0 k1 n) x8_l2
noncomputable def m_frontier_Sorted (a0 : List (Int × Int)) : Option (List (Int × Int)) :=
  jn (fun (_ : Unit) => bnd1 (m_slices_Clone_L_2_int_2_int a0) (fun y21 => bnd1 (m_sortP y21) (fun y23 => bnd1 (m_slices_Compact_L_2_int_2_int y23) (fun y24 => some y24)))) (fun k1 => m_frontier_Sorted_L2 a0 k1 FU 0)
/- slices.Grow(()(2)int,(2)int) -/
/- slices.Concat(()(2)int,(2)int) -/
/- cspcheck.frontier.Merge -/
/- cspcheck.cspchecklaw36.combines -/
/- cspcheck.cspchecklaw36.FrontierSets -/
/- cspcheck.cspchecklaw36.FrontierAlgebra -/
/- cspcheck.frontier.Write -/
noncomputable def m_frontier_Write_B2 (a1 : List UInt8) (a2 : List (Int × Int)) (a3 : Int) (k13 : Dk → Option (Int × Dk)) (rec2 : Dk → Int → Option (Int × Dk)) (x0d_l2 : Dk) (x10_l2 : Int) : Option (Int × Dk) :=
  if x10_l2 < (List.length a2 : Int) then (need ((0 : Int) ≤ x10_l2 ∧ x10_l2 ≤ min (i64 (x10_l2 + a3)) (List.length a2 : Int) ∧ (min (i64 (x10_l2 + a3)) (List.length a2 : Int)) ≤ (List.length a2 : Int)) (bnd1 (m_frontier_encode (List.take (Int.toNat (min (i64 (x10_l2 + a3)) (List.length a2 : Int)) - Int.toNat x10_l2) (List.drop (Int.toNat x10_l2) a2))) (fun y36 => bnd1 (m_disk_Append x0d_l2 a1 y36) (fun y37 => if ¬ y37.1 = 0 then (some (y37.1, y37.2)) else (rec2 y37.2 (i64 (x10_l2 + a3))))))) else (k13 x0d_l2)
noncomputable def m_frontier_Write_L2 (a1 : List UInt8) (a2 : List (Int × Int)) (a3 : Int) (k13 : Dk → Option (Int × Dk)) : Nat → Dk → Int → Option (Int × Dk)
  | 0, _, _ => none
  | n + 1, x0d_l2, x10_l2 => m_frontier_Write_B2 a1 a2 a3 k13 (m_frontier_Write_L2 a1 a2 a3 k13 n) x0d_l2 x10_l2
noncomputable def m_frontier_Write (a0 : Dk) (a1 : List UInt8) (a2 : List (Int × Int)) (a3 : Int) : Option (Int × Dk) :=
  jn (fun (x23_j5 : Bool) => if x23_j5 then (some (1, a0)) else (jn (fun (x0d_j8 : Dk) => jn (fun (x0d_j13 : Dk) => bnd1 (m_disk_Sync x0d_j13 a1) (fun y39 => some (y39.1, y39.2))) (fun k13 => m_frontier_Write_L2 a1 a2 a3 k13 FU x0d_j8 0)) (fun k8 => if (List.length a2 : Int) = 0 then (bnd1 (m_disk_Append a0 a1 ([] : List UInt8)) (fun y11 => if ¬ y11.1 = 0 then (some (y11.1, y11.2)) else (k8 y11.2))) else (k8 a0)))) (fun k5 => bnd1 (m_frontier_isRun a2) (fun y7 => if !y7 then (k5 true) else (if a3 < 1 then (k5 true) else (k5 (decide (1024 < a3))))))
/- cspcheck.frontier.read -/
noncomputable def m_frontier_read_B2 (y1 : (List UInt8) × Int × Dk) (k3 : Int → (List (Int × Int)) → Int → Option ((List (Int × Int)) × Int × Int × Dk)) (rec2 : Int → (List (Int × Int)) → Int → Int → Option ((List (Int × Int)) × Int × Int × Dk)) (x8_l2 : Int) (x9_l2 : List (Int × Int)) (x10_l2 : Int) (x11_l2 : Int) : Option ((List (Int × Int)) × Int × Int × Dk) :=
  jn (fun (x26_j175 : Bool) => if x26_j175 then (bnd1 (m_frontier_DecodeBlock y1.1 x11_l2) (fun y195 => jn (fun (x8_j196 : Int) => need (List.length x9_l2 + List.length y195.1 ≤ 137438953472) (rec2 x8_j196 (x9_l2 ++ y195.1) (i64 (x10_l2 + 1)) y195.2.1)) (fun k196 => jn (fun (x55_j204 : Bool) => if x55_j204 then (k196 22) else (k196 y195.2.2)) (fun k204 => if y195.2.2 = 0 then (if 0 < (List.length x9_l2 : Int) then (need ((0 : Int) ≤ 0 ∧ 0 < (List.length y195.1 : Int)) (need ((0 : Int) ≤ i64 ((List.length x9_l2 : Int) - 1) ∧ (i64 ((List.length x9_l2 : Int) - 1)) < (List.length x9_l2 : Int)) (bnd1 (m_frontier_compare (gi x9_l2 (i64 ((List.length x9_l2 : Int) - 1))) (gi y195.1 0)) (fun y210 => k204 (decide (0 ≤ y210)))))) else (k204 false)) else (k204 false))))) else (k3 x8_l2 x9_l2 x10_l2)) (fun k175 => if x8_l2 = 0 then (k175 (decide (x11_l2 < (List.length y1.1 : Int)))) else (k175 false))
noncomputable def m_frontier_read_L2 (y1 : (List UInt8) × Int × Dk) (k3 : Int → (List (Int × Int)) → Int → Option ((List (Int × Int)) × Int × Int × Dk)) : Nat → Int → (List (Int × Int)) → Int → Int → Option ((List (Int × Int)) × Int × Int × Dk)
  | 0, _, _, _, _ => none
  | n + 1, x8_l2, x9_l2, x10_l2, x11_l2 => m_frontier_read_B2 y1 k3 (m_frontier_read_L2 y1 k3 n) x8_l2 x9_l2 x10_l2 x11_l2
noncomputable def m_frontier_read (a0 : Dk) (a1 : List UInt8) : Option ((List (Int × Int)) × Int × Int × Dk) :=
  bnd1 (m_disk_Read a0 a1) (fun y1 => jn (fun (x8_j3 : Int) (x9_j3 : List (Int × Int)) (x10_j3 : Int) => if ¬ x8_j3 = 0 then (some ([], 0, x8_j3, y1.2.2)) else (some (x9_j3, x10_j3, 0, y1.2.2))) (fun k3 => m_frontier_read_L2 y1 k3 FU y1.2.1 [] 0 0))
/- cspcheck.frontier.Blocks -/
noncomputable def m_frontier_Blocks (a0 : Dk) (a1 : List UInt8) : Option (Int × Int × Dk) :=
  bnd1 (m_frontier_read a0 a1) (fun y1 => some (y1.2.1, y1.2.2.1, y1.2.2.2))
/- cspcheck.cspchecklaw36.FrontierExamples -/
noncomputable def m_law36_FrontierExamples  : Option Bool :=
  bnd1 (m_disk_New 1000) (fun y1 => bnd1 (m_frontier_Write y1.1 [114] [(0, 1), (0, 2), (1, 0), (1, 1), (7, 300)] 2) (fun y3 => bnd1 (m_frontier_Blocks y3.2 [114]) (fun y5 => jn (fun (x0_j7 : Bool) => some x0_j7) (fun k7 => if y3.1 = 0 then (if y5.2.1 = 0 then (if y5.1 = 3 then (bnd1 (m_disk_Writes y5.2.2) (fun y13 => if y13.1 = 4 then (bnd1 (m_frontier_Sorted [(2, 1), (0, 5), (2, 1)]) (fun y15 => bnd1 (m_law36_same y15 [(0, 5), (2, 1)]) (fun y16 => if y16 then (bnd1 (m_law36_sane) (fun y17 => k7 y17)) else (k7 false)))) else (k7 false))) else (k7 false)) else (k7 false)) else (k7 false)))))
/- cspcheck.frontier.Read -/
/- cspcheck.cspchecklaw36.FrontierRoundTrip -/
end Go.Proofs.Ytkplmgdmkfgjhaa
/- Laws of the words of the models, and of bytes: no program in sight. -/
namespace Go.Proofs.Ytkplmgdmkfgjhaa

theorem jn_eq {κ ρ : Type} (k : κ) (m : κ → ρ) : jn k m = m k := by
  have h : jn k m = m k := rfl
  exact h
theorem bnd1_mk {α ρ : Type} (a : α) (k : α → Option ρ) : bnd1 (some a) k = k a := by
  have h : bnd1 (some a) k = k a := rfl
  exact h
theorem FU_ge : 18446744073709551616 ≤ FU := Nat.le_refl _
theorem wrap_i64 (x : Int) (h : -9223372036854775808 ≤ x ∧ x ≤ 9223372036854775807) : IntKind.i64.wrap x = x := i64_id h
theorem wrap_u32 (x : Int) : IntKind.u32.wrap x = x % 4294967296 := by
  unfold IntKind.wrap IntKind.bits IntKind.signed
  simp
theorem u8i_nat (n : Nat) : (u8i (n : Int)).toNat = n % 256 := by
  have := u8i_eq (n : Int)
  rw [wrap_u8n] at this
  omega
theorem bv_nat (w : Nat) (m : Nat) (h : m < 2 ^ w) : (BitVec.ofInt w (m : Int)).toNat = m := by
  rw [BitVec.toNat_ofInt]
  have h1 : ((m : Int) % (2 ^ w : Nat)) = (m : Int) := Int.emod_eq_of_lt (by omega) (by exact_mod_cast h)
  rw [h1]; rfl
theorem bAnd_nat (m k : Nat) (hm : m < 2 ^ 63) (hk : k < 2 ^ 63) : bAnd .i64 (m : Int) (k : Int) = ((m &&& k : Nat) : Int) := by
  unfold bAnd
  rw [BitVec.toNat_and, show IntKind.i64.bits = 64 from rfl, bv_nat 64 m (by omega), bv_nat 64 k (by omega), wrap_i64]
  have := Nat.and_le_left (n := m) (m := k)
  omega
theorem bOr_nat (m k : Nat) (hm : m < 2 ^ 63) (hk : k < 2 ^ 63) : bOr .i64 (m : Int) (k : Int) = ((m ||| k : Nat) : Int) := by
  unfold bOr
  rw [BitVec.toNat_or, show IntKind.i64.bits = 64 from rfl, bv_nat 64 m (by omega), bv_nat 64 k (by omega), wrap_i64]
  have := Nat.or_lt_two_pow hm hk
  omega
theorem bAnd32_nat (m k : Nat) (hm : m < 2 ^ 32) (hk : k < 2 ^ 32) : bAnd .u32 (m : Int) (k : Int) = ((m &&& k : Nat) : Int) := by
  unfold bAnd
  rw [BitVec.toNat_and, show IntKind.u32.bits = 32 from rfl, bv_nat 32 m (by omega), bv_nat 32 k (by omega), wrap_u32]
  have := Nat.and_le_left (n := m) (m := k)
  omega
theorem bXor_range (x y : Int) : 0 ≤ bXor .u32 x y ∧ bXor .u32 x y < 4294967296 := by
  unfold bXor; rw [wrap_u32]; omega
/-- A further seven bits. -/
theorem bOr_shift (x y s : Nat) (hx : x < 2 ^ s) (hy : y < 128) (hs : s ≤ 28) : bOr .i64 (x : Int) ((y * 2 ^ s : Nat) : Int) = ((x + y * 2 ^ s : Nat) : Int) := by
  have h2 : 2 ^ s ≤ 2 ^ 28 := Nat.pow_le_pow_right (by omega) hs
  have h3 : y * 2 ^ s ≤ 127 * 2 ^ 28 := Nat.mul_le_mul (by omega) h2
  rw [bOr_nat _ _ (by omega) (by omega)]
  have := Nat.two_pow_add_eq_or_of_lt hx y
  rw [Nat.mul_comm] at this
  rw [Nat.or_comm, ← this, Nat.add_comm]
theorem and_127 (m : Nat) : m &&& 127 = m % 128 := Nat.and_two_pow_sub_one_eq_mod m 7
theorem u8_and127 (b : UInt8) : (b &&& 127).toNat = b.toNat % 128 := by
  rw [UInt8.toNat_and]; exact and_127 _
theorem u8_lt128 (b : UInt8) : b < 128 ↔ b.toNat < 128 := by rw [UInt8.lt_iff_toNat_lt]; rfl
end Go.Proofs.Ytkplmgdmkfgjhaa
/- Runs of pairs: the two tests agree. -/
namespace Go.Proofs.Ytkplmgdmkfgjhaa
attribute [local irreducible] FU

def OkP (p : Int × Int) : Prop := 0 ≤ p.1 ∧ p.1 ≤ 2147483647 ∧ 0 ≤ p.2 ∧ p.2 ≤ 2147483647
def LtP (p q : Int × Int) : Prop := p.1 < q.1 ∨ (p.1 = q.1 ∧ p.2 < q.2)
instance (p : Int × Int) : Decidable (OkP p) := inferInstanceAs (Decidable (_ ∧ _))
instance (p q : Int × Int) : Decidable (LtP p q) := inferInstanceAs (Decidable (_ ∨ _))
theorem FU_k (k : Nat) (h : k ≤ 4611686018427387904) : ∃ n, FU = n + k := ⟨FU - k, by have := FU_ge; omega⟩

theorem fIsPair (p : Int × Int) : m_frontier_isPair p = some (decide (OkP p)) := by
  unfold m_frontier_isPair OkP
  simp only [jn_eq]
  by_cases h1 : 0 ≤ p.1 <;> by_cases h2 : 0 ≤ p.2 <;> by_cases h3 : p.1 ≤ 2147483647 <;> simp [h1, h2, h3]
theorem rIsPair (p : Int × Int) : m_ref35_isPair p = some (decide (OkP p)) := by
  unfold m_ref35_isPair OkP
  simp only [jn_eq]
  by_cases h1 : 0 ≤ p.1 <;> by_cases h2 : 0 ≤ p.2 <;> by_cases h3 : p.1 ≤ 2147483647 <;> simp [h1, h2, h3]
theorem rLess (p q : Int × Int) : m_ref35_Less p q = some (decide (LtP p q)) := by
  unfold m_ref35_Less LtP
  simp only [jn_eq]
  by_cases h1 : p.1 < q.1 <;> by_cases h2 : p.1 = q.1 <;> simp [h1, h2]
theorem cCmp (a b : Int) : m_cmp_Compare_int a b = some (if a < b then -1 else if b < a then 1 else 0) := by
  unfold m_cmp_Compare_int m_cmp_isNaN_int
  simp only [bnd1_mk]
  by_cases h1 : a < b <;> by_cases h2 : b < a <;> simp [h1, h2]
theorem fCompare (p q : Int × Int) : m_frontier_compare p q = some (if LtP p q then -1 else if p = q then 0 else 1) := by
  obtain ⟨p1, p2⟩ := p
  obtain ⟨q1, q2⟩ := q
  unfold m_frontier_compare m_slices_Compare_L_int_int LtP
  obtain ⟨n, hn⟩ := FU_k 3 (by omega)
  rw [hn]
  have w1 : i64 (0 + 1) = 1 := rfl
  have w2 : i64 (1 + 1) = 2 := rfl
  have g0 : ∀ a b : Int, gi [a, b] 0 = a := fun _ _ => rfl
  have g1 : ∀ a b : Int, gi [a, b] 1 = b := fun _ _ => rfl
  simp only [jn_eq, m_slices_Compare_L_int_int_L2, m_slices_Compare_L_int_int_B2, cCmp, bnd1_mk, List.length_cons, List.length_nil, w1, w2, g0, g1]
  rcases Int.lt_trichotomy p1 q1 with h | h | h
  · simp [h, need, bnd1_mk]
  · subst h
    rcases Int.lt_trichotomy p2 q2 with h | h | h
    · simp [h, need, bnd1_mk]
    · subst h; simp [need, bnd1_mk]
    · have h1 : ¬ p2 < q2 := by omega
      have h2 : ¬ p2 = q2 := by omega
      simp [h, h1, h2, need, bnd1_mk]
  · have h1 : ¬ p1 < q1 := by omega
    have h2 : ¬ p1 = q1 := by omega
    simp [h, h1, h2, need, bnd1_mk]

/-- Run from place k on. -/
def RunFrom (l : List (Int × Int)) (k : Nat) : Prop := ∀ i : Nat, k ≤ i → i < l.length → OkP (gi l (i : Int)) ∧ (0 < i → LtP (gi l ((i : Int) - 1)) (gi l (i : Int)))
abbrev Run (l : List (Int × Int)) : Prop := RunFrom l 0

theorem run_loop (l : List (Int × Int)) (hl : l.length ≤ 1099511627776) : ∀ (m i n1 n2 : Nat), i + m = l.length → m < n1 → m < n2 →
    ∃ b : Bool, m_frontier_isRun_L2 l (fun _ => some true) n1 i = some b ∧ m_ref35_IsRun_L2 l (fun _ => some true) n2 i = some b ∧ (b = true ↔ RunFrom l i) := by
  intro m
  induction m with
  | zero =>
    intro i n1 n2 hi h1 h2
    obtain ⟨n1, rfl⟩ : ∃ n, n1 = n + 1 := ⟨n1 - 1, by omega⟩
    obtain ⟨n2, rfl⟩ : ∃ n, n2 = n + 1 := ⟨n2 - 1, by omega⟩
    obtain rfl : i = l.length := by omega
    exact ⟨true, by simp [m_frontier_isRun_L2, m_frontier_isRun_B2], by simp [m_ref35_IsRun_L2, m_ref35_IsRun_B2], ⟨fun _ j h1 h2 => by omega, fun _ => rfl⟩⟩
  | succ m ih =>
    intro i n1 n2 hi h1 h2
    obtain ⟨n1, rfl⟩ : ∃ n, n1 = n + 1 := ⟨n1 - 1, by omega⟩
    obtain ⟨n2, rfl⟩ : ∃ n, n2 = n + 1 := ⟨n2 - 1, by omega⟩
    have hi8 : (i : Int) < (l.length : Int) := by omega
    have e5 : i64 ((i : Int) + 1) = ((i + 1 : Nat) : Int) := by rw [i64_id (by omega)]; omega
    have e6 : i64 ((i : Int) - 1) = (i : Int) - 1 := i64_id (by omega)
    rw [m_frontier_isRun_L2, m_ref35_IsRun_L2, m_frontier_isRun_B2, m_ref35_IsRun_B2, if_pos hi8, if_pos hi8]
    have hin : (0 : Int) ≤ (i : Int) ∧ (i : Int) < (l.length : Int) := by omega
    simp only [jn_eq, e5, e6, fIsPair, rIsPair, fCompare, rLess, bnd1_mk, need_pos hin]
    obtain ⟨b, r1, r2, r3⟩ := ih (i + 1) n1 n2 (by omega) (by omega) (by omega)
    have hstep : RunFrom l i ↔ (OkP (gi l (i : Int)) ∧ (0 < i → LtP (gi l ((i : Int) - 1)) (gi l (i : Int)))) ∧ RunFrom l (i + 1) := by
      constructor
      · intro h
        exact ⟨h i (Nat.le_refl _) (by omega), fun j hj => h j (by omega)⟩
      · intro h j hj hjl
        by_cases hji : j = i
        · subst hji; exact h.1
        · exact h.2 j (by omega) hjl
    by_cases hp : OkP (gi l (i : Int))
    · have hp1 : OkP ((gi l (i : Int)).1, (gi l (i : Int)).2) := hp
      simp only [hp, hp1, decide_true, Bool.not_true, Bool.false_eq_true, if_false]
      by_cases h0 : 0 < (i : Int)
      · have hpr : (0 : Int) ≤ (i : Int) - 1 ∧ (i : Int) - 1 < (l.length : Int) := by omega
        simp only [if_pos h0, need_pos hpr]
        by_cases hlt : LtP (gi l ((i : Int) - 1)) (gi l (i : Int))
        · have hlt1 : LtP (gi l ((i : Int) - 1)) ((gi l (i : Int)).1, (gi l (i : Int)).2) := hlt
          refine ⟨b, ?_, ?_, ?_⟩
          · rw [← r1]; simp [hlt1]
          · rw [← r2]; simp [hlt]
          rw [hstep, r3]
          exact ⟨fun h => ⟨⟨hp, fun _ => hlt⟩, h⟩, fun h => h.2⟩
        · have hlt1 : ¬ LtP (gi l ((i : Int) - 1)) ((gi l (i : Int)).1, (gi l (i : Int)).2) := hlt
          have hge : (0 : Int) ≤ (if LtP (gi l ((i : Int) - 1)) (gi l (i : Int)) then -1 else if (gi l ((i : Int) - 1)) = (gi l (i : Int)) then 0 else 1) := by
            rw [if_neg hlt]; split <;> omega
          refine ⟨false, ?_, by simp [hlt], by simp; intro h; exact hlt ((hstep.1 h).1.2 (by omega))⟩
          rw [show ((gi l (i : Int)).1, (gi l (i : Int)).2) = gi l (i : Int) from rfl]
          simp [hge]
      · simp only [if_neg h0, Bool.false_eq_true, if_false]
        refine ⟨b, r1, r2, ?_⟩
        rw [hstep, r3]
        exact ⟨fun h => ⟨⟨hp, fun hh => absurd (by omega) h0⟩, h⟩, fun h => h.2⟩
    · have hp1 : ¬ OkP ((gi l (i : Int)).1, (gi l (i : Int)).2) := hp
      refine ⟨false, by simp [hp], by simp [hp], by simp; intro h; exact hp (hstep.1 h).1.1⟩

theorem run_agree (l : List (Int × Int)) (hl : l.length ≤ 1099511627776) : ∃ b : Bool, m_frontier_isRun l = some b ∧ m_ref35_IsRun l = some b ∧ (b = true ↔ Run l) := by
  have := FU_ge
  obtain ⟨b, r1, r2, r3⟩ := run_loop l hl l.length 0 FU FU (by omega) (by omega) (by omega)
  exact ⟨b, by unfold m_frontier_isRun; rw [jn_eq]; exact r1, by unfold m_ref35_IsRun; rw [jn_eq]; exact r2, r3⟩
end Go.Proofs.Ytkplmgdmkfgjhaa
/- The two readings of a number agree. -/
namespace Go.Proofs.Ytkplmgdmkfgjhaa
attribute [local irreducible] FU

end Go.Proofs.Ytkplmgdmkfgjhaa
/- The sums and the numbers' bytes: the two agree, and are there. -/
namespace Go.Proofs.Ytkplmgdmkfgjhaa
attribute [local irreducible] FU

theorem crc_inner (K K' : Int → Option Int) : ∀ (m i n1 n2 : Nat) (x : Int), i + m = 8 → 0 ≤ x → x < 4294967296 → m < n1 → m < n2 →
    ∃ y, 0 ≤ y ∧ y < 4294967296 ∧ m_codec_Checksum_L14 K n1 x i = K y ∧ m_ref23_Checksum_L14 K' n2 x i = K' y := by
  intro m
  induction m with
  | zero =>
    intro i n1 n2 x hi h0 h1 h2 h3
    obtain ⟨n1, rfl⟩ : ∃ n, n1 = n + 1 := ⟨n1 - 1, by omega⟩
    obtain ⟨n2, rfl⟩ : ∃ n, n2 = n + 1 := ⟨n2 - 1, by omega⟩
    obtain rfl : i = 8 := by omega
    exact ⟨x, h0, h1, by simp [m_codec_Checksum_L14, m_codec_Checksum_B14], by simp [m_ref23_Checksum_L14, m_ref23_Checksum_B14]⟩
  | succ m ih =>
    intro i n1 n2 x hi h0 h1 h2 h3
    obtain ⟨n1, rfl⟩ : ∃ n, n1 = n + 1 := ⟨n1 - 1, by omega⟩
    obtain ⟨n2, rfl⟩ : ∃ n, n2 = n + 1 := ⟨n2 - 1, by omega⟩
    have hi8 : (i : Int) < 8 := by omega
    rw [m_codec_Checksum_L14, m_ref23_Checksum_L14, m_codec_Checksum_B14, m_ref23_Checksum_B14, if_pos hi8, if_pos hi8, jn_eq, jn_eq]
    have e5 : i64 ((i : Int) + 1) = ((i + 1 : Nat) : Int) := by rw [i64_id (by omega)]; omega
    obtain ⟨z, rfl⟩ : ∃ z : Nat, x = z := ⟨x.toNat, by omega⟩
    have ha : bAnd .u32 (z : Int) 1 = ((z % 2 : Nat) : Int) := by
      rw [show (1 : Int) = ((1 : Nat) : Int) from rfl, bAnd32_nat z 1 (by omega) (by omega), Nat.and_one_is_mod]
    have hd : Int.fdiv (z : Int) (2 ^ min (Int.toNat 1) IntKind.u32.bits) = ((z / 2 : Nat) : Int) := by
      rw [show min (Int.toNat 1) IntKind.u32.bits = 1 from rfl, Int.fdiv_eq_ediv_of_nonneg _ (by omega)]; omega
    have ht : Int.tmod (z : Int) 2 = ((z % 2 : Nat) : Int) := rfl
    simp only [ha, hd, ht, e5]
    by_cases hz : z % 2 = 1
    · rw [if_pos (by omega), if_pos (by omega)]
      have hx := bXor_range ((z / 2 : Nat) : Int) 3988292384
      exact ih (i + 1) n1 n2 _ (by omega) hx.1 hx.2 (by omega) (by omega)
    · rw [if_neg (by omega), if_neg (by omega)]
      exact ih (i + 1) n1 n2 _ (by omega) (by omega) (by omega) (by omega) (by omega)

theorem crc_outer (xs : List UInt8) (hl : xs.length ≤ 1099511627776) (K K' : Int → Option Int) : ∀ (m i n1 n2 : Nat) (x : Int), i + m = xs.length → 0 ≤ x → x < 4294967296 → m < n1 → m < n2 →
    ∃ y, 0 ≤ y ∧ y < 4294967296 ∧ m_codec_Checksum_L8 xs K n1 x i = K y ∧ m_ref23_Checksum_L8 xs K' n2 x i = K' y := by
  have hFU := FU_ge
  intro m
  induction m with
  | zero =>
    intro i n1 n2 x hi h0 h1 h2 h3
    obtain ⟨n1, rfl⟩ : ∃ n, n1 = n + 1 := ⟨n1 - 1, by omega⟩
    obtain ⟨n2, rfl⟩ : ∃ n, n2 = n + 1 := ⟨n2 - 1, by omega⟩
    obtain rfl : i = xs.length := by omega
    exact ⟨x, h0, h1, by simp [m_codec_Checksum_L8, m_codec_Checksum_B8], by simp [m_ref23_Checksum_L8, m_ref23_Checksum_B8]⟩
  | succ m ih =>
    intro i n1 n2 x hi h0 h1 h2 h3
    obtain ⟨n1, rfl⟩ : ∃ n, n1 = n + 1 := ⟨n1 - 1, by omega⟩
    obtain ⟨n2, rfl⟩ : ∃ n, n2 = n + 1 := ⟨n2 - 1, by omega⟩
    have hi8 : (i : Int) < (xs.length : Int) := by omega
    rw [m_codec_Checksum_L8, m_ref23_Checksum_L8, m_codec_Checksum_B8, m_ref23_Checksum_B8, if_pos hi8, if_pos hi8, jn_eq, jn_eq, need_pos (by omega), need_pos (by omega)]
    have e5 : i64 ((i : Int) + 1) = ((i + 1 : Nat) : Int) := by rw [i64_id (by omega)]; omega
    simp only [e5]
    have hx := bXor_range x ((gi xs (i : Int)).toNat : Int)
    obtain ⟨y, hy0, hy1, r1, r2⟩ := crc_inner (fun x3 => m_codec_Checksum_L8 xs K n1 x3 ((i + 1 : Nat) : Int)) (fun x3 => m_ref23_Checksum_L8 xs K' n2 x3 ((i + 1 : Nat) : Int)) 8 0 FU FU _ rfl hx.1 hx.2 (by omega) (by omega)
    obtain ⟨w, hw0, hw1, q1, q2⟩ := ih (i + 1) n1 n2 y (by omega) hy0 hy1 (by omega) (by omega)
    exact ⟨w, hw0, hw1, r1.trans q1, r2.trans q2⟩

theorem crc_agree (xs : List UInt8) (hl : xs.length ≤ 1099511627776) : ∃ c, 0 ≤ c ∧ c < 4294967296 ∧ m_codec_Checksum xs = some c ∧ m_ref23_Checksum xs = some c := by
  have hFU := FU_ge
  obtain ⟨y, h0, h1, r1, r2⟩ := crc_outer xs hl (fun x => some (bXor .u32 4294967295 x)) (fun x => some (bXor .u32 4294967295 x)) xs.length 0 FU FU 4294967295 (by omega) (by omega) (by omega) (by omega) (by omega)
  have hx := bXor_range 4294967295 y
  exact ⟨_, hx.1, hx.2, by unfold m_codec_Checksum; rw [jn_eq]; exact r1, by unfold m_ref23_Checksum; rw [jn_eq]; exact r2⟩

theorem uv_loop (K K' : List UInt8 → Int → Option (List UInt8)) (L : Nat) (hL : L ≤ 1099511627)
    (hK : ∀ ys x, 0 ≤ x → x < 128 → ys.length ≤ L → K ys x = K' ys x ∧ ∃ r, K ys x = some r ∧ r.length ≤ ys.length + 1) :
    ∀ (m z n1 n2 : Nat) (ys : List UInt8), z < 2 ^ (7 * m) → m < n1 → m < n2 → z < 2 ^ 63 → ys.length + m ≤ L →
    m_codec_AppendUvarint_L2 K n1 ys (z : Int) = m_ref23_Uvarint_L2 K' n2 ys (z : Int) ∧ ∃ r, m_ref23_Uvarint_L2 K' n2 ys (z : Int) = some r ∧ r.length ≤ ys.length + m + 1 := by
  intro m
  induction m with
  | zero =>
    intro z n1 n2 ys hz h1 h2 h3 hy
    obtain ⟨n1, rfl⟩ : ∃ n, n1 = n + 1 := ⟨n1 - 1, by omega⟩
    obtain ⟨n2, rfl⟩ : ∃ n, n2 = n + 1 := ⟨n2 - 1, by omega⟩
    rw [m_codec_AppendUvarint_L2, m_ref23_Uvarint_L2, m_codec_AppendUvarint_B2, m_ref23_Uvarint_B2, if_neg (by omega), if_neg (by omega)]
    obtain ⟨k1, r, k2, k3⟩ := hK ys z (by omega) (by omega) (by omega)
    exact ⟨k1, r, k1 ▸ k2, by omega⟩
  | succ m ih =>
    intro z n1 n2 ys hz h1 h2 h3 hy
    obtain ⟨n1, rfl⟩ : ∃ n, n1 = n + 1 := ⟨n1 - 1, by omega⟩
    obtain ⟨n2, rfl⟩ : ∃ n, n2 = n + 1 := ⟨n2 - 1, by omega⟩
    rw [m_codec_AppendUvarint_L2, m_ref23_Uvarint_L2, m_codec_AppendUvarint_B2, m_ref23_Uvarint_B2]
    by_cases hc : 128 ≤ (z : Int)
    · rw [if_pos hc, if_pos hc]
      have hb : u8i (bOr .i64 (bAnd .i64 (z : Int) 127) 128) = u8i (i64 (Int.tmod (z : Int) 128 + 128)) := by
        rw [show (127 : Int) = ((127 : Nat) : Int) from rfl, bAnd_nat z 127 (by omega) (by omega), and_127, show (128 : Int) = ((128 : Nat) : Int) from rfl, bOr_nat _ 128 (by omega) (by omega), show Int.tmod (z : Int) ((128 : Nat) : Int) = ((z % 128 : Nat) : Int) from rfl, i64_id (by omega)]
        have := Nat.two_pow_add_eq_or_of_lt (i := 7) (b := z % 128) (by omega) 1
        rw [Nat.or_comm, show (128 : Nat) = 2 ^ 7 * 1 from rfl, ← this]
        congr 1; omega
      have hd : Int.fdiv (z : Int) (2 ^ min (Int.toNat 7) IntKind.i64.bits) = ((z / 128 : Nat) : Int) := by
        rw [show min (Int.toNat 7) IntKind.i64.bits = 7 from rfl, Int.fdiv_eq_ediv_of_nonneg _ (by omega)]; omega
      have ht : i64 (Int.tdiv (z : Int) 128) = ((z / 128 : Nat) : Int) := by
        rw [show Int.tdiv (z : Int) 128 = ((z / 128 : Nat) : Int) from rfl, i64_id (by omega)]
      rw [hb, hd, ht]
      have hlen : (ys ++ [u8i (i64 (Int.tmod (z : Int) 128 + 128))]).length = ys.length + 1 := by simp
      have hp : 2 ^ (7 * (m + 1)) = 2 ^ (7 * m) * 128 := by rw [Nat.mul_add, Nat.pow_add]
      rw [need_pos (by simp; omega), need_pos (by simp; omega)]
      obtain ⟨r1, r, r2, r3⟩ := ih (z / 128) n1 n2 _ (by omega) (by omega) (by omega) (by omega) (by rw [hlen]; omega)
      exact ⟨r1, r, r2, by omega⟩
    · rw [if_neg hc, if_neg hc]
      obtain ⟨k1, r, k2, k3⟩ := hK ys z (by omega) (by omega) (by omega)
      exact ⟨k1, r, k1 ▸ k2, by omega⟩

theorem uv_agree (ys : List UInt8) (x : Int) (h0 : 0 ≤ x) (h1 : x < 9223372036854775808) (hl : ys.length ≤ 1000000000) :
    ∃ r, m_codec_AppendUvarint ys x = some r ∧ m_ref23_Uvarint ys x = some r ∧ r.length ≤ ys.length + 11 := by
  have hFU := FU_ge
  obtain ⟨z, rfl⟩ : ∃ z : Nat, x = z := ⟨x.toNat, by omega⟩
  obtain ⟨r1, r, r2, r3⟩ := uv_loop (fun x0 x1 => need (List.length x0 + List.length [u8i x1] ≤ 137438953472) (some (x0 ++ [u8i x1]))) (fun x0 x1 => need (List.length x0 + List.length [u8i x1] ≤ 137438953472) (some (x0 ++ [u8i x1]))) 1099511627 (by omega)
    (fun ys x _ _ hy => ⟨rfl, ys ++ [u8i x], by rw [need_pos (by simp; omega)], by simp⟩) 10 z FU FU ys (by omega) (by omega) (by omega) (by omega) (by omega)
  refine ⟨r, ?_, ?_, by omega⟩
  · unfold m_codec_AppendUvarint; rw [jn_eq]; exact r1.trans r2
  · unfold m_ref23_Uvarint; rw [jn_eq]; exact r2

def sum4 (c : Int) : List UInt8 := [u8i (Int.fdiv c (2 ^ min (Int.toNat 24) IntKind.u32.bits)), u8i (Int.fdiv c (2 ^ min (Int.toNat 16) IntKind.u32.bits)), u8i (Int.fdiv c (2 ^ min (Int.toNat 8) IntKind.u32.bits)), u8i c]
theorem sum_agree (ys : List UInt8) (hl : ys.length ≤ 1000000000) : ∃ c, m_codec_Checksum ys = some c ∧ m_codec_AppendSum ys 0 = some (ys ++ sum4 c) ∧ m_ref23_Sealed ys = some (ys ++ sum4 c) := by
  obtain ⟨c, _, _, r1, r2⟩ := crc_agree ys (by omega)
  refine ⟨c, r1, ?_, ?_⟩
  · unfold m_codec_AppendSum
    rw [need_pos (by omega), show List.take (Int.toNat (ys.length : Int) - Int.toNat 0) (List.drop (Int.toNat 0) ys) = ys by simp, r1, bnd1_mk, need_pos (by simp; omega)]
    rfl
  · unfold m_ref23_Sealed
    rw [r2, bnd1_mk, need_pos (by simp; omega), need_pos (by simp; omega)]
    rfl
end Go.Proofs.Ytkplmgdmkfgjhaa
/- The encodings of a block agree. -/
namespace Go.Proofs.Ytkplmgdmkfgjhaa
attribute [local irreducible] FU

theorem enc_loop (l : List (Int × Int)) (hr : Run l) (hl : l.length ≤ 1024) (K : List UInt8 → Option (List UInt8)) (K' : List UInt8 → Option (List UInt8 × Int)) :
    ∀ (m i n1 n2 : Nat) (ys : List UInt8), i + m = l.length → m < n1 → m < n2 → ys.length + 22 * m ≤ 100000000 →
    ∃ r : List UInt8, r.length ≤ ys.length + 22 * m ∧ m_frontier_encode_L2 l K n1 ys i = K r ∧ m_ref35_EncodeBlock_L2 l K' n2 ys i = K' r := by
  intro m
  induction m with
  | zero =>
    intro i n1 n2 ys hi h1 h2 h3
    obtain ⟨n1, rfl⟩ : ∃ n, n1 = n + 1 := ⟨n1 - 1, by omega⟩
    obtain ⟨n2, rfl⟩ : ∃ n, n2 = n + 1 := ⟨n2 - 1, by omega⟩
    obtain rfl : i = l.length := by omega
    exact ⟨ys, by omega, by simp [m_frontier_encode_L2, m_frontier_encode_B2], by simp [m_ref35_EncodeBlock_L2, m_ref35_EncodeBlock_B2]⟩
  | succ m ih =>
    intro i n1 n2 ys hi h1 h2 h3
    obtain ⟨n1, rfl⟩ : ∃ n, n1 = n + 1 := ⟨n1 - 1, by omega⟩
    obtain ⟨n2, rfl⟩ : ∃ n, n2 = n + 1 := ⟨n2 - 1, by omega⟩
    have hi8 : (i : Int) < (l.length : Int) := by omega
    have e5 : i64 ((i : Int) + 1) = ((i + 1 : Nat) : Int) := by rw [i64_id (by omega)]; omega
    have e6 : i64 ((i : Int) - 1) = (i : Int) - 1 := i64_id (by omega)
    have hin : (0 : Int) ≤ (i : Int) ∧ (i : Int) < (l.length : Int) := by omega
    have hok := hr i (Nat.zero_le _) (by omega)
    rw [m_frontier_encode_L2, m_ref35_EncodeBlock_L2, m_frontier_encode_B2, m_ref35_EncodeBlock_B2, if_pos hi8, if_pos hi8]
    simp only [jn_eq, e5, e6, need_pos hin]
    have fin : ∀ r : List UInt8, r.length ≤ ys.length + 22 → ∃ s : List UInt8, s.length ≤ ys.length + 22 * (m + 1) ∧ m_frontier_encode_L2 l K n1 r ((i + 1 : Nat) : Int) = K s ∧ m_ref35_EncodeBlock_L2 l K' n2 r ((i + 1 : Nat) : Int) = K' s := by
      intro r hrl
      obtain ⟨s, s1, s2, s3⟩ := ih (i + 1) n1 n2 r (by omega) (by omega) (by omega) (by omega)
      exact ⟨s, by omega, s2, s3⟩
    obtain ⟨⟨o1, o2, o3, o4⟩, hlt⟩ := hok
    by_cases h0 : i = 0
    · subst h0
      have hin0 : (0 : Int) ≤ 0 ∧ (0 : Int) < (l.length : Int) := by omega
      simp only [Int.natCast_zero, Int.lt_irrefl, if_false, if_true, need_pos hin0, Bool.false_eq_true, Int.sub_zero] at *
      rw [i64_id (by omega)]
      obtain ⟨u, u1, u2, u3⟩ := uv_agree ys (gi l 0).1 (by omega) (by omega) (by omega)
      obtain ⟨v, v1, v2, v3⟩ := uv_agree u (gi l 0).2 (by omega) (by omega) (by omega)
      simp only [u1, u2, v1, v2, bnd1_mk]
      exact fin v (by omega)
    · have h0' : (0 : Int) < (i : Int) := by omega
      have h0'' : ¬ (i : Int) = 0 := by omega
      have hpr : (0 : Int) ≤ (i : Int) - 1 ∧ (i : Int) - 1 < (l.length : Int) := by omega
      have hlt := hlt (by omega)
      have hokp := (hr (i - 1) (Nat.zero_le _) (by omega)).1
      rw [show ((i - 1 : Nat) : Int) = (i : Int) - 1 by omega] at hokp
      obtain ⟨p1, p2, p3, p4⟩ := hokp
      simp only [if_pos h0', if_neg h0'', need_pos hpr]
      generalize gi l (i : Int) = c at *
      generalize gi l ((i : Int) - 1) = p at *
      obtain ⟨c1, c2⟩ := c
      obtain ⟨q1, q2⟩ := p
      simp only [LtP] at *
      have a1 : i64 (c1 - q1) = c1 - q1 := i64_id (by omega)
      have a2 : i64 (c2 - q2) = c2 - q2 := i64_id (by omega)
      have a3 : i64 (c2 - q2 - 1) = c2 - q2 - 1 := i64_id (by omega)
      simp only [a1, a2, a3]
      obtain ⟨u, u1, u2, u3⟩ := uv_agree ys (c1 - q1) (by omega) (by omega) (by omega)
      by_cases he : c1 = q1
      · subst he
        rw [Int.sub_self] at u1 u2
        obtain ⟨v, v1, v2, v3⟩ := uv_agree u (c2 - q2 - 1) (by omega) (by omega) (by omega)
        simp only [Int.sub_self, u1, u2, v1, v2, bnd1_mk, decide_true, if_true]
        exact fin v (by omega)
      · obtain ⟨v, v1, v2, v3⟩ := uv_agree u c2 (by omega) (by omega) (by omega)
        simp only [u1, u2, v1, v2, bnd1_mk, he, decide_false, Bool.false_eq_true, if_false]
        exact fin v (by omega)

theorem encode_agree (l : List (Int × Int)) (hr : Run l) (hl : l.length ≤ 1024) :
    ∃ r, m_frontier_encode l = some r ∧ r.length ≤ 30000 ∧ 4 ≤ r.length ∧
      bnd1 (m_ref23_Uvarint [] (List.length l : Int)) (fun y9 => jn (fun (x4_j11 : List UInt8) => bnd1 (m_ref23_Sealed x4_j11) (fun y271 => some (y271, 0))) (fun k11 => m_ref35_EncodeBlock_L2 l k11 FU y9 0)) = some (r, 0) := by
  have := FU_ge
  obtain ⟨u, u1, u2, u3⟩ := uv_agree [] (List.length l : Int) (by omega) (by omega) (by simp)
  simp only [List.length_nil] at u3
  obtain ⟨s, s1, s2, s3⟩ := enc_loop l hr hl (fun x3 => bnd1 (m_codec_AppendSum x3 0) (fun y => some y)) (fun x4 => bnd1 (m_ref23_Sealed x4) (fun y271 => some (y271, 0))) l.length 0 FU FU u (by omega) (by omega) (by omega) (by omega)
  obtain ⟨c, c1, c2, c3⟩ := sum_agree s (by omega)
  refine ⟨s ++ sum4 c, ?_, ?_, ?_, ?_⟩
  · unfold m_frontier_encode
    rw [u1, bnd1_mk, jn_eq]
    refine s2.trans ?_
    rw [c2, bnd1_mk]
  · simp [sum4]; omega
  · simp [sum4]
  · rw [u2, bnd1_mk, jn_eq]
    refine s3.trans ?_
    rw [c3, bnd1_mk]

theorem block_agree (l : List (Int × Int)) (hl : l.length ≤ 1099511627776) :
    ∃ b : Bool, m_frontier_isBlock l = some b ∧ (b = true ↔ Run l ∧ 1 ≤ l.length ∧ l.length ≤ 1024) ∧
      (b = true → ∃ r, m_frontier_encode l = some r ∧ r.length ≤ 30000 ∧ 4 ≤ r.length ∧ m_ref35_EncodeBlock l = some (r, 0)) ∧ (b = false → m_ref35_EncodeBlock l = some ([], 1)) := by
  obtain ⟨b, r1, r2, r3⟩ := run_agree l hl
  have hb : m_frontier_isBlock l = some (decide (1 ≤ l.length ∧ l.length ≤ 1024) && b) := by
    unfold m_frontier_isBlock
    simp only [jn_eq, r1, bnd1_mk]
    by_cases h1 : 1 ≤ l.length <;> by_cases h2 : l.length ≤ 1024
    · rw [if_pos (by omega), if_pos (by omega)]; simp [h1, h2]
    · rw [if_pos (by omega), if_neg (by omega)]; simp [h1, h2]
    · rw [if_neg (by omega)]; simp [h1, h2]
    · rw [if_neg (by omega)]; simp [h1, h2]
  refine ⟨_, hb, ?_, ?_, ?_⟩
  · rw [← r3]; simp; constructor <;> intro h <;> simp [h]
  · intro h
    simp at h
    obtain ⟨⟨h1, h2⟩, rfl⟩ := h
    obtain ⟨r, e1, e2, e2', e3⟩ := encode_agree l (r3.1 rfl) h2
    refine ⟨r, e1, e2, e2', ?_⟩
    unfold m_ref35_EncodeBlock
    simp only [jn_eq (κ := Bool → Option (List UInt8 × Int)), r2, bnd1_mk, Bool.not_true, Bool.false_eq_true, if_false]
    rw [if_neg (by omega)]
    rw [show decide ((1024 : Int) < (l.length : Int)) = false by simp; omega]
    exact e3
  · intro h
    unfold m_ref35_EncodeBlock
    simp only [jn_eq, r2, bnd1_mk]
    cases b
    · simp
    · simp only [Bool.not_true, Bool.false_eq_true, if_false]
      simp at h
      by_cases h1 : (l.length : Int) < 1
      · rw [if_pos h1, if_pos trivial]
      · rw [if_neg h1, show decide ((1024 : Int) < (l.length : Int)) = true by simp; omega, if_pos rfl]
end Go.Proofs.Ytkplmgdmkfgjhaa
/- The decodings of a block agree. -/
namespace Go.Proofs.Ytkplmgdmkfgjhaa
attribute [local irreducible] FU

theorem sealed_agree (t s : List UInt8) (hl : s.length = t.length + 4) (ht : s.take t.length = t) (hb : s.length ≤ 100000000) :
    ∃ (b : Bool) (q : List UInt8), m_codec_Sealed s = some b ∧ m_ref23_Sealed t = some q ∧ (b = true ↔ q = s) := by
  obtain ⟨c, c1, _, c3⟩ := sum_agree t (by omega)
  obtain ⟨d, hd⟩ : ∃ d, s = t ++ d := ⟨s.drop t.length, by conv => lhs; rw [← List.take_append_drop t.length s, ht]⟩
  subst hd
  have hdl : d.length = 4 := by simp at hl; exact hl
  obtain ⟨a0, a1, a2, a3, rfl⟩ : ∃ a0 a1 a2 a3, d = [a0, a1, a2, a3] := by
    match d, hdl with
    | [a0, a1, a2, a3], _ => exact ⟨a0, a1, a2, a3, rfl⟩
  have hb' : t.length + 4 ≤ 100000000 := by simpa using hb
  have e0 : i64 (((t ++ [a0, a1, a2, a3]).length : Int) - 4) = (t.length : Int) := by rw [i64_id] <;> simp <;> omega
  have e1 : i64 ((t.length : Int) + 1) = ((t.length + 1 : Nat) : Int) := by rw [i64_id] <;> omega
  have e2 : i64 ((t.length : Int) + 2) = ((t.length + 2 : Nat) : Int) := by rw [i64_id] <;> omega
  have e3 : i64 ((t.length : Int) + 3) = ((t.length + 3 : Nat) : Int) := by rw [i64_id] <;> omega
  have g0 : gi (t ++ [a0, a1, a2, a3]) (t.length : Int) = a0 := by rw [gi_nat (by simp)]; simp
  have g1 : gi (t ++ [a0, a1, a2, a3]) ((t.length + 1 : Nat) : Int) = a1 := by rw [gi_nat (by simp)]; simp
  have g2 : gi (t ++ [a0, a1, a2, a3]) ((t.length + 2 : Nat) : Int) = a2 := by rw [gi_nat (by simp)]; simp
  have g3 : gi (t ++ [a0, a1, a2, a3]) ((t.length + 3 : Nat) : Int) = a3 := by rw [gi_nat (by simp)]; simp
  have n0 : (0 : Int) ≤ (t.length : Int) ∧ (t.length : Int) ≤ ((t ++ [a0, a1, a2, a3]).length : Int) := by simp; omega
  have n1 : (0 : Int) ≤ (t.length : Int) ∧ (t.length : Int) < ((t ++ [a0, a1, a2, a3]).length : Int) := by simp; omega
  have n2 : (0 : Int) ≤ ((t.length + 1 : Nat) : Int) ∧ ((t.length + 1 : Nat) : Int) < ((t ++ [a0, a1, a2, a3]).length : Int) := by rw [List.length_append]; simp only [List.length_cons, List.length_nil]; omega
  have n3 : (0 : Int) ≤ ((t.length + 2 : Nat) : Int) ∧ ((t.length + 2 : Nat) : Int) < ((t ++ [a0, a1, a2, a3]).length : Int) := by rw [List.length_append]; simp only [List.length_cons, List.length_nil]; omega
  have n4 : (0 : Int) ≤ ((t.length + 3 : Nat) : Int) ∧ ((t.length + 3 : Nat) : Int) < ((t ++ [a0, a1, a2, a3]).length : Int) := by rw [List.length_append]; simp only [List.length_cons, List.length_nil]; omega
  refine ⟨decide (sum4 c = [a0, a1, a2, a3]), t ++ sum4 c, ?_, c3, by simp⟩
  unfold m_codec_Sealed
  simp only [jn_eq, e0, e1, e2, e3, g0, g1, g2, g3, need_pos n0, need_pos n1, need_pos n2, need_pos n3, need_pos n4]
  rw [if_neg (by omega), show List.take (Int.toNat (t.length : Int)) (t ++ [a0, a1, a2, a3]) = t by simp, c1, bnd1_mk]
  simp only [sum4, List.cons.injEq, and_true]
  generalize u8i (Int.fdiv c (2 ^ min (Int.toNat 24) IntKind.u32.bits)) = z0
  generalize u8i (Int.fdiv c (2 ^ min (Int.toNat 16) IntKind.u32.bits)) = z1
  generalize u8i (Int.fdiv c (2 ^ min (Int.toNat 8) IntKind.u32.bits)) = z2
  generalize u8i c = z3
  by_cases h0 : a0 = z0
  · by_cases h1 : a1 = z1
    · by_cases h2 : a2 = z2
      · simp [h0, h1, h2, eq_comm]
      · simp [h0, h1, h2, Ne.symm h2]
    · simp [h0, h1, Ne.symm h1]
  · simp [h0, Ne.symm h0]

theorem dec_exit_f (xs : List UInt8) (y : Int × Int × Int) (K) (n : Nat) (x8 x9 : Int) (x10 : List (Int × Int)) (x11 : Int) (h : x9 ≠ 0 ∨ ¬ x11 < y.1) : m_frontier_DecodeBlock_L14 xs y K (n + 1) x8 x9 x10 x11 = K x8 x9 x10 := by
  rw [m_frontier_DecodeBlock_L14, m_frontier_DecodeBlock_B14]
  simp only [jn_eq]
  by_cases h1 : x11 < y.1
  · simp [h1, (by rcases h with h | h; exact h; exact absurd h1 h : x9 ≠ 0)]
  · simp [h1]
/-- The two numbers of an entry. -/
theorem two_f (xs : List UInt8) (K : Int → Int → Int → Int → Option (List (Int × Int) × Int × Int)) (x8 : Int) (v1 j1 e1 : Int) (h1 : m_frontier_number xs x8 = some (v1, j1, e1)) :
    (e1 ≠ 0 → m_frontier_DecodeBlock_L26 xs K FU x8 0 0 0 0 = K j1 e1 v1 0) ∧
    (e1 = 0 → ∀ v2 j2 e2, m_frontier_number xs j1 = some (v2, j2, e2) → m_frontier_DecodeBlock_L26 xs K FU x8 0 0 0 0 = K j2 e2 v1 v2) := by
  obtain ⟨n, hn⟩ := FU_k 3 (by omega)
  rw [hn]
  have w1 : i64 1 = 1 := rfl
  have w2 : i64 2 = 2 := rfl
  refine ⟨fun he => ?_, fun he v2 j2 e2 h2 => ?_⟩
  · rw [m_frontier_DecodeBlock_L26, m_frontier_DecodeBlock_B26]
    simp [jn_eq, h1, bnd1_mk, need, w1, w2]
    rw [m_frontier_DecodeBlock_L26, m_frontier_DecodeBlock_B26]
    simp [jn_eq, he]
  · subst he
    rw [m_frontier_DecodeBlock_L26, m_frontier_DecodeBlock_B26]
    simp [jn_eq, h1, bnd1_mk, need, w1, w2]
    rw [m_frontier_DecodeBlock_L26, m_frontier_DecodeBlock_B26]
    simp [jn_eq, h2, bnd1_mk, need, w1, w2]
    rw [m_frontier_DecodeBlock_L26, m_frontier_DecodeBlock_B26]
    simp [jn_eq]

end Go.Proofs.Ytkplmgdmkfgjhaa
/- The two decodings answer alike, on every data and at every place. -/
namespace Go.Proofs.Ytkplmgdmkfgjhaa
attribute [local irreducible] FU

theorem same_loop (l : List (Int × Int)) (hl : l.length ≤ 1099511627776) : ∀ (m i n : Nat), i + m = l.length → m < n → m_law36_same_L2 l l (fun _ => some true) n i = some true := by
  intro m
  induction m with
  | zero =>
    intro i n hi h
    obtain ⟨n, rfl⟩ : ∃ k, n = k + 1 := ⟨n - 1, by omega⟩
    obtain rfl : i = l.length := by omega
    simp [m_law36_same_L2, m_law36_same_B2]
  | succ m ih =>
    intro i n hi h
    obtain ⟨n, rfl⟩ : ∃ k, n = k + 1 := ⟨n - 1, by omega⟩
    have hin : (0 : Int) ≤ (i : Int) ∧ (i : Int) < (l.length : Int) := by omega
    have e5 : i64 ((i : Int) + 1) = ((i + 1 : Nat) : Int) := by rw [i64_id (by omega)]; omega
    rw [m_law36_same_L2, m_law36_same_B2, if_pos hin.2, need_pos hin, need_pos hin, if_neg (by simp), e5]
    exact ih (i + 1) n (by omega) (by omega)
theorem same_refl (l : List (Int × Int)) (hl : l.length ≤ 1099511627776) : m_law36_same l l = some true := by
  have := FU_ge
  unfold m_law36_same
  rw [if_neg (by simp), jn_eq]
  exact same_loop l hl l.length 0 FU (by omega) (by omega)

end Go.Proofs.Ytkplmgdmkfgjhaa
/- Runs as lists: adding, sorting, subtracting as the reference does it. -/
namespace Go.Proofs.Ytkplmgdmkfgjhaa
attribute [local irreducible] FU

theorem LtP.trans {a b c : Int × Int} (h : LtP a b) (h' : LtP b c) : LtP a c := by unfold LtP at *; omega
theorem LtP.irrefl {a : Int × Int} : ¬ LtP a a := by unfold LtP; omega
theorem LtP.tri (a b : Int × Int) : LtP a b ∨ a = b ∨ LtP b a := by
  obtain ⟨a1, a2⟩ := a
  obtain ⟨b1, b2⟩ := b
  unfold LtP
  simp only [Prod.mk.injEq]
  omega
abbrev SL (l : List (Int × Int)) : Prop := l.Pairwise LtP
theorem run_iff (l : List (Int × Int)) : Run l ↔ (∀ p ∈ l, OkP p) ∧ SL l := by
  constructor
  · intro h
    refine ⟨fun p hp => ?_, ?_⟩
    · obtain ⟨i, hi, rfl⟩ := List.getElem_of_mem hp
      have := (h i (Nat.zero_le _) hi).1
      rwa [gi_nat hi] at this
    · rw [SL, List.pairwise_iff_getElem]
      have step : ∀ (d i : Nat) (hi : i + d + 1 < l.length), LtP (l[i]'(by omega)) (l[i + d + 1]'hi) := by
        intro d
        induction d with
        | zero =>
          intro i hi
          have := (h (i + 1) (Nat.zero_le _) (by omega)).2 (by omega)
          rw [show ((i + 1 : Nat) : Int) - 1 = (i : Int) by omega, gi_nat (by omega), gi_nat (by omega)] at this
          exact this
        | succ d ih =>
          intro i hi
          have := (h (i + (d + 1) + 1) (Nat.zero_le _) hi).2 (by omega)
          rw [show ((i + (d + 1) + 1 : Nat) : Int) - 1 = ((i + d + 1 : Nat) : Int) by omega, gi_nat (by omega), gi_nat hi] at this
          exact (ih i (by omega)).trans this
      intro i j hi hj hij
      obtain ⟨d, rfl⟩ : ∃ d, j = i + d + 1 := ⟨j - i - 1, by omega⟩
      exact step d i hj
  · intro ⟨h1, h2⟩ i _ hi
    rw [gi_nat hi]
    refine ⟨h1 _ (List.getElem_mem _), fun h0 => ?_⟩
    rw [show (i : Int) - 1 = ((i - 1 : Nat) : Int) by omega, gi_nat (by omega)]
    exact List.pairwise_iff_getElem.1 h2 (i - 1) i (by omega) hi (by omega)

theorem add_loop (l : List (Int × Int)) (q : Int × Int) (hl : l.length ≤ 1099511627776) (K : Int → Option (List (Int × Int))) : ∀ (m i n : Nat), i + m = l.length → m < n →
    ∃ j : Nat, i ≤ j ∧ j ≤ l.length ∧ m_ref35_Add_L2 l q K n i = K j ∧ (∀ k (h : k < l.length), i ≤ k → k < j → LtP l[k] q) ∧ (∀ h : j < l.length, ¬ LtP l[j] q) := by
  intro m
  induction m with
  | zero =>
    intro i n hi h
    obtain ⟨n, rfl⟩ : ∃ k, n = k + 1 := ⟨n - 1, by omega⟩
    obtain rfl : i = l.length := by omega
    exact ⟨l.length, Nat.le_refl _, Nat.le_refl _, by simp [m_ref35_Add_L2, m_ref35_Add_B2, jn_eq], fun k h1 h2 h3 => by omega, fun h => absurd h (Nat.lt_irrefl _)⟩
  | succ m ih =>
    intro i n hi h
    obtain ⟨n, rfl⟩ : ∃ k, n = k + 1 := ⟨n - 1, by omega⟩
    have hin : (0 : Int) ≤ (i : Int) ∧ (i : Int) < (l.length : Int) := by omega
    have e5 : i64 ((i : Int) + 1) = ((i + 1 : Nat) : Int) := by rw [i64_id (by omega)]; omega
    rw [m_ref35_Add_L2, m_ref35_Add_B2]
    simp only [jn_eq, if_pos hin.2, need_pos hin, e5, gi_nat (show i < l.length by omega), rLess, bnd1_mk]
    by_cases he : LtP l[i] q
    · simp only [he, decide_true, if_true]
      obtain ⟨j, j1, j2, j3, j4, j5⟩ := ih (i + 1) n (by omega) (by omega)
      refine ⟨j, by omega, j2, j3, fun k h1 h2 h3 => ?_, j5⟩
      by_cases hk : k = i
      · subst hk; exact he
      · exact j4 k h1 (by omega) h3
    · simp only [he, decide_false, Bool.false_eq_true, if_false]
      exact ⟨i, Nat.le_refl _, by omega, rfl, fun k h1 h2 h3 => by omega, fun _ => he⟩

theorem add_spec (l : List (Int × Int)) (q : Int × Int) (hl : l.length ≤ 1000000000) (hs : SL l) :
    ∃ r, m_ref35_Add l q = some r ∧ SL r ∧ (∀ x, x ∈ r ↔ x ∈ l ∨ x = q) ∧ r.length ≤ l.length + 1 := by
  have := FU_ge
  unfold m_ref35_Add
  rw [jn_eq]
  obtain ⟨j, _, j2, j3, j4, j5⟩ := add_loop l q (by omega) (fun x5 => jn (fun (x32_j73 : Bool) => if x32_j73 then (some l) else (need (0 ≤ x5 ∧ x5 ≤ (List.length l : Int)) (need (List.length ([] : List (Int × Int)) + List.length (List.take (Int.toNat x5) l) ≤ 137438953472) (need (List.length (([] : List (Int × Int)) ++ (List.take (Int.toNat x5) l)) + List.length [q] ≤ 137438953472) (need ((0 : Int) ≤ x5 ∧ x5 ≤ (List.length l : Int)) (need (List.length ((([] : List (Int × Int)) ++ (List.take (Int.toNat x5) l)) ++ [q]) + List.length (List.drop (Int.toNat x5) l) ≤ 137438953472) (some (((([] : List (Int × Int)) ++ (List.take (Int.toNat x5) l)) ++ [q]) ++ (List.drop (Int.toNat x5) l))))))))) (fun k73 => if x5 < (List.length l : Int) then (need ((0 : Int) ≤ x5 ∧ x5 < (List.length l : Int)) (k73 (decide ((gi l x5) = q)))) else (k73 false))) l.length 0 FU (by omega) (by omega)
  have hA : ∀ a ∈ l.take j, LtP a q := by
    intro a ha
    obtain ⟨k, hk, rfl⟩ := List.getElem_of_mem ha
    simp only [List.length_take] at hk
    rw [List.getElem_take]
    exact j4 k (by omega) (Nat.zero_le _) (by omega)
  have hsplit := List.take_append_drop j l
  have hpw : SL (l.take j ++ l.drop j) := by rw [hsplit]; exact hs
  obtain ⟨p1, p2, p3⟩ := List.pairwise_append.1 hpw
  have ins : (∀ b ∈ l.drop j, LtP q b) → ∃ r, (some (((([] : List (Int × Int)) ++ (List.take j l)) ++ [q]) ++ (List.drop j l)) : Option (List (Int × Int))) = some r ∧ SL r ∧ (∀ x, x ∈ r ↔ x ∈ l ∨ x = q) ∧ r.length ≤ l.length + 1 := by
    intro hB
    refine ⟨_, rfl, ?_, fun x => ?_, ?_⟩
    · rw [List.nil_append, SL, List.append_assoc, List.pairwise_append]
      refine ⟨p1, ?_, fun a ha b hb => ?_⟩
      · simp only [List.singleton_append, List.pairwise_cons]
        exact ⟨hB, p2⟩
      · simp only [List.singleton_append, List.mem_cons] at hb
        rcases hb with rfl | hb
        · exact hA a ha
        · exact p3 a ha b hb
    · have : x ∈ l ↔ x ∈ l.take j ∨ x ∈ l.drop j := by rw [← List.mem_append, hsplit]
      rw [this]
      simp only [List.nil_append, List.append_assoc, List.mem_append, List.mem_singleton]
      constructor
      · rintro (h | h | h) <;> simp [h]
      · rintro ((h | h) | h) <;> simp [h]
    · simp; omega
  rw [Int.natCast_zero] at j3
  rw [j3]
  have n1 : (0 : Int) ≤ (j : Int) ∧ (j : Int) ≤ (List.length l : Int) := by omega
  have n2 : List.length ([] : List (Int × Int)) + List.length (List.take j l) ≤ 137438953472 := by simp; omega
  have n3 : List.length (([] : List (Int × Int)) ++ (List.take j l)) + List.length [q] ≤ 137438953472 := by simp; omega
  have n4 : List.length ((([] : List (Int × Int)) ++ (List.take j l)) ++ [q]) + List.length (List.drop j l) ≤ 137438953472 := by simp; omega
  simp only [jn_eq, Int.toNat_natCast, need_pos n1, need_pos n2, need_pos n3, need_pos n4]
  by_cases hj : j < l.length
  · have hdrop := List.drop_eq_getElem_cons hj
    rw [if_pos (by omega), need_pos (by omega), gi_nat hj]
    by_cases he : l[j] = q
    · simp only [he, decide_true, if_true]
      exact ⟨l, rfl, hs, fun x => ⟨Or.inl, fun h => h.elim id (fun h => by rw [h, ← he]; exact List.getElem_mem _)⟩, by omega⟩
    · simp only [he, decide_false, Bool.false_eq_true, if_false]
      refine ins fun b hb => ?_
      have hq : LtP q l[j] := by
        rcases LtP.tri l[j] q with h | h | h
        · exact absurd h (j5 hj)
        · exact absurd h he
        · exact h
      rw [hdrop] at hb p2
      rcases List.mem_cons.1 hb with rfl | hb
      · exact hq
      · exact hq.trans ((List.pairwise_cons.1 p2).1 b hb)
  · rw [if_neg (by omega)]
    simp only [Bool.false_eq_true, if_false]
    refine ins fun b hb => ?_
    rw [List.drop_eq_nil_of_le (by omega)] at hb
    cases hb

theorem sorted_check (l : List (Int × Int)) (hl : l.length ≤ 1099511627776) (K : Unit → Option (List (Int × Int))) : ∀ (m i n : Nat), i + m = l.length → m < n →
    m_ref35_Sorted_L2 l K n i = if (∀ p ∈ l.drop i, OkP p) then K () else some [] := by
  intro m
  induction m with
  | zero =>
    intro i n hi h
    obtain ⟨n, rfl⟩ : ∃ k, n = k + 1 := ⟨n - 1, by omega⟩
    obtain rfl : i = l.length := by omega
    simp [m_ref35_Sorted_L2, m_ref35_Sorted_B2]
  | succ m ih =>
    intro i n hi h
    obtain ⟨n, rfl⟩ : ∃ k, n = k + 1 := ⟨n - 1, by omega⟩
    have hin : (0 : Int) ≤ (i : Int) ∧ (i : Int) < (l.length : Int) := by omega
    have e5 : i64 ((i : Int) + 1) = ((i + 1 : Nat) : Int) := by rw [i64_id (by omega)]; omega
    rw [m_ref35_Sorted_L2, m_ref35_Sorted_B2, if_pos hin.2, need_pos hin, e5, gi_nat (by omega), rIsPair, bnd1_mk, ih (i + 1) n (by omega) (by omega), List.drop_eq_getElem_cons (show i < l.length by omega)]
    generalize List.drop (i + 1) l = t
    by_cases he : OkP l[i]
    · simp only [List.forall_mem_cons, he, true_and, decide_true, Bool.not_true, Bool.false_eq_true, if_false]
    · simp only [List.forall_mem_cons, he, false_and, decide_false, Bool.not_false, if_true, if_false]

theorem sorted_adds (l : List (Int × Int)) (hl : l.length ≤ 100000000) : ∀ (m i n : Nat) (r : List (Int × Int)), i + m = l.length → m < n → SL r → r.length ≤ i →
    ∃ s, m_ref35_Sorted_L4 l (fun x3 => some x3) n r i = some s ∧ SL s ∧ (∀ x, x ∈ s ↔ x ∈ r ∨ x ∈ l.drop i) ∧ s.length ≤ l.length := by
  intro m
  induction m with
  | zero =>
    intro i n r hi h h1 h2
    obtain ⟨n, rfl⟩ : ∃ k, n = k + 1 := ⟨n - 1, by omega⟩
    obtain rfl : i = l.length := by omega
    exact ⟨r, by simp [m_ref35_Sorted_L4, m_ref35_Sorted_B4], h1, by simp, h2⟩
  | succ m ih =>
    intro i n r hi h h1 h2
    obtain ⟨n, rfl⟩ : ∃ k, n = k + 1 := ⟨n - 1, by omega⟩
    have hin : (0 : Int) ≤ (i : Int) ∧ (i : Int) < (l.length : Int) := by omega
    have e5 : i64 ((i : Int) + 1) = ((i + 1 : Nat) : Int) := by rw [i64_id (by omega)]; omega
    obtain ⟨t, t1, t2, t3, t4⟩ := add_spec r (gi l (i : Int)) (by omega) h1
    rw [m_ref35_Sorted_L4, m_ref35_Sorted_B4, if_pos hin.2, need_pos hin, e5, t1, bnd1_mk]
    obtain ⟨s, s1, s2, s3, s4⟩ := ih (i + 1) n t (by omega) (by omega) t2 (by omega)
    refine ⟨s, s1, s2, fun x => ?_, s4⟩
    rw [s3, t3, gi_nat (by omega), List.drop_eq_getElem_cons (show i < l.length by omega), List.mem_cons, or_assoc]

theorem sorted_spec (l : List (Int × Int)) (hl : l.length ≤ 100000000) :
    ∃ s, m_ref35_Sorted l = some s ∧ s.length ≤ l.length ∧ ((∀ p ∈ l, OkP p) → SL s ∧ ∀ x, x ∈ s ↔ x ∈ l) ∧ (¬ (∀ p ∈ l, OkP p) → s = []) := by
  have := FU_ge
  unfold m_ref35_Sorted
  simp only [jn_eq]
  have h := sorted_check l (by omega) (fun _ => m_ref35_Sorted_L4 l (fun x3 => some x3) FU [] 0) l.length 0 FU (by omega) (by omega)
  rw [List.drop_zero] at h
  obtain ⟨s, s1, s2, s3, s4⟩ := sorted_adds l hl l.length 0 FU [] (by omega) (by omega) List.Pairwise.nil (Nat.le_refl _)
  rw [List.drop_zero] at s3
  by_cases hp : ∀ p ∈ l, OkP p
  · rw [if_pos hp] at h
    exact ⟨s, h.trans s1, s4, fun _ => ⟨s2, fun x => by rw [s3]; simp⟩, fun h => absurd hp h⟩
  · rw [if_neg hp] at h
    exact ⟨[], h, by simp, fun h => absurd h hp, fun _ => rfl⟩

end Go.Proofs.Ytkplmgdmkfgjhaa
/- The tape's draws. -/
namespace Go.Proofs.Ytkplmgdmkfgjhaa
attribute [local irreducible] FU

theorem uv_small (ys : List UInt8) (x : Int) (h : x < 128) (hl : ys.length ≤ 1000000000) : m_codec_AppendUvarint ys x = some (ys ++ [u8i x]) := by
  obtain ⟨N, hN⟩ := FU_k 1 (by omega)
  unfold m_codec_AppendUvarint
  rw [jn_eq, hN, m_codec_AppendUvarint_L2, m_codec_AppendUvarint_B2, if_neg (by omega), need_pos (by simp; omega)]

theorem sane_true : m_law36_sane = some true := by
  obtain ⟨N, hN⟩ := FU_k 4 (by omega)
  have hr : Run [(0, 5), (0, 7), (2, 1)] := (run_iff _).2 ⟨by decide, by simp [LtP]⟩
  obtain ⟨b, b1, b2, _⟩ := block_agree [(0, 5), (0, 7), (2, 1)] (by simp)
  have hb := b2.2 ⟨hr, by simp, by simp⟩
  subst hb
  obtain ⟨c, c1, c2, c3⟩ := sum_agree [3, 0, 5, 0, 1, 2, 1] (by simp)
  have henc : m_frontier_encode [(0, 5), (0, 7), (2, 1)] = some ([3, 0, 5, 0, 1, 2, 1] ++ sum4 c) := by
    have g0 : gi [((0 : Int), (5 : Int)), (0, 7), (2, 1)] 0 = (0, 5) := rfl
    have g1 : gi [((0 : Int), (5 : Int)), (0, 7), (2, 1)] 1 = (0, 7) := rfl
    have g2 : gi [((0 : Int), (5 : Int)), (0, 7), (2, 1)] 2 = (2, 1) := rfl
    have w0 : i64 0 = 0 := rfl
    have w1 : i64 1 = 1 := rfl
    have w2 : i64 2 = 2 := rfl
    have w3 : i64 3 = 3 := rfl
    have u0 : u8i 0 = 0 := rfl
    have u1 : u8i 1 = 1 := rfl
    have u2 : u8i 2 = 2 := rfl
    have u3 : u8i 3 = 3 := rfl
    have u5 : u8i 5 = 5 := rfl
    unfold m_frontier_encode
    rw [uv_small [] _ (by simp) (by simp), bnd1_mk, jn_eq, hN]
    simp [m_frontier_encode_L2, m_frontier_encode_B2, jn_eq, need, g0, g1, g2, w0, w1, w2, w3, u0, u1, u2, u3, u5, uv_small, bnd1_mk]
    rw [c2, bnd1_mk]
    rfl
  unfold m_law36_sane m_frontier_EncodeBlock
  simp only [b1, bnd1_mk, henc, jn_eq, Bool.not_true, Bool.false_eq_true, if_false]
  rw [if_pos trivial, if_pos (by simp [sum4]), need_pos (by simp [sum4])]
  simp

end Go.Proofs.Ytkplmgdmkfgjhaa
/- Uvarints as bytes; reading them. -/
namespace Go.Proofs.Ytkplmgdmkfgjhaa
attribute [local irreducible] FU
/-- The bytes of a number; at most k + 1. -/
def uvB : Nat → Nat → List UInt8
  | 0, n => [u8i (n : Int)]
  | k + 1, n => if n < 128 then [u8i (n : Int)] else u8i ((n % 128 + 128 : Nat) : Int) :: uvB k (n / 128)
theorem uvB_len : ∀ (k n : Nat), 1 ≤ (uvB k n).length ∧ (uvB k n).length ≤ k + 1
  | 0, n => by simp [uvB]
  | k + 1, n => by
    rw [uvB]
    split
    · simp
    · have := uvB_len k (n / 128); simp only [List.length_cons]; omega
theorem uv_sp (K : List UInt8 → Int → Option (List UInt8)) (hK : ∀ ys x, ys.length ≤ 1000000010 → K ys x = some (ys ++ [u8i x])) :
    ∀ (m z n : Nat) (ys : List UInt8), z < 2 ^ (7 * (m + 1)) → m < n → z < 2 ^ 63 → ys.length + m ≤ 1000000010 → m_codec_AppendUvarint_L2 K n ys (z : Int) = some (ys ++ uvB m z) := by
  intro m
  induction m with
  | zero =>
    intro z n ys hz h1 h3 hy
    obtain ⟨n, rfl⟩ : ∃ q, n = q + 1 := ⟨n - 1, by omega⟩
    rw [m_codec_AppendUvarint_L2, m_codec_AppendUvarint_B2, if_neg (by omega), hK _ _ (by omega)]; rfl
  | succ m ih =>
    intro z n ys hz h1 h3 hy
    obtain ⟨n, rfl⟩ : ∃ q, n = q + 1 := ⟨n - 1, by omega⟩
    rw [m_codec_AppendUvarint_L2, m_codec_AppendUvarint_B2, uvB]
    by_cases hc : z < 128
    · rw [if_neg (by omega), if_pos hc, hK _ _ (by omega)]
    · rw [if_pos (by omega), if_neg hc]
      have hb : u8i (bOr .i64 (bAnd .i64 (z : Int) 127) 128) = u8i ((z % 128 + 128 : Nat) : Int) := by
        rw [show (127 : Int) = ((127 : Nat) : Int) from rfl, bAnd_nat z 127 (by omega) (by omega), and_127, show (128 : Int) = ((128 : Nat) : Int) from rfl, bOr_nat _ 128 (by omega) (by omega)]
        have := Nat.two_pow_add_eq_or_of_lt (i := 7) (b := z % 128) (by omega) 1
        rw [Nat.or_comm, show (128 : Nat) = 2 ^ 7 * 1 from rfl, ← this]
        congr 2; omega
      have hd : Int.fdiv (z : Int) (2 ^ min (Int.toNat 7) IntKind.i64.bits) = ((z / 128 : Nat) : Int) := by
        rw [show min (Int.toNat 7) IntKind.i64.bits = 7 from rfl, Int.fdiv_eq_ediv_of_nonneg _ (by omega)]; omega
      rw [hb, hd, need_pos (by simp; omega), ih (z / 128) n _ (by
        have hp : 2 ^ (7 * (m + 1 + 1)) = 2 ^ (7 * (m + 1)) * 128 := by rw [show 7 * (m + 1 + 1) = 7 * (m + 1) + 7 by omega, Nat.pow_add]
        omega) (by omega) (by omega) (by simp; omega), List.append_assoc]
      rfl
theorem uv_spec (ys : List UInt8) (z : Nat) (hz : z < 2 ^ 35) (hl : ys.length ≤ 1000000000) : m_codec_AppendUvarint ys (z : Int) = some (ys ++ uvB 4 z) := by
  unfold m_codec_AppendUvarint
  rw [jn_eq]
  exact uv_sp _ (fun ys x h => by rw [need_pos (by simp; omega)]) 4 z FU ys hz (by have := FU_ge; omega) (by omega) (by omega)
theorem num_sp (xs : List UInt8) (hl : xs.length ≤ 100000000) (i : Nat) (rest : List UInt8) (K : Unit → Option (Int × Int × Int)) : ∀ (m k v a n : Nat), k + m = 4 → m < n → v < 2 ^ (7 * (m + 1)) → a < 2 ^ (7 * k) → xs.drop (i + k) = uvB m v ++ rest →
    m_frontier_number_L2 xs (i : Int) K n (a : Int) (k : Int) = some (((a + v * 2 ^ (7 * k) : Nat) : Int), ((i + k + (uvB m v).length : Nat) : Int), 0) := by
  intro m
  have hsh : ∀ (k y a : Nat) (b : UInt8), k ≤ 4 → a < 2 ^ (7 * k) → y < 128 → b.toNat % 128 = y → bOr .i64 (a : Int) (i64 ((UInt8.toNat (b &&& 127) : Int) * 2 ^ min (Int.toNat (i64 (7 * (k : Int)))) IntKind.i64.bits)) = ((a + y * 2 ^ (7 * k) : Nat) : Int) := fun k y a b hk ha hy hb => by
    have e1 : i64 (7 * (k : Int)) = ((7 * k : Nat) : Int) := by rw [i64_id (by omega)]; omega
    have e2 : min (Int.toNat ((7 * k : Nat) : Int)) IntKind.i64.bits = 7 * k := by
      rw [Int.toNat_natCast]; show min (7 * k) 64 = _; omega
    have hp : 2 ^ (7 * k) ≤ 268435456 := by
      have : 2 ^ (7 * k) ≤ 2 ^ 28 := Nat.pow_le_pow_right (by omega) (by omega)
      simpa using this
    have hm : y * 2 ^ (7 * k) ≤ 128 * 268435456 := Nat.mul_le_mul (by omega) hp
    rw [e1, e2, u8_and127, hb, show (y : Int) * 2 ^ (7 * k) = ((y * 2 ^ (7 * k) : Nat) : Int) by push_cast; rfl, i64_id (by omega)]
    exact bOr_shift a y (7 * k) ha hy (by omega)
  induction m with
  | zero =>
    intro k v a n hk h1 hv ha hd
    obtain ⟨n, rfl⟩ : ∃ q, n = q + 1 := ⟨n - 1, by omega⟩
    have hlen := congrArg List.length hd
    rw [uvB] at hd hlen ⊢
    simp only [List.length_drop, List.length_append, List.length_singleton] at hlen ⊢
    have hlt : i + k < xs.length := by omega
    have hb : gi xs ((i + k : Nat) : Int) = u8i (v : Int) := by
      rw [gi_nat hlt]
      rw [List.drop_eq_getElem_cons hlt] at hd
      exact (List.cons.inj hd).1
    have ei : i64 ((i : Int) + (k : Int)) = ((i + k : Nat) : Int) := by rw [i64_id (by omega)]; omega
    have ht : (u8i (v : Int)).toNat = v := by rw [u8i_nat]; omega
    rw [m_frontier_number_L2, m_frontier_number_B2, if_pos (by omega), ei, if_neg (by omega), need_pos (by omega), need_pos (by rw [i64_id (by omega)]; omega), hb, if_pos (by rw [u8_lt128, ht]; omega), hsh k v a _ (by omega) ha (by omega) (by rw [ht]; omega), i64_id (by omega)]
    congr 2
  | succ m ih =>
    intro k v a n hk h1 hv ha hd
    obtain ⟨n, rfl⟩ : ∃ q, n = q + 1 := ⟨n - 1, by omega⟩
    have hlen := congrArg List.length hd
    have hl1 := (uvB_len (m + 1) v).1
    simp only [List.length_drop, List.length_append] at hlen
    have hlt : i + k < xs.length := by omega
    have ei : i64 ((i : Int) + (k : Int)) = ((i + k : Nat) : Int) := by rw [i64_id (by omega)]; omega
    rw [uvB] at hd ⊢
    rw [m_frontier_number_L2, m_frontier_number_B2, if_pos (by omega), ei, if_neg (by omega), need_pos (by omega), need_pos (by rw [i64_id (by omega)]; omega), gi_nat hlt]
    rw [List.drop_eq_getElem_cons hlt] at hd
    by_cases hc : v < 128
    · rw [if_pos hc] at hd ⊢
      obtain ⟨hb, _⟩ := List.cons.inj hd
      have ht : (u8i (v : Int)).toNat = v := by rw [u8i_nat]; omega
      rw [hb, if_pos (by rw [u8_lt128, ht]; omega), hsh k v a _ (by omega) ha hc (by rw [ht]; omega), i64_id (by omega)]
      congr 2
    · rw [if_neg hc] at hd ⊢
      obtain ⟨hb, hd2⟩ := List.cons.inj hd
      have ht : (u8i ((v % 128 + 128 : Nat) : Int)).toNat = v % 128 + 128 := by rw [u8i_nat]; omega
      have hp : 2 ^ (7 * (k + 1)) = 2 ^ (7 * k) * 128 := by rw [show 7 * (k + 1) = 7 * k + 7 by omega, Nat.pow_add]
      have hp2 : 2 ^ (7 * (m + 1 + 1)) = 2 ^ (7 * (m + 1)) * 128 := by rw [show 7 * (m + 1 + 1) = 7 * (m + 1) + 7 by omega, Nat.pow_add]
      have hmul : v % 128 * 2 ^ (7 * k) + 2 ^ (7 * k) ≤ 2 ^ (7 * k) * 128 := by
        have : (v % 128 + 1) * 2 ^ (7 * k) ≤ 128 * 2 ^ (7 * k) := Nat.mul_le_mul_right _ (by omega)
        rw [Nat.add_mul, Nat.one_mul] at this; omega
      rw [hb, if_neg (by rw [u8_lt128, ht]; omega), hsh k (v % 128) a _ (by omega) ha (by omega) (by rw [ht]; omega), show i64 ((k : Int) + 1) = ((k + 1 : Nat) : Int) by rw [i64_id (by omega)]; omega,
        ih (k + 1) (v / 128) (a + v % 128 * 2 ^ (7 * k)) n (by omega) (by omega) (by omega) (by omega) hd2]
      have hval : a + v % 128 * 2 ^ (7 * k) + v / 128 * 2 ^ (7 * (k + 1)) = a + v * 2 ^ (7 * k) := by
        have hv : v = v % 128 + v / 128 * 128 := by omega
        conv => rhs; rw [hv]
        rw [hp, Nat.add_mul, Nat.mul_comm (2 ^ (7 * k)) 128, ← Nat.mul_assoc]; omega
      rw [hval]
      simp only [List.length_cons]
      congr 3
      omega
theorem num_spec {xs : List UInt8} (hl : xs.length ≤ 100000000) {i v : Nat} {rest : List UInt8} (hv : v < 2 ^ 35) (hd : xs.drop i = uvB 4 v ++ rest) : m_frontier_number xs (i : Int) = some ((v : Int), ((i + (uvB 4 v).length : Nat) : Int), 0) := by
  unfold m_frontier_number
  rw [jn_eq]
  have := num_sp xs hl i rest (fun _ => some (0, 0, 22)) 4 0 v 0 FU rfl (by have := FU_ge; omega) hv (by omega) (by simpa using hd)
  simpa using this
end Go.Proofs.Ytkplmgdmkfgjhaa
/- A block as bytes; decoding it again. -/
namespace Go.Proofs.Ytkplmgdmkfgjhaa
attribute [local irreducible] FU
/-- The bytes of a pair after another. -/
def pB : Option (Int × Int) → Int × Int → List UInt8
  | none, p => uvB 4 p.1.toNat ++ uvB 4 p.2.toNat
  | some q, p => uvB 4 (p.1 - q.1).toNat ++ if p.1 = q.1 then uvB 4 (p.2 - q.2 - 1).toNat else uvB 4 p.2.toNat
def eB : Option (Int × Int) → List (Int × Int) → List UInt8
  | _, [] => []
  | o, p :: l => pB o p ++ eB (some p) l
theorem pB_len (o : Option (Int × Int)) (p : Int × Int) : (pB o p).length ≤ 10 := by
  cases o with
  | none => have := (uvB_len 4 p.1.toNat).2; have := (uvB_len 4 p.2.toNat).2; simp only [pB, List.length_append]; omega
  | some q =>
    have h1 := (uvB_len 4 (p.1 - q.1).toNat).2
    have h2 := (uvB_len 4 p.2.toNat).2
    have h3 := (uvB_len 4 (p.2 - q.2 - 1).toNat).2
    simp only [pB, List.length_append]
    split <;> omega
theorem eB_len : ∀ (l : List (Int × Int)) (o : Option (Int × Int)), (eB o l).length ≤ 10 * l.length
  | [], _ => by simp [eB]
  | p :: l, o => by
    have := pB_len o p
    have := eB_len l (some p)
    rw [eB]; simp only [List.length_append, List.length_cons]; omega
def bef (l : List (Int × Int)) (i : Nat) : Option (Int × Int) := if i = 0 then none else some (gi l ((i : Int) - 1))
/-- The entries of a block: what precedes a place, and what comes there. -/
theorem run_at {l : List (Int × Int)} (hr : Run l) {i : Nat} (hi : i < l.length) : OkP (gi l (i : Int)) ∧ (0 < i → OkP (gi l ((i : Int) - 1)) ∧ LtP (gi l ((i : Int) - 1)) (gi l (i : Int))) := by
  have hok := hr i (Nat.zero_le _) hi
  refine ⟨hok.1, fun h0 => ⟨?_, hok.2 h0⟩⟩
  have := (hr (i - 1) (Nat.zero_le _) (by omega)).1
  rwa [show ((i - 1 : Nat) : Int) = (i : Int) - 1 by omega] at this
theorem enc_sp (l : List (Int × Int)) (hr : Run l) (hl : l.length ≤ 1024) (K : List UInt8 → Option (List UInt8)) : ∀ (m i n : Nat) (ys : List UInt8), i + m = l.length → m < n → ys.length + 10 * m ≤ 1000000 →
    m_frontier_encode_L2 l K n ys (i : Int) = K (ys ++ eB (bef l i) (l.drop i)) := by
  intro m
  induction m with
  | zero =>
    intro i n ys hi h1 h3
    obtain ⟨n, rfl⟩ : ∃ q, n = q + 1 := ⟨n - 1, by omega⟩
    obtain rfl : i = l.length := by omega
    rw [m_frontier_encode_L2, m_frontier_encode_B2, if_neg (by omega), List.drop_length, eB, List.append_nil]
  | succ m ih =>
    intro i n ys hi h1 h3
    obtain ⟨n, rfl⟩ : ∃ q, n = q + 1 := ⟨n - 1, by omega⟩
    have hil : i < l.length := by omega
    have e5 : i64 ((i : Int) + 1) = ((i + 1 : Nat) : Int) := by rw [i64_id (by omega)]; omega
    have e6 : i64 ((i : Int) - 1) = (i : Int) - 1 := i64_id (by omega)
    obtain ⟨hok, hbf⟩ := run_at hr hil
    have hd : l.drop i = gi l (i : Int) :: l.drop (i + 1) := by rw [gi_nat hil]; exact List.drop_eq_getElem_cons hil
    have hb1 : bef l (i + 1) = some (gi l (i : Int)) := by
      unfold bef
      rw [if_neg (by omega), show ((i + 1 : Nat) : Int) - 1 = (i : Int) by omega]
    rw [m_frontier_encode_L2, m_frontier_encode_B2, if_pos (by omega)]
    simp only [jn_eq, e5, e6]
    rw [need_pos (by omega), hd, eB]
    have fin : ∀ zs : List UInt8, zs = ys ++ pB (bef l i) (gi l (i : Int)) → m_frontier_encode_L2 l K n zs ((i + 1 : Nat) : Int) = K (ys ++ (pB (bef l i) (gi l (i : Int)) ++ eB (some (gi l (i : Int))) (l.drop (i + 1)))) := fun zs hz => by
      have hlen := pB_len (bef l i) (gi l (i : Int))
      rw [ih (i + 1) n zs (by omega) (by omega) (by rw [hz, List.length_append]; omega), hb1, hz, List.append_assoc]
    obtain ⟨o1, o2, o3, o4⟩ := hok
    have uvs : ∀ (zs : List UInt8) (x : Int), 0 ≤ x → x ≤ 2147483647 → zs.length ≤ 1000100 → m_codec_AppendUvarint zs x = some (zs ++ uvB 4 x.toNat) := fun zs x h0 h1 h2 => by
      obtain ⟨z, rfl⟩ : ∃ z : Nat, x = (z : Int) := ⟨x.toNat, by omega⟩
      exact uv_spec zs z (by omega) (by omega)
    by_cases h0 : i = 0
    · subst h0
      have hbf0 : bef l 0 = none := rfl
      rw [hbf0] at fin ⊢
      simp only [Int.natCast_zero, Int.lt_irrefl, if_false, Bool.false_eq_true, Int.sub_zero] at *
      rw [i64_id (by omega), uvs ys _ o1 o2 (by omega), bnd1_mk, uvs _ _ o3 o4 (by have := (uvB_len 4 (gi l 0).1.toNat).2; rw [List.length_append]; omega), bnd1_mk]
      exact fin _ (by rw [pB, List.append_assoc])
    · obtain ⟨⟨p1, p2, p3, p4⟩, hlt⟩ := hbf (by omega)
      have hbfi : bef l i = some (gi l ((i : Int) - 1)) := by unfold bef; rw [if_neg h0]
      rw [hbfi] at fin ⊢
      have hpos : (0 : Int) < (i : Int) := by omega
      rw [if_pos hpos, need_pos (by omega)]
      simp only [if_pos hpos]
      unfold LtP at hlt
      rw [i64_id (by omega), uvs ys _ (by omega) (by omega) (by omega), bnd1_mk]
      have hul := (uvB_len 4 ((gi l (i : Int)).1 - (gi l ((i : Int) - 1)).1).toNat).2
      by_cases hs : (gi l (i : Int)).1 = (gi l ((i : Int) - 1)).1
      · rw [decide_eq_true hs, if_pos rfl, i64_id (x := (gi l (i : Int)).2 - (gi l ((i : Int) - 1)).2) (by omega), i64_id (by omega), uvs _ _ (by omega) (by omega) (by rw [List.length_append]; omega), bnd1_mk]
        exact fin _ (by rw [pB, if_pos hs, List.append_assoc])
      · rw [decide_eq_false hs, if_neg (by simp), uvs _ _ o3 o4 (by rw [List.length_append]; omega), bnd1_mk]
        exact fin _ (by rw [pB, if_neg hs, List.append_assoc])
/-- A block without and with its sum. -/
def bd (l : List (Int × Int)) : List UInt8 := uvB 4 l.length ++ eB none l
noncomputable def cs (ys : List UInt8) : Int := (m_codec_Checksum ys).getD 0
noncomputable def blk (l : List (Int × Int)) : List UInt8 := bd l ++ sum4 (cs (bd l))
theorem bd_len (l : List (Int × Int)) : 1 ≤ (bd l).length ∧ (bd l).length ≤ 5 + 10 * l.length := by
  have h1 := uvB_len 4 l.length
  have h2 := eB_len l none
  unfold bd; rw [List.length_append]; omega
theorem blk_len (l : List (Int × Int)) : (blk l).length = (bd l).length + 4 := by unfold blk sum4; simp
theorem encode_spec {l : List (Int × Int)} (hr : Run l) (hl : l.length ≤ 1024) : m_frontier_encode l = some (blk l) := by
  unfold m_frontier_encode
  rw [uv_spec [] l.length (by omega) (by simp), bnd1_mk, jn_eq, show (0 : Int) = ((0 : Nat) : Int) from rfl, enc_sp l hr hl _ l.length 0 FU _ (by omega) (by have := FU_ge; omega) (by have := (uvB_len 4 l.length).2; rw [List.nil_append]; omega), List.nil_append, List.drop_zero]
  have h := bd_len l
  obtain ⟨c, c1, c2, _⟩ := sum_agree (bd l) (by omega)
  have hc : cs (bd l) = c := by unfold cs; rw [c1]; rfl
  show bnd1 (m_codec_AppendSum (bd l) 0) _ = _
  rw [c2, bnd1_mk, ← hc]; rfl
theorem sealed_blk (l : List (Int × Int)) (hl : l.length ≤ 1024) : m_codec_Sealed (blk l) = some true := by
  have h := bd_len l
  obtain ⟨c, c1, c2, c3⟩ := sum_agree (bd l) (by omega)
  have hc : cs (bd l) = c := by unfold cs; rw [c1]; rfl
  obtain ⟨b, q, s1, s2, s3⟩ := sealed_agree (bd l) (blk l) (blk_len l) (by unfold blk; simp) (by rw [blk_len]; omega)
  rw [c3] at s2
  have hq : q = blk l := by rw [← Option.some.inj s2]; unfold blk; rw [hc]
  rw [s1, s3.2 hq]
theorem isBlock_ok {l : List (Int × Int)} (hr : Run l) (h1 : 1 ≤ l.length) (h2 : l.length ≤ 1024) : m_frontier_isBlock l = some true := by
  obtain ⟨b, b1, b2, _⟩ := block_agree l (by omega)
  rw [b1, b2.2 ⟨hr, h1, h2⟩]
/-- The entries are read again. -/
theorem dec_sp (xs : List UInt8) (hx : xs.length ≤ 10000000) (l : List (Int × Int)) (hr : Run l) (hl : l.length ≤ 1024) (y : Int × Int × Int) (hy : y.1 = (l.length : Int)) (K : Int → Int → List (Int × Int) → Option (List (Int × Int) × Int × Int)) (rest : List UInt8) : ∀ (m i n at_ : Nat), i + m = l.length → m < n → xs.drop at_ = eB (bef l i) (l.drop i) ++ rest →
    m_frontier_DecodeBlock_L14 xs y K n (at_ : Int) 0 (l.take i) (i : Int) = K ((at_ + (eB (bef l i) (l.drop i)).length : Nat) : Int) 0 l := by
  intro m
  induction m with
  | zero =>
    intro i n a hi h1 hd
    obtain ⟨n, rfl⟩ : ∃ q, n = q + 1 := ⟨n - 1, by omega⟩
    obtain rfl : i = l.length := by omega
    rw [dec_exit_f _ _ _ _ _ _ _ _ (Or.inr (by omega)), List.drop_length, eB, List.take_length]; rfl
  | succ m ih =>
    intro i n a hi h1 hd
    obtain ⟨n, rfl⟩ : ∃ q, n = q + 1 := ⟨n - 1, by omega⟩
    have hil : i < l.length := by omega
    have e5 : i64 ((i : Int) + 1) = ((i + 1 : Nat) : Int) := by rw [i64_id (by omega)]; omega
    have e6 : i64 ((i : Int) - 1) = (i : Int) - 1 := i64_id (by omega)
    obtain ⟨hok, hbf⟩ := run_at hr hil
    have hdl : l.drop i = gi l (i : Int) :: l.drop (i + 1) := by rw [gi_nat hil]; exact List.drop_eq_getElem_cons hil
    have hb1 : bef l (i + 1) = some (gi l (i : Int)) := by
      unfold bef
      rw [if_neg (by omega), show ((i + 1 : Nat) : Int) - 1 = (i : Int) by omega]
    have htk : l.take i ++ [gi l (i : Int)] = l.take (i + 1) := by rw [gi_nat hil]; exact List.take_append_getElem hil
    have hlen : ∀ p : Int × Int, List.length (l.take i) + List.length [p] ≤ 137438953472 := by intro p; rw [List.length_take]; simp; omega
    rw [hdl, eB] at hd ⊢
    obtain ⟨o1, o2, o3, o4⟩ := hok
    rw [m_frontier_DecodeBlock_L14, m_frontier_DecodeBlock_B14]
    simp only [jn_eq, if_pos (show (i : Int) < y.1 by omega), decide_true, if_true, e5, e6]
    have fin : ∀ (p q : Int) (b : Nat), p = (gi l (i : Int)).1 → q = (gi l (i : Int)).2 → b = a + (pB (bef l i) (gi l (i : Int))).length → m_frontier_DecodeBlock_L14 xs y K n (b : Int) 0 (l.take i ++ [(p, q)]) ((i + 1 : Nat) : Int) = K ((a + (pB (bef l i) (gi l (i : Int)) ++ eB (some (gi l (i : Int))) (l.drop (i + 1))).length : Nat) : Int) 0 l := fun p q b hp hq hb => by
      rw [show ((p, q) : Int × Int) = gi l (i : Int) from Prod.ext hp hq, htk]
      have hd2 : xs.drop b = eB (bef l (i + 1)) (l.drop (i + 1)) ++ rest := by
        rw [hb, ← List.drop_drop, hd, List.append_assoc, List.drop_left, hb1]
      rw [ih (i + 1) n b (by omega) (by omega) hd2, hb1, hb, List.length_append, Nat.add_assoc]
    have two : ∀ (u v : Nat) (r : List UInt8) (K2 : Int → Int → Int → Int → Option (List (Int × Int) × Int × Int)), u < 2 ^ 35 → v < 2 ^ 35 → xs.drop a = uvB 4 u ++ (uvB 4 v ++ r) → m_frontier_DecodeBlock_L26 xs K2 FU (a : Int) 0 0 0 0 = K2 ((a + (uvB 4 u ++ uvB 4 v).length : Nat) : Int) 0 (u : Int) (v : Int) := fun u v r K2 hu hv h => by
      have n1 := num_spec (xs := xs) (by omega) hu h
      have hd3 : xs.drop (a + (uvB 4 u).length) = uvB 4 v ++ r := by rw [← List.drop_drop, h, List.drop_left]
      have n2 := num_spec (xs := xs) (by omega) hv hd3
      have := (two_f xs K2 (a : Int) _ _ _ n1).2 rfl _ _ _ n2
      rw [this, List.length_append, Nat.add_assoc]
    by_cases h0 : i = 0
    · subst h0
      have hbf0 : bef l 0 = none := rfl
      rw [hbf0] at hd fin ⊢
      rw [pB, List.append_assoc, List.append_assoc] at hd
      simp only [Int.natCast_zero, Int.lt_irrefl, if_false, Bool.false_eq_true] at *
      rw [two _ _ _ _ (by omega) (by omega) hd]
      simp only [need_pos (hlen _)]
      exact fin _ _ _ (by omega) (by omega) (by rw [pB])
    · obtain ⟨⟨p1, p2, p3, p4⟩, hlt⟩ := hbf (by omega)
      have hbfi : bef l i = some (gi l ((i : Int) - 1)) := by unfold bef; rw [if_neg h0]
      rw [hbfi] at hd fin ⊢
      unfold LtP at hlt
      have hlast : gi (l.take i) ((i : Int) - 1) = gi l ((i : Int) - 1) := by
        obtain ⟨k, hk⟩ : ∃ k : Nat, (i : Int) - 1 = (k : Int) := ⟨i - 1, by omega⟩
        rw [hk, gi_nat (by rw [List.length_take]; omega), gi_nat (by omega), List.getElem_take]
      have hpos : (0 : Int) < (i : Int) := by omega
      have hnp : (0 : Int) ≤ (i : Int) - 1 ∧ (i : Int) - 1 < ((l.take i).length : Int) := by rw [List.length_take]; omega
      by_cases hs : (gi l (i : Int)).1 = (gi l ((i : Int) - 1)).1
      · have hpb : pB (some (gi l ((i : Int) - 1))) (gi l (i : Int)) = uvB 4 ((gi l (i : Int)).1 - (gi l ((i : Int) - 1)).1).toNat ++ uvB 4 ((gi l (i : Int)).2 - (gi l ((i : Int) - 1)).2 - 1).toNat := by rw [pB, if_pos hs]
        rw [hpb, List.append_assoc, List.append_assoc] at hd
        rw [two _ _ _ _ (by omega) (by omega) hd]
        simp only [if_pos hpos, need_pos hnp, hlast]
        rw [if_pos (by omega), need_pos (hlen _)]
        exact fin _ _ _ (by rw [i64_id (by omega)]; omega) (by rw [i64_id (x := (gi l ((i : Int) - 1)).2 + 1) (by omega), i64_id (by omega)]; omega) (by rw [hpb])
      · have hpb : pB (some (gi l ((i : Int) - 1))) (gi l (i : Int)) = uvB 4 ((gi l (i : Int)).1 - (gi l ((i : Int) - 1)).1).toNat ++ uvB 4 (gi l (i : Int)).2.toNat := by rw [pB, if_neg hs]
        rw [hpb, List.append_assoc, List.append_assoc] at hd
        rw [two _ _ _ _ (by omega) (by omega) hd]
        simp only [if_pos hpos, need_pos hnp, hlast]
        rw [if_neg (by omega), need_pos (hlen _)]
        exact fin _ _ _ (by rw [i64_id (by omega)]; omega) (by omega) (by rw [hpb])
/-- What DecodeBlock comes to after the entries. -/
theorem dec_start {xs : List UInt8} (hx : xs.length ≤ 10000000) {l : List (Int × Int)} (hr : Run l) (h1 : 1 ≤ l.length) (h2 : l.length ≤ 1024) {a : Nat} {rest : List UInt8} (hd : xs.drop a = bd l ++ rest) :
    (rest.length < 4 → m_frontier_DecodeBlock xs (a : Int) = some ([], 0, 23)) ∧ (∀ r2, rest = sum4 (cs (bd l)) ++ r2 → m_frontier_DecodeBlock xs (a : Int) = some (l, ((a + (blk l).length : Nat) : Int), 0)) := by
  have hb := bd_len l
  have hlen := congrArg List.length hd
  rw [List.length_drop, List.length_append] at hlen
  have hal : a < xs.length := by omega
  have hd' := hd
  unfold bd at hd'
  rw [List.append_assoc] at hd'
  have n1 := num_spec (xs := xs) (by omega) (show l.length < 2 ^ 35 by omega) hd'
  have hd3 : xs.drop (a + (uvB 4 l.length).length) = eB (bef l 0) (l.drop 0) ++ rest := by
    rw [← List.drop_drop, hd', List.drop_left]; rfl
  have hbl : (bd l).length = (uvB 4 l.length).length + (eB none l).length := by unfold bd; rw [List.length_append]
  have hL : ∀ K, m_frontier_DecodeBlock_L14 xs ((l.length : Int), ((a + (uvB 4 l.length).length : Nat) : Int), 0) K FU ((a + (uvB 4 l.length).length : Nat) : Int) 0 [] 0 = K ((a + (bd l).length : Nat) : Int) 0 l := fun K => by
    have := dec_sp xs hx l hr h2 ((l.length : Int), ((a + (uvB 4 l.length).length : Nat) : Int), 0) rfl K rest l.length 0 FU _ (by omega) (by have := FU_ge; omega) hd3
    rw [List.take_zero, Int.natCast_zero] at this
    rw [this, show eB (bef l 0) (l.drop 0) = eB none l from rfl, hbl, Nat.add_assoc]
  have hcom : ∀ r, (if i64 ((xs.length : Int) - ((a + (bd l).length : Nat) : Int)) < 4 then some ([], 0, 23) else r) = if rest.length < 4 then some (([] : List (Int × Int)), (0 : Int), (23 : Int)) else r := fun r => by
    have : i64 ((xs.length : Int) - ((a + (bd l).length : Nat) : Int)) = (rest.length : Int) := by rw [i64_id (by omega)]; omega
    rw [this]
    by_cases h : rest.length < 4
    · rw [if_pos h, if_pos (by omega)]
    · rw [if_neg h, if_neg (by omega)]
  unfold m_frontier_DecodeBlock
  simp only [jn_eq]
  rw [if_neg (by omega), decide_eq_false (by omega), if_neg (by simp), n1, bnd1_mk]
  dsimp only
  rw [if_pos rfl, if_neg (by omega), decide_eq_false (by omega), if_neg (by simp), hL]
  try dsimp only
  rw [if_neg (by simp), hcom]
  refine ⟨fun h => by rw [if_pos h], fun r2 hr2 => ?_⟩
  have hsl : (sum4 (cs (bd l))).length = 4 := by unfold sum4; rfl
  rw [hr2, List.length_append, hsl] at hlen
  rw [if_neg (by rw [hr2, List.length_append, hsl]; omega)]
  have e4 : i64 (((a + (bd l).length : Nat) : Int) + 4) = ((a + (blk l).length : Nat) : Int) := by rw [i64_id (by omega), blk_len]; omega
  have hblk : List.take (Int.toNat ((a + (blk l).length : Nat) : Int) - Int.toNat (a : Int)) (List.drop (Int.toNat (a : Int)) xs) = blk l := by
    rw [Int.toNat_natCast, Int.toNat_natCast, hd, hr2, ← List.append_assoc, show a + (blk l).length - a = (blk l).length by omega]
    show List.take _ (blk l ++ r2) = _
    rw [List.take_left]
  rw [e4, need_pos (by have := blk_len l; omega), hblk, sealed_blk l h2, bnd1_mk]
  simp only [Bool.not_true, Bool.false_eq_true, if_false]
  rw [isBlock_ok hr h1 h2, bnd1_mk]
  simp only [Bool.not_true, Bool.false_eq_true, if_false]
  rw [encode_spec hr h2, bnd1_mk]
  unfold m_bytes_Equal
  rw [decide_eq_true rfl, bnd1_mk]
  simp
end Go.Proofs.Ytkplmgdmkfgjhaa
/- Loops over lists. -/
namespace Go.Proofs.Ytkplmgdmkfgjhaa
attribute [local irreducible] FU

/-- A loop over a list with what goes on behind it. -/
def foldK {σ α ρ : Type} (f : σ → α → (σ → Option ρ) → Option ρ) (K : σ → Option ρ) : List α → σ → Option ρ
  | [], s => K s
  | x :: xs, s => f s x (fun s' => foldK f K xs s')
theorem i64_succ {i : Nat} (h : i < 9223372036854775807) : i64 ((i : Int) + 1) = ((i + 1 : Nat) : Int) := by rw [i64_id (by omega)]; omega
theorem i64_sub1 {i : Nat} (h : i < 4611686018427387904) : i64 ((i : Int) - 1) = (i : Int) - 1 := i64_id (by omega)
theorem loop_fold {σ α ρ : Type} (l : List α) (L : Nat → σ → Int → Option ρ) (f : σ → α → (σ → Option ρ) → Option ρ) (K : σ → Option ρ)
    (hs : ∀ n s (i : Nat) (h : i < l.length), L (n + 1) s (i : Int) = f s l[i] (fun s' => L n s' ((i + 1 : Nat) : Int))) (he : ∀ n s, L (n + 1) s (l.length : Int) = K s) :
    ∀ (m i n : Nat) (s : σ), i + m = l.length → m < n → L n s (i : Int) = foldK f K (l.drop i) s := by
  intro m
  induction m with
  | zero =>
    intro i n s hi h
    obtain ⟨n, rfl⟩ : ∃ k, n = k + 1 := ⟨n - 1, by omega⟩
    obtain rfl : i = l.length := by omega
    rw [he, List.drop_length]; rfl
  | succ m ih =>
    intro i n s hi h
    obtain ⟨n, rfl⟩ : ∃ k, n = k + 1 := ⟨n - 1, by omega⟩
    rw [hs n s i (by omega), List.drop_eq_getElem_cons (show i < l.length by omega), foldK]
    congr 1
    funext s'
    exact ih (i + 1) n s' (by omega) (by omega)
theorem loop_all {σ α ρ : Type} (l : List α) (hl : l.length < 4611686018427387904) (L : Nat → σ → Int → Option ρ) (f : σ → α → (σ → Option ρ) → Option ρ) (K : σ → Option ρ)
    (hs : ∀ n s (i : Nat) (h : i < l.length), L (n + 1) s (i : Int) = f s l[i] (fun s' => L n s' ((i + 1 : Nat) : Int))) (he : ∀ n s, L (n + 1) s (l.length : Int) = K s) (s : σ) :
    L FU s 0 = foldK f K l s := by
  have := FU_ge
  exact loop_fold l L f K hs he l.length 0 FU s (by omega) (by omega)
theorem foldK_any {σ α ρ : Type} (p : α → Bool) (R : Option ρ) (K : σ → Option ρ) (s : σ) : ∀ l : List α, foldK (fun s x k => if p x then R else k s) K l s = if l.any p then R else K s
  | [] => rfl
  | x :: xs => by
    rw [foldK]
    cases hp : p x with
    | true => simp [hp]
    | false => simp only [Bool.false_eq_true, if_false, List.any_cons, hp, Bool.false_or]; exact foldK_any p R K s xs
/-! ### Without repetitions -/
section
variable {α : Type} [DecidableEq α]
def cstep (r : List α) (x : α) : List α := if r.getLast? = some x then r else r ++ [x]
/-- Without what equals what stands before it. -/
def compactL (l : List α) : List α := l.foldl cstep []
theorem compactL_snoc (l : List α) (x : α) : compactL (l ++ [x]) = cstep (compactL l) x := by simp [compactL]
theorem compactL_last (l : List α) : (compactL l).getLast? = l.getLast? := by
  rcases List.eq_nil_or_concat l with rfl | ⟨t, x, rfl⟩
  · rfl
  · rw [List.concat_eq_append, compactL_snoc, cstep]
    split
    · rename_i h; rw [h]; simp
    · simp
theorem compactL_mem (l : List α) (x : α) : x ∈ compactL l ↔ x ∈ l := by
  have key : ∀ n (l : List α), l.length = n → (x ∈ compactL l ↔ x ∈ l) := by
    intro n
    induction n with
    | zero => intro l h; have := List.length_eq_zero_iff.1 h; subst this; simp [compactL]
    | succ n ih =>
      intro l h
      rcases List.eq_nil_or_concat l with rfl | ⟨t, y, rfl⟩
      · simp [compactL]
      · rw [List.concat_eq_append] at h ⊢
        simp at h
        rw [compactL_snoc, cstep]
        split
        · rename_i he
          rw [ih t h]
          rw [compactL_last] at he
          have : y ∈ t := List.mem_of_getLast? he
          constructor
          · intro hx; simp [hx]
          · intro hx
            rcases List.mem_append.1 hx with h1 | h1
            · exact h1
            · rw [List.mem_singleton.1 h1]; exact this
        · simp [ih t h]
  exact key l.length l rfl
theorem compactL_sorted {lt : α → α → Prop} (hirr : ∀ a, ¬ lt a a) (ht : ∀ {a b c}, lt a b → lt b c → lt a c) (l : List α) (h : l.Pairwise (fun a b => a = b ∨ lt a b)) : (compactL l).Pairwise lt := by
  have key : ∀ n (l : List α), l.length = n → l.Pairwise (fun a b => a = b ∨ lt a b) → (compactL l).Pairwise lt := by
    intro n
    induction n with
    | zero => intro l h; have := List.length_eq_zero_iff.1 h; subst this; simp [compactL]
    | succ n ih =>
      intro l h hp
      rcases List.eq_nil_or_concat l with rfl | ⟨t, y, rfl⟩
      · simp [compactL]
      · rw [List.concat_eq_append] at h hp ⊢
        simp at h
        obtain ⟨p1, _, p3⟩ := List.pairwise_append.1 hp
        have hc := ih t h p1
        rw [compactL_snoc, cstep]
        split
        · exact hc
        · rename_i hne
          rw [List.pairwise_append]
          refine ⟨hc, by simp, fun a ha b hb => ?_⟩
          obtain rfl := List.mem_singleton.1 hb
          have ha' := (compactL_mem t a).1 ha
          rcases p3 a ha' b (by simp) with h1 | h1
          · subst h1
            exfalso
            rcases List.eq_nil_or_concat t with rfl | ⟨u, z, rfl⟩
            · cases ha'
            · rw [List.concat_eq_append] at *
              have hz : (compactL (u ++ [z])).getLast? = some z := by rw [compactL_last]; simp
              have hza : z ≠ a := fun e => hne (by rw [hz, e])
              have hlast : ∃ v, compactL (u ++ [z]) = v ++ [z] := by
                rcases List.eq_nil_or_concat (compactL (u ++ [z])) with e | ⟨v, q, e⟩
                · rw [e] at hz; cases hz
                · rw [List.concat_eq_append] at e; rw [e] at hz; simp at hz; exact ⟨v, by rw [e, hz]⟩
              obtain ⟨v, hv⟩ := hlast
              rw [hv] at ha hc
              rcases List.mem_append.1 ha with h2 | h2
              · have h3 := (List.pairwise_append.1 hc).2.2 a h2 z (by simp)
                rcases p3 z (by simp) a (by simp) with h4 | h4
                · exact hza h4
                · have : lt a a := ht h3 h4
                  exact hirr _ this
              · exact hza (List.mem_singleton.1 h2).symm
          · exact h1
  exact key l.length l rfl h
end
/-- Two strictly ascending lists of the same members. -/
theorem SL_ext {α : Type} {lt : α → α → Prop} (hirr : ∀ a, ¬ lt a a) (ht : ∀ {a b c}, lt a b → lt b c → lt a c) : ∀ {a b : List α}, a.Pairwise lt → b.Pairwise lt → (∀ x, x ∈ a ↔ x ∈ b) → a = b
  | [], [], _, _, _ => rfl
  | [], y :: b, _, _, h => by have := (h y).2 (by simp); cases this
  | x :: a, [], _, _, h => by have := (h x).1 (by simp); cases this
  | x :: a, y :: b, h1, h2, h => by
    obtain ⟨p1, p2⟩ := List.pairwise_cons.1 h1
    obtain ⟨q1, q2⟩ := List.pairwise_cons.1 h2
    have hxy : x = y := by
      rcases List.mem_cons.1 ((h x).1 (by simp)) with e | e
      · exact e
      · rcases List.mem_cons.1 ((h y).2 (by simp)) with e' | e'
        · exact e'.symm
        · exact absurd (ht (q1 x e) (p1 y e')) (hirr _)
    subst hxy
    congr 1
    refine SL_ext hirr ht p2 q2 fun z => ⟨fun hz => ?_, fun hz => ?_⟩
    · rcases List.mem_cons.1 ((h z).1 (by simp [hz])) with e | e
      · subst e; exact absurd (p1 z hz) (hirr _)
      · exact e
    · rcases List.mem_cons.1 ((h z).2 (by simp [hz])) with e | e
      · subst e; exact absurd (q1 z hz) (hirr _)
      · exact e
end Go.Proofs.Ytkplmgdmkfgjhaa
/- slices.Compact at pairs. -/
namespace Go.Proofs.Ytkplmgdmkfgjhaa
attribute [local irreducible] FU
theorem m_slices_Compact_L_2_int_2_int_in (l : List (Int × Int)) (hl : l.length ≤ 1099511627776) (i : Nat) (K : List (Int × Int) → Int → Option (List (Int × Int))) : ∀ (m j n : Nat) (x0 : List (Int × Int)) (x3 : Nat), i + j + m = l.length → 1 ≤ j → m < n → x0.length = l.length → x3 + 1 ≤ i + j → x0.take x3 = compactL (l.take (i + j)) → x3 = (compactL (l.take (i + j))).length → (∀ q, i + j ≤ q + 1 → x0[q]? = l[q]?) →
    ∃ (x0' : List (Int × Int)) (x3' : Nat), m_slices_Compact_L_2_int_2_int_L26 l i K n x0 x3 j = K x0' x3' ∧ x0'.length = l.length ∧ x3' ≤ l.length ∧ x0'.take x3' = compactL l := by
  intro m
  induction m with
  | zero =>
    intro j n x0 x3 hi hj hn hx h3 ht h3' hq
    obtain ⟨n, rfl⟩ : ∃ k, n = k + 1 := ⟨n - 1, by omega⟩
    refine ⟨x0, x3, ?_, hx, by omega, ?_⟩
    · rw [m_slices_Compact_L_2_int_2_int_L26, m_slices_Compact_L_2_int_2_int_B26, if_neg (by omega)]
    · rw [ht, show i + j = l.length by omega, List.take_length]
  | succ m ih =>
    intro j n x0 x3 hi hj hn hx h3 ht h3' hq
    obtain ⟨n, rfl⟩ : ∃ k, n = k + 1 := ⟨n - 1, by omega⟩
    have hlt : i + j < l.length := by omega
    have g1 : gi x0 ((i : Int) + (j : Int)) = l[i + j] := by
      rw [show (i : Int) + (j : Int) = ((i + j : Nat) : Int) by omega, gi_nat (by omega)]
      have := hq (i + j) (by omega)
      rw [List.getElem?_eq_getElem (by omega), List.getElem?_eq_getElem hlt] at this
      exact Option.some.inj this
    have g2 : gi x0 ((i : Int) + ((j : Int) - 1)) = l[i + j - 1] := by
      rw [show (i : Int) + ((j : Int) - 1) = ((i + j - 1 : Nat) : Int) by omega, gi_nat (by omega)]
      have := hq (i + j - 1) (by omega)
      rw [List.getElem?_eq_getElem (by omega), List.getElem?_eq_getElem (by omega)] at this
      exact Option.some.inj this
    have hsn : compactL (l.take (i + (j + 1))) = cstep (compactL (l.take (i + j))) l[i + j] := by
      rw [show i + (j + 1) = (i + j) + 1 by omega, ← List.take_append_getElem hlt, compactL_snoc]
    have hla : (compactL (l.take (i + j))).getLast? = some l[i + j - 1] := by
      rw [compactL_last, List.getLast?_eq_getElem?]
      simp only [List.length_take]
      rw [show min (i + j) l.length - 1 = i + j - 1 by omega, List.getElem?_take_of_lt (by omega), List.getElem?_eq_getElem (by omega)]
    rw [m_slices_Compact_L_2_int_2_int_L26, m_slices_Compact_L_2_int_2_int_B26]
    simp (disch := omega) only [if_pos, jn_eq, need_pos, i64_sub1, i64_succ, g1, g2]
    by_cases he : l[i + j] = l[i + j - 1]
    · rw [if_neg (by simp [he])]
      refine ih (j + 1) n x0 x3 (by omega) (by omega) (by omega) hx (by omega) ?_ ?_ (fun q h => hq q (by omega))
      · rw [ht, hsn, cstep, if_pos (by rw [hla, he])]
      · rw [hsn, cstep, if_pos (by rw [hla, he])]; exact h3'
    · rw [if_pos he]
      simp (disch := omega) only [need_pos, Int.toNat_natCast, i64_succ]
      have hc : cstep (compactL (l.take (i + j))) l[i + j] = compactL (l.take (i + j)) ++ [l[i + j]] := by
        rw [cstep, if_neg]
        rw [hla]; exact fun e => he (Option.some.inj e).symm
      refine ih (j + 1) n _ (x3 + 1) (by omega) (by omega) (by omega) (by simp [hx]) (by omega) ?_ ?_ (fun q h => ?_)
      · rw [hsn, hc, ← ht]
        rw [List.take_succ_eq_append_getElem (by simp; omega)]
        congr 1
        · rw [List.take_set_of_le (by omega)]
        · simp
      · rw [hsn, hc]; simp; omega
      · rw [List.getElem?_set_ne (by omega)]
        exact hq q (by omega)
theorem m_slices_Compact_L_2_int_2_int_out (l : List (Int × Int)) (hl : l.length ≤ 1099511627776) : ∀ (m i n : Nat), i + m = l.length → 1 ≤ i → m < n → compactL (l.take i) = l.take i →
    m_slices_Compact_L_2_int_2_int_L14 l (fun _ => some l) n i = some (compactL l) := by
  intro m
  induction m with
  | zero =>
    intro i n hi h1 hn hc
    obtain ⟨n, rfl⟩ : ∃ k, n = k + 1 := ⟨n - 1, by omega⟩
    rw [m_slices_Compact_L_2_int_2_int_L14, m_slices_Compact_L_2_int_2_int_B14, if_neg (by omega)]
    rw [show i = l.length by omega, List.take_length] at hc
    rw [hc]
  | succ m ih =>
    intro i n hi h1 hn hc
    obtain ⟨n, rfl⟩ : ∃ k, n = k + 1 := ⟨n - 1, by omega⟩
    have hlt : i < l.length := by omega
    have g2 : gi l ((i : Int) - 1) = l[i - 1] := by
      rw [show (i : Int) - 1 = ((i - 1 : Nat) : Int) by omega, gi_nat (by omega)]
    have hla : (l.take i).getLast? = some l[i - 1] := by
      rw [List.getLast?_eq_getElem?]
      simp only [List.length_take]
      rw [show min i l.length - 1 = i - 1 by omega, List.getElem?_take_of_lt (by omega), List.getElem?_eq_getElem (by omega)]
    have hsn : compactL (l.take (i + 1)) = cstep (l.take i) l[i] := by
      rw [← List.take_append_getElem hlt, compactL_snoc, hc]
    rw [m_slices_Compact_L_2_int_2_int_L14, m_slices_Compact_L_2_int_2_int_B14]
    simp (disch := omega) only [if_pos, jn_eq, need_pos, i64_sub1, i64_succ, g2, gi_nat]
    by_cases he : l[i] = l[i - 1]
    · rw [if_pos he]
      have hct : compactL (l.take (i + 1)) = l.take i := by rw [hsn, cstep, if_pos (by rw [hla, he])]
      have hFU := FU_ge
      obtain ⟨x0', x3', e1, e2, e3, e4⟩ := m_slices_Compact_L_2_int_2_int_in l hl i (fun x0_j694 x3_j694 => need ((0 : Int) ≤ x3_j694 ∧ x3_j694 ≤ (List.length x0_j694 : Int) ∧ (List.length x0_j694 : Int) ≤ (List.length x0_j694 : Int)) (need (0 ≤ x3_j694 ∧ x3_j694 ≤ (List.length (List.take (Int.toNat x3_j694) x0_j694 ++ List.replicate (Int.toNat (List.length x0_j694 : Int) - Int.toNat x3_j694) ((0, 0) : (Int × Int)) ++ List.drop (Int.toNat x3_j694 + (Int.toNat (List.length x0_j694 : Int) - Int.toNat x3_j694)) x0_j694) : Int)) (some (List.take (Int.toNat x3_j694) (List.take (Int.toNat x3_j694) x0_j694 ++ List.replicate (Int.toNat (List.length x0_j694 : Int) - Int.toNat x3_j694) ((0, 0) : (Int × Int)) ++ List.drop (Int.toNat x3_j694 + (Int.toNat (List.length x0_j694 : Int) - Int.toNat x3_j694)) x0_j694)))))
        (l.length - i - 1) 1 FU l i (by omega) (by omega) (by omega) rfl (by omega) hct.symm (by rw [hct]; simp; omega) (fun q _ => rfl)
      rw [show ((1 : Nat) : Int) = 1 from rfl] at e1
      rw [e1]
      have hlen : (List.take x3' x0' ++ List.replicate (x0'.length - x3') ((0, 0) : (Int × Int)) ++ List.drop (x3' + (x0'.length - x3')) x0').length = x0'.length := by simp; omega
      simp only [Int.toNat_natCast, hlen]
      rw [need_pos (by omega), need_pos (by omega), List.append_assoc, List.take_append_of_le_length (by simp; omega), List.take_take, Nat.min_self, e4]
    · rw [if_neg he]
      refine ih (i + 1) n (by omega) (by omega) (by omega) ?_
      rw [hsn, cstep, if_neg, List.take_append_getElem hlt]
      rw [hla]; exact fun e => he (Option.some.inj e).symm
theorem m_slices_Compact_L_2_int_2_int_eq (l : List (Int × Int)) (hl : l.length ≤ 1099511627776) : m_slices_Compact_L_2_int_2_int l = some (compactL l) := by
  unfold m_slices_Compact_L_2_int_2_int
  have hFU := FU_ge
  by_cases h : (List.length l : Int) < 2
  · rw [if_pos h]
    congr 1
    match l, h with
    | [], _ => rfl
    | [x], _ => simp [compactL, cstep]
    | x :: y :: t, h => simp at h; omega
  · rw [if_neg h, jn_eq]
    have h1 : compactL (l.take 1) = l.take 1 := by
      match l with
      | [] => rfl
      | x :: t => simp [compactL, cstep]
    exact m_slices_Compact_L_2_int_2_int_out l hl (l.length - 1) 1 FU (by omega) (by omega) (by omega) h1

end Go.Proofs.Ytkplmgdmkfgjhaa
/- Sorting, merging, subtracting of the program, and the reference's. -/
namespace Go.Proofs.Ytkplmgdmkfgjhaa
attribute [local irreducible] FU

theorem clone_eq (l : List (Int × Int)) (hl : l.length ≤ 100000000) : m_slices_Clone_L_2_int_2_int l = some l := by
  unfold m_slices_Clone_L_2_int_2_int
  rw [nilc_eq (fun h => by subst h; simp [need]), need_pos (by simp; omega)]
  simp
theorem sl_ext {a b : List (Int × Int)} (ha : SL a) (hb : SL b) (h : ∀ x, x ∈ a ↔ x ∈ b) : a = b := SL_ext (fun _ => LtP.irrefl) LtP.trans ha hb h
theorem sortP_sl (l : List (Int × Int)) : SL (compactL (sortP l)) ∧ ∀ x, x ∈ compactL (sortP l) ↔ x ∈ l := by
  refine ⟨compactL_sorted (fun _ => LtP.irrefl) LtP.trans _ ?_, fun x => by rw [compactL_mem]; exact List.mem_mergeSort⟩
  have h := List.pairwise_mergeSort (le := fun x y : Int × Int => !ltP y x) (fun a b c h1 h2 => by
    simp only [ltP, Bool.not_eq_true', decide_eq_false_iff_not] at h1 h2 ⊢; omega) (fun a b => by
    simp only [ltP, Bool.or_eq_true, Bool.not_eq_true', decide_eq_false_iff_not]; omega) l
  refine h.imp fun {a b} hab => ?_
  have hab' : ¬ LtP b a := by simp only [ltP, Bool.not_eq_true', decide_eq_false_iff_not] at hab; exact hab
  rcases LtP.tri a b with h | h | h
  · exact .inr h
  · exact .inl h
  · exact absurd h hab'
def allOk (l : List (Int × Int)) : Bool := l.all (fun p => decide (OkP p))
noncomputable def sortedL (l : List (Int × Int)) : List (Int × Int) := if allOk l then compactL (sortP l) else []
theorem allOk_iff (l : List (Int × Int)) : allOk l = true ↔ ∀ p ∈ l, OkP p := by simp [allOk]
theorem fSorted (l : List (Int × Int)) (hl : l.length ≤ 100000000) : m_frontier_Sorted l = some (sortedL l) := by
  unfold m_frontier_Sorted
  rw [jn_eq]
  have h := loop_all l (by omega) (fun n (_ : Unit) i => m_frontier_Sorted_L2 l (fun (_ : Unit) => bnd1 (m_slices_Clone_L_2_int_2_int l) (fun y21 => bnd1 (m_sortP y21) (fun y23 => bnd1 (m_slices_Compact_L_2_int_2_int y23) (fun y24 => some y24)))) n i)
    (fun s x k => if !decide (OkP x) then some [] else k s) (fun _ => bnd1 (m_slices_Clone_L_2_int_2_int l) (fun y21 => bnd1 (m_sortP y21) (fun y23 => bnd1 (m_slices_Compact_L_2_int_2_int y23) (fun y24 => some y24)))) (fun n s i hi => by
      show m_frontier_Sorted_L2 l _ (n + 1) i = _
      rw [m_frontier_Sorted_L2, m_frontier_Sorted_B2]
      simp (disch := omega) only [if_pos, need_pos, gi_nat, fIsPair, bnd1_mk, i64_succ]) (fun n s => by
      show m_frontier_Sorted_L2 l _ (n + 1) _ = _
      rw [m_frontier_Sorted_L2, m_frontier_Sorted_B2, if_neg (by omega)]) ()
  refine h.trans ?_
  rw [foldK_any, clone_eq l hl, bnd1_mk]
  have hs : m_sortP l = some (sortP l) := need_pos (by omega)
  rw [hs, bnd1_mk, m_slices_Compact_L_2_int_2_int_eq _ (by unfold sortP; rw [List.length_mergeSort]; omega), bnd1_mk]
  unfold sortedL allOk
  cases h : l.all (fun p => decide (OkP p)) with
  | true => rw [if_neg, if_pos rfl]; rw [Bool.not_eq_true]; simp at h ⊢; exact h
  | false => rw [if_pos]; simp; simp at h ⊢; exact h
theorem rSorted (l : List (Int × Int)) (hl : l.length ≤ 100000000) : m_ref35_Sorted l = some (sortedL l) := by
  obtain ⟨s, s1, s2, s3, s4⟩ := sorted_spec l hl
  rw [s1]
  congr 1
  unfold sortedL
  by_cases h : ∀ p ∈ l, OkP p
  · obtain ⟨t1, t2⟩ := s3 h
    obtain ⟨u1, u2⟩ := sortP_sl l
    rw [if_pos ((allOk_iff l).2 h)]
    exact sl_ext t1 u1 (fun x => by rw [t2, u2])
  · rw [s4 h, if_neg (fun hh => h ((allOk_iff l).1 hh))]

/-! ### Searching -/
/-! ### Merging -/
end Go.Proofs.Ytkplmgdmkfgjhaa
/- A run written to the disk and read again. -/
namespace Go.Proofs.Ytkplmgdmkfgjhaa
attribute [local irreducible] FU
/-- A file: the blocks of a run; how many. -/
noncomputable def fB (n : Nat) : Nat → List (Int × Int) → List UInt8
  | 0, _ => []
  | k + 1, l => if l = [] then [] else blk (l.take n) ++ fB n k (l.drop n)
def nB (n : Nat) : Nat → List (Int × Int) → Nat
  | 0, _ => 0
  | k + 1, l => if l = [] then 0 else 1 + nB n k (l.drop n)
theorem fB_nil (n k : Nat) : fB n k [] = [] := by cases k <;> simp [fB]
theorem nB_nil (n k : Nat) : nB n k [] = 0 := by cases k <;> simp [nB]
theorem fB_len {n : Nat} (hn : 1 ≤ n) : ∀ (k : Nat) (l : List (Int × Int)), (fB n k l).length ≤ 19 * l.length
  | 0, l => by simp [fB]
  | k + 1, l => by
    rw [fB]
    by_cases h : l = []
    · rw [if_pos h]; simp
    · rw [if_neg h]
      have h1 := fB_len hn k (l.drop n)
      have h2 := bd_len (l.take n)
      have h3 := blk_len (l.take n)
      have h4 : l.length ≠ 0 := fun e => h (List.eq_nil_of_length_eq_zero e)
      rw [List.length_drop] at h1
      rw [List.length_take] at h2
      rw [List.length_append]
      omega
theorem nB_le (n : Nat) : ∀ (k : Nat) (l : List (Int × Int)), nB n k l ≤ k
  | 0, l => by simp [nB]
  | k + 1, l => by
    rw [nB]
    split
    · omega
    · have := nB_le n k (l.drop n); omega
theorem nB_eq {n : Nat} (hn : 1 ≤ n) : ∀ (k : Nat) (l : List (Int × Int)), l.length ≤ k → nB n k l = (l.length + n - 1) / n
  | 0, l, h => by
    have : l.length = 0 := by omega
    rw [nB, this, Nat.zero_add, Nat.div_eq_of_lt (by omega)]
  | k + 1, l, h => by
    rw [nB]
    by_cases h0 : l = []
    · rw [if_pos h0, h0, List.length_nil, Nat.zero_add, Nat.div_eq_of_lt (by omega)]
    · have h4 : l.length ≠ 0 := fun e => h0 (List.eq_nil_of_length_eq_zero e)
      rw [if_neg h0, nB_eq hn k _ (by rw [List.length_drop]; omega), List.length_drop]
      by_cases h5 : l.length ≤ n
      · rw [show l.length - n = 0 by omega, Nat.zero_add, Nat.div_eq_of_lt (by omega), show l.length + n - 1 = (l.length - 1) + n by omega, Nat.add_div_right _ (by omega), Nat.div_eq_of_lt (by omega)]
      · rw [show l.length + n - 1 = (l.length - n + n - 1) + n by omega, Nat.add_div_right _ (by omega)]; omega
theorem run_take {l : List (Int × Int)} (h : Run l) (n : Nat) : Run (l.take n) := by
  rw [run_iff] at h ⊢
  exact ⟨fun p hp => h.1 p (List.mem_of_mem_take hp), h.2.sublist (List.take_sublist ..)⟩
theorem run_drop {l : List (Int × Int)} (h : Run l) (n : Nat) : Run (l.drop n) := by
  rw [run_iff] at h ⊢
  exact ⟨fun p hp => h.1 p (List.mem_of_mem_drop hp), h.2.sublist (List.drop_sublist ..)⟩
/-- The disk with one file at the most; w: the writes. -/
def DQ (cap : Int) (D : Dk) (data : List UInt8) (w : Nat) : Prop := D.cap = cap ∧ D.fl = 0 ∧ D.dn = false ∧ D.wr = (w : Int) ∧ ((D.names = [] ∧ D.files = [] ∧ data = [] ∧ D.pend = []) ∨ ∃ d, D.names = [([114], 0)] ∧ D.files = [(data, d)] ∧ D.pend.length ≤ 1)
def DR (cap : Int) (D : Dk) (data : List UInt8) (w : Nat) : Prop := D.cap = cap ∧ D.fl = 0 ∧ D.dn = false ∧ D.wr = (w : Int) ∧ ∃ d, D.names = [([114], 0)] ∧ D.files = [(data, d)] ∧ D.pend.length ≤ 1
theorem DR.q {cap : Int} {D : Dk} {data : List UInt8} {w : Nat} (h : DR cap D data w) : DQ cap D data w := ⟨h.1, h.2.1, h.2.2.1, h.2.2.2.1, .inr h.2.2.2.2⟩
theorem used0 (D : Dk) (h : D.names = []) : m_dkUsed D = some 0 := by
  unfold m_dkUsed
  rw [h]
  exact rngC_mk (fun l' hp => by rw [hp.eq_nil]; rfl)
theorem used1 {D : Dk} {s data : List UInt8} {d : Int} (h : D.names = [(s, 0)]) (hf : D.files = [(data, d)]) (hd : data.length ≤ 1000000000) : m_dkUsed D = some (data.length : Int) := by
  unfold m_dkUsed
  rw [h, hf]
  refine rngC_mk (fun l' hp => ?_)
  rw [List.perm_singleton.1 hp]
  show ((m_dkUsedR [(data, d)] (s, 0) 0).bind _).bind _ = _
  unfold m_dkUsedR
  rw [need_pos (by simp)]
  simp only [show gi [(data, d)] (0 : Int) = (data, d) from rfl]
  rw [i64_id (by omega)]
  simp [foldB]
theorem ap_ok {cap : Int} {D : Dk} {data b : List UInt8} {w : Nat} (h : DQ cap D data w) (hc : (data.length : Int) + b.length ≤ cap) (h0 : 0 ≤ cap) (hc2 : cap ≤ 4194304) (hw : w ≤ 1000000) : ∃ D', m_disk_Append D [114] b = some (0, D') ∧ DR cap D' (data ++ b) (w + 1) := by
  obtain ⟨cap', files, names, dur, pend, wr, fl, dn⟩ := D
  obtain ⟨c1, c2, c3, c4, c5⟩ := h
  dsimp only at c1 c2 c3 c4 c5
  subst c1 c2 c3 c4
  have hww : i64 ((w : Int) + 1) = ((w + 1 : Nat) : Int) := by rw [i64_id (by omega)]; omega
  have hdw : ∀ f n d p, dkWr ⟨cap', f, n, d, p, (w : Int), 0, false⟩ = ⟨cap', f, n, d, p, ((w + 1 : Nat) : Int), 0, false⟩ := fun f n d p => by
    unfold dkWr; simp [hww]
  rcases c5 with ⟨rfl, rfl, rfl, rfl⟩ | ⟨d, rfl, rfl, hp⟩
  · unfold m_disk_Append dkBy
    rw [used0 _ rfl, hdw]
    simp only [bnd1_mk, lookL, Option.getD_none, List.length_nil]
    rw [if_neg (by simp), if_neg (by simp), if_neg (by omega), if_neg (by rw [i64_id (by simp at hc ⊢; omega)]; simp at hc ⊢; omega), need_pos (by simp at hc; omega), if_pos trivial, need_pos (by omega)]
    exact ⟨_, rfl, rfl, rfl, rfl, rfl, 0, by simp [putL], by simp, by simp⟩
  · unfold m_disk_Append dkBy
    rw [used1 (D := ⟨cap', [(data, d)], [([114], 0)], dur, pend, (w : Int), 0, false⟩) rfl rfl (by omega), hdw]
    simp only [bnd1_mk, lookL, if_true, Option.getD_some, List.length_cons, List.length_nil]
    rw [if_neg (by simp), if_neg (by simp), if_neg (by omega), if_neg (by rw [i64_id (by omega)]; omega), need_pos (by omega), if_neg (by omega), need_pos (by simp), show gi [(data, d)] (0 : Int) = (data, d) from rfl]
    simp only [Bool.false_eq_true, if_false]
    rw [need_pos (by omega)]
    exact ⟨_, rfl, rfl, rfl, rfl, rfl, d, rfl, rfl, hp⟩
theorem sync_ok {cap : Int} {D : Dk} {data : List UInt8} {w : Nat} (h : DR cap D data w) (hw : w ≤ 1000000) : ∃ D', m_disk_Sync D [114] = some (0, D') ∧ DR cap D' data (w + 1) := by
  obtain ⟨cap', files, names, dur, pend, wr, fl, dn⟩ := D
  obtain ⟨c1, c2, c3, c4, d, c5, c6, c7⟩ := h
  dsimp only at c1 c2 c3 c4 c5 c6 c7
  subst c1 c2 c3 c4 c5 c6
  have hww : i64 ((w : Int) + 1) = ((w + 1 : Nat) : Int) := by rw [i64_id (by omega)]; omega
  unfold m_disk_Sync dkChk dkWr
  simp only [lookL, if_true, Option.getD_some, List.length_cons, List.length_nil, Int.lt_irrefl, if_false, hww]
  simp only [Bool.false_eq_true, if_false]
  rw [if_neg (by simp), need_pos (by simp), show gi [(data, d)] (0 : Int) = (data, d) from rfl]
  exact ⟨_, rfl, rfl, rfl, rfl, rfl, (data.length : Int), rfl, rfl, by simp⟩
theorem read_ok {cap : Int} {D : Dk} {data : List UInt8} {w : Nat} (h : DR cap D data w) (hd : data.length ≤ 1000000) : m_disk_Read D [114] = some (data, 0, D) := by
  obtain ⟨cap', files, names, dur, pend, wr, fl, dn⟩ := D
  obtain ⟨c1, c2, c3, c4, d, c5, c6, c7⟩ := h
  dsimp only at c1 c2 c3 c4 c5 c6 c7
  subst c1 c2 c3 c4 c5 c6
  unfold m_disk_Read dkChk
  simp only [lookL, if_true, Option.getD_some, List.length_cons, List.length_nil]
  simp only [Bool.false_eq_true, if_false]
  rw [if_neg (by simp), need_pos (by simp), show gi [(data, d)] (0 : Int) = (data, d) from rfl, need_pos (by dsimp only; omega)]
theorem wr_loop {l : List (Int × Int)} (hr : Run l) (hl : l.length ≤ 1000) {n : Nat} (hn : 1 ≤ n ∧ n ≤ 1024) {cap : Int} (h0 : 0 ≤ cap) (hc2 : cap ≤ 4194304) (K : Dk → Option (Int × Dk)) : ∀ (k fu a w : Nat) (D : Dk) (data : List UInt8), (l.drop a).length ≤ k → k < fu → a ≤ 3000 → DQ cap D data w → (data.length : Int) + (fB n k (l.drop a)).length ≤ cap → w + k ≤ 1000000 →
    ∃ D', m_frontier_Write_L2 [114] l (n : Int) K fu D (a : Int) = K D' ∧ DQ cap D' (data ++ fB n k (l.drop a)) (w + nB n k (l.drop a)) ∧ (l.drop a ≠ [] → DR cap D' (data ++ fB n k (l.drop a)) (w + nB n k (l.drop a)))
  | k, 0, a, w, D, data, hk, hf, _, _, _, _ => by omega
  | k, fu + 1, a, w, D, data, hk, hf, ha, hq, hc, hw => by
    rw [m_frontier_Write_L2, m_frontier_Write_B2]
    by_cases hal : a < l.length
    · obtain ⟨k, rfl⟩ : ∃ q, k = q + 1 := ⟨k - 1, by rw [List.length_drop] at hk; omega⟩
      have hne : l.drop a ≠ [] := fun e => by have := congrArg List.length e; rw [List.length_drop, List.length_nil] at this; omega
      have e1 : i64 ((a : Int) + (n : Int)) = ((a + n : Nat) : Int) := by rw [i64_id (by omega)]; omega
      have hmin : min ((a + n : Nat) : Int) (l.length : Int) = ((min (a + n) l.length : Nat) : Int) := by omega
      have hch : List.take (Int.toNat ((min (a + n) l.length : Nat) : Int) - Int.toNat (a : Int)) (List.drop (Int.toNat (a : Int)) l) = (l.drop a).take n := by
        rw [Int.toNat_natCast, Int.toNat_natCast, List.take_eq_take_iff, List.length_drop]; omega
      rw [fB, if_neg hne, List.length_append] at hc
      rw [fB, nB, if_neg hne, if_neg hne]
      rw [if_pos (by omega), e1, hmin, need_pos (by omega), hch, encode_spec (run_take (run_drop hr a) n) (by rw [List.length_take]; omega), bnd1_mk]
      obtain ⟨D1, e2, q1⟩ := ap_ok hq (b := blk ((l.drop a).take n)) (by omega) h0 hc2 (by omega)
      rw [e2, bnd1_mk]
      dsimp only
      rw [if_neg (by simp)]
      have hd : (l.drop a).drop n = l.drop (a + n) := List.drop_drop ..
      rw [hd] at hc ⊢
      obtain ⟨D2, e3, q2, q3⟩ := wr_loop hr hl hn h0 hc2 K k fu (a + n) (w + 1) D1 (data ++ blk ((l.drop a).take n)) (by rw [List.length_drop] at hk ⊢; omega) (by omega) (by omega) q1.q (by rw [List.length_append]; omega) (by omega)
      rw [List.append_assoc, show w + 1 + nB n k (l.drop (a + n)) = w + (1 + nB n k (l.drop (a + n))) by omega] at q2 q3
      refine ⟨D2, e3, q2, fun _ => ?_⟩
      by_cases hne2 : l.drop (a + n) = []
      · rw [hne2] at q2
        obtain ⟨c1, c2, c3, c4, c5⟩ := q2
        rw [hne2]
        refine ⟨c1, c2, c3, c4, ?_⟩
        rcases c5 with ⟨_, _, c5, _⟩ | c5
        · exfalso
          have h1 := congrArg List.length c5
          have h2 := bd_len ((l.drop a).take n)
          rw [List.length_append, List.length_append, blk_len, List.length_nil] at h1
          omega
        · exact c5
      · exact q3 hne2
    · have hnil : l.drop a = [] := List.drop_of_length_le (by omega)
      rw [if_neg (by omega), hnil, fB_nil, nB_nil, List.append_nil, Nat.add_zero]
      exact ⟨D, rfl, hq, fun h => absurd rfl h⟩
theorem isRun_ok {l : List (Int × Int)} (h : Run l) (hl : l.length ≤ 1099511627776) : m_frontier_isRun l = some true := by
  obtain ⟨b, r1, _, r3⟩ := run_agree l hl
  rw [r1, r3.2 h]
/-- What Write does. -/
theorem write_ok {l : List (Int × Int)} (hr : Run l) (hl : l.length ≤ 1000) {n : Nat} (hn : 1 ≤ n ∧ n ≤ 1024) {cap : Int} (h0 : 0 ≤ cap) (hc2 : cap ≤ 4194304) (hc : ((fB n l.length l).length : Int) ≤ cap) {D : Dk} (hD : DQ cap D [] 0) :
    ∃ D', m_frontier_Write D [114] l (n : Int) = some (0, D') ∧ DR cap D' (fB n l.length l) (max (nB n l.length l) 1 + 1) := by
  have key : ∃ D1, DR cap D1 (fB n l.length l) (max (nB n l.length l) 1) ∧ (if (l.length : Int) = 0 then (bnd1 (m_disk_Append D [114] ([] : List UInt8)) (fun y11 => if ¬ y11.1 = 0 then (some (y11.1, y11.2)) else (m_frontier_Write_L2 [114] l (n : Int) (fun x0d_j13 => bnd1 (m_disk_Sync x0d_j13 [114]) (fun y39 => some (y39.1, y39.2))) FU y11.2 0))) else (m_frontier_Write_L2 [114] l (n : Int) (fun x0d_j13 => bnd1 (m_disk_Sync x0d_j13 [114]) (fun y39 => some (y39.1, y39.2))) FU D 0)) = bnd1 (m_disk_Sync D1 [114]) (fun y39 => some (y39.1, y39.2)) := by
    by_cases hz : l = []
    · subst hz
      obtain ⟨D1, e1, q1⟩ := ap_ok hD (b := []) (by simpa using h0) h0 hc2 (by omega)
      refine ⟨D1, ?_, ?_⟩
      · rw [fB_nil, nB_nil]; exact q1
      · rw [if_pos (by simp), e1, bnd1_mk]
        dsimp only
        rw [if_neg (by simp)]
        obtain ⟨q, hq⟩ := FU_k 1 (by omega)
        rw [hq, m_frontier_Write_L2, m_frontier_Write_B2, if_neg (by simp)]
    · have h4 : l.length ≠ 0 := fun e => hz (List.eq_nil_of_length_eq_zero e)
      obtain ⟨D1, e1, _, q1⟩ := wr_loop hr hl hn h0 hc2 (fun x0d_j13 => bnd1 (m_disk_Sync x0d_j13 [114]) (fun y39 => some (y39.1, y39.2))) l.length FU 0 0 D [] (by simp) (by have := FU_ge; omega) (by omega) hD (by simpa using hc) (by omega)
      rw [List.drop_zero] at q1
      have q2 := q1 hz
      rw [List.nil_append, Nat.zero_add] at q2
      have h5 : 1 ≤ nB n l.length l := by
        obtain ⟨k, hk⟩ : ∃ k, l.length = k + 1 := ⟨l.length - 1, by omega⟩
        rw [hk, nB, if_neg hz]; omega
      refine ⟨D1, by rw [Nat.max_eq_left h5]; exact q2, ?_⟩
      rw [if_neg (by omega)]; exact e1
  obtain ⟨D1, q1, e1⟩ := key
  have hnb := nB_le n l.length l
  obtain ⟨D2, e2, q2⟩ := sync_ok q1 (by omega)
  refine ⟨D2, ?_, q2⟩
  unfold m_frontier_Write
  simp only [jn_eq]
  rw [isRun_ok hr (by omega), bnd1_mk]
  simp only [Bool.not_true, Bool.false_eq_true, if_false]
  rw [if_neg (by omega), decide_eq_false (by omega), if_neg (by simp), e1, e2, bnd1_mk]
end Go.Proofs.Ytkplmgdmkfgjhaa
/- Reading what was written; the law of the round trip; the examples. -/
namespace Go.Proofs.Ytkplmgdmkfgjhaa
attribute [local irreducible] FU
abbrev RdR := List (Int × Int) × Int × Int × Dk
/-- A round of read. -/
theorem rd_step {l : List (Int × Int)} (hr : Run l) {n : Nat} (hn : 1 ≤ n ∧ n ≤ 1024) {y : List UInt8 × Int × Dk} (hx : y.1.length ≤ 10000000) {K : Int → List (Int × Int) → Int → Option RdR} {rec2 : Int → List (Int × Int) → Int → Int → Option RdR} {a p cnt : Nat} {R : List UInt8} (hal : a < l.length) (hl : l.length ≤ 1000) (hc : cnt ≤ 10000)
    (hd : y.1.drop p = blk ((l.drop a).take n) ++ R) : m_frontier_read_B2 y K rec2 0 (l.take a) (cnt : Int) (p : Int) = rec2 0 (l.take (a + n)) ((cnt + 1 : Nat) : Int) ((p + (blk ((l.drop a).take n)).length : Nat) : Int) := by
  have hcl : ((l.drop a).take n).length = min n (l.length - a) := by rw [List.length_take, List.length_drop]
  have hb := bd_len ((l.drop a).take n)
  have hbl := blk_len ((l.drop a).take n)
  have hlen := congrArg List.length hd
  rw [List.length_drop, List.length_append] at hlen
  have hD := (dec_start hx (run_take (run_drop hr a) n) (by omega) (by omega) (a := p) (rest := sum4 (cs (bd ((l.drop a).take n))) ++ R) (by rw [hd, blk, List.append_assoc])).2 R rfl
  have hct : i64 ((cnt : Int) + 1) = ((cnt + 1 : Nat) : Int) := by rw [i64_id (by omega)]; omega
  have htk : l.take a ++ (l.drop a).take n = l.take (a + n) := List.take_add.symm
  have hta : (l.take a).length = a := by rw [List.length_take]; omega
  unfold m_frontier_read_B2
  simp only [jn_eq, if_true]
  rw [decide_eq_true (by omega), if_pos rfl, hD, bnd1_mk]
  simp only [if_true]
  by_cases h0 : a = 0
  · subst h0
    rw [if_neg (by simp), if_neg (by simp), need_pos (by rw [hta, hcl]; omega), htk, hct]
  · obtain ⟨_, hlt⟩ := (run_at hr hal).2 (by omega)
    have e6 : i64 (((l.take a).length : Int) - 1) = (a : Int) - 1 := by rw [hta, i64_id (by omega)]
    have g1 : gi (l.take a) ((a : Int) - 1) = gi l ((a : Int) - 1) := by
      obtain ⟨k, hk⟩ : ∃ k : Nat, (a : Int) - 1 = (k : Int) := ⟨a - 1, by omega⟩
      rw [hk, gi_nat (by omega), gi_nat (by omega), List.getElem_take]
    have g2 : gi ((l.drop a).take n) 0 = gi l (a : Int) := by
      rw [show (0 : Int) = ((0 : Nat) : Int) from rfl, gi_nat (by omega), gi_nat hal, List.getElem_take, List.getElem_drop]
      simp
    rw [if_pos (by omega), need_pos (by omega), e6, need_pos (by omega), g1, g2, fCompare, if_pos hlt, bnd1_mk, decide_eq_false (by omega), if_neg (by simp), need_pos (by rw [hta, hcl]; omega), htk, hct]
theorem fB_step {n k : Nat} {l : List (Int × Int)} (h : l ≠ []) : fB n (k + 1) l = blk (l.take n) ++ fB n k (l.drop n) := by rw [fB, if_neg h]
theorem rd_loop {l : List (Int × Int)} (hr : Run l) (hl : l.length ≤ 1000) {n : Nat} (hn : 1 ≤ n ∧ n ≤ 1024) {y : List UInt8 × Int × Dk} (hx : y.1.length ≤ 10000000) (K : Int → List (Int × Int) → Int → Option RdR) : ∀ (k fu a p cnt : Nat), (l.drop a).length ≤ k → k < fu → cnt + k ≤ 10000 → y.1.drop p = fB n k (l.drop a) →
    m_frontier_read_L2 y K fu 0 (l.take a) (cnt : Int) (p : Int) = K 0 l ((cnt + nB n k (l.drop a) : Nat) : Int)
  | k, 0, a, p, cnt, hk, hf, _, _ => by omega
  | k, fu + 1, a, p, cnt, hk, hf, hc, hd => by
    rw [m_frontier_read_L2]
    by_cases hal : a < l.length
    · obtain ⟨k, rfl⟩ : ∃ q, k = q + 1 := ⟨k - 1, by rw [List.length_drop] at hk; omega⟩
      have hne : l.drop a ≠ [] := fun e => by have := congrArg List.length e; rw [List.length_drop, List.length_nil] at this; omega
      have hdd : (l.drop a).drop n = l.drop (a + n) := List.drop_drop ..
      rw [fB_step hne, hdd] at hd
      rw [rd_step hr hn hx hal hl (by omega) hd, nB, if_neg hne, hdd]
      have hd2 : y.1.drop (p + (blk ((l.drop a).take n)).length) = fB n k (l.drop (a + n)) := by rw [← List.drop_drop, hd, List.drop_left]
      rw [rd_loop hr hl hn hx K k fu (a + n) _ (cnt + 1) (by rw [List.length_drop] at hk ⊢; omega) (by omega) (by omega) hd2]
      congr 2; omega
    · have hnil : l.drop a = [] := List.drop_of_length_le (by omega)
      rw [hnil, fB_nil] at hd
      have hlen := congrArg List.length hd
      rw [List.length_drop, List.length_nil] at hlen
      unfold m_frontier_read_B2
      simp only [jn_eq, if_true]
      rw [decide_eq_false (by omega), if_neg (by simp), hnil, nB_nil, List.take_of_length_le (by omega), Nat.add_zero]
theorem fread_ok {l : List (Int × Int)} (hr : Run l) (hl : l.length ≤ 1000) {n : Nat} (hn : 1 ≤ n ∧ n ≤ 1024) {cap : Int} {D : Dk} {w : Nat} (hD : DR cap D (fB n l.length l) w) : m_frontier_read D [114] = some (l, ((nB n l.length l : Nat) : Int), 0, D) := by
  have hb := fB_len hn.1 l.length l
  unfold m_frontier_read
  rw [read_ok hD (by omega), bnd1_mk, jn_eq]
  have := rd_loop hr hl hn (y := (fB n l.length l, 0, D)) (by dsimp only; omega) (fun (x8_j3 : Int) (x9_j3 : List (Int × Int)) (x10_j3 : Int) => if ¬ x8_j3 = 0 then (some ([], 0, x8_j3, (fB n l.length l, (0 : Int), D).2.2)) else (some (x9_j3, x10_j3, 0, (fB n l.length l, (0 : Int), D).2.2))) l.length FU 0 0 0 (by simp) (by have := FU_ge; omega) (by omega) rfl
  rw [List.take_zero, List.drop_zero, Nat.zero_add] at this
  exact this.trans (by rw [if_neg (by simp)])
end Go.Proofs.Ytkplmgdmkfgjhaa
/- The laws: round trip, examples. -/
namespace Go.Proofs.Ytkplmgdmkfgjhaa
attribute [local irreducible] FU
theorem run_ex : Run [(0, 1), (0, 2), (1, 0), (1, 1), (7, 300)] := by
  rw [run_iff]
  refine ⟨by simp [OkP], ?_⟩
  simp [SL, LtP]
theorem frontierExamples_true : m_law36_FrontierExamples = some true := by
  unfold m_law36_FrontierExamples
  have hNew : m_disk_New 1000 = some (⟨1000, [], [], [], [], 0, 0, false⟩, 0) := by unfold m_disk_New; rw [need_pos (by omega)]
  have hb := fB_len (n := 2) (by omega) 5 [(0, 1), (0, 2), (1, 0), (1, 1), (7, 300)]
  obtain ⟨D, w1, w2⟩ := write_ok run_ex (by simp) (n := 2) (by omega) (cap := 1000) (by omega) (by omega) (by simp at hb ⊢; omega) (D := ⟨1000, [], [], [], [], 0, 0, false⟩) ⟨rfl, rfl, rfl, rfl, .inl ⟨rfl, rfl, rfl, rfl⟩⟩
  have hR := fread_ok run_ex (by simp) (n := 2) (by omega) w2
  have hn : nB 2 [((0 : Int), (1 : Int)), (0, 2), (1, 0), (1, 1), (7, 300)].length [(0, 1), (0, 2), (1, 0), (1, 1), (7, 300)] = 3 := by rw [nB_eq (by omega) _ _ (Nat.le_refl _)]; rfl
  rw [hn] at hR w2
  have hBlk : m_frontier_Blocks D [114] = some (3, 0, D) := by unfold m_frontier_Blocks; rw [hR, bnd1_mk]; rfl
  have hW : m_disk_Writes D = some (4, D) := by unfold m_disk_Writes; rw [w2.2.2.2.1]; rfl
  have hS : sortedL [((2 : Int), (1 : Int)), (0, 5), (2, 1)] = [(0, 5), (2, 1)] := by
    obtain ⟨s, s1, _, s3, _⟩ := sorted_spec [(2, 1), (0, 5), (2, 1)] (by simp)
    rw [rSorted _ (by simp)] at s1
    rw [Option.some.inj s1]
    obtain ⟨t1, t2⟩ := s3 (by simp [OkP])
    refine sl_ext t1 (by simp [SL, LtP]) (fun x => ?_)
    rw [t2]
    simp only [List.mem_cons, List.not_mem_nil, or_false]
    constructor
    · rintro (h | h | h)
      · exact .inr h
      · exact .inl h
      · exact .inr h
    · rintro (h | h)
      · exact .inr (.inl h)
      · exact .inl h
  rw [hNew, bnd1_mk]
  dsimp only
  have w1' : m_frontier_Write ⟨1000, [], [], [], [], 0, 0, false⟩ [114] [(0, 1), (0, 2), (1, 0), (1, 1), (7, 300)] 2 = some (0, D) := w1
  rw [w1', bnd1_mk]
  dsimp only
  rw [hBlk, bnd1_mk, jn_eq]
  dsimp only
  rw [if_pos rfl, if_pos rfl, if_pos rfl, hW, bnd1_mk]
  dsimp only
  rw [if_pos rfl, fSorted _ (by simp), bnd1_mk, hS, same_refl _ (by simp), bnd1_mk, if_pos rfl, sane_true, bnd1_mk]
end Go.Proofs.Ytkplmgdmkfgjhaa
