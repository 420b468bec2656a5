/- Models, by program: what the functions compute. -/
import Derived.Test.YtdppkpiagdaigaaGreatDoorQv0
namespace Go.Proofs.YtdppkpiagdaigaaGreatDoor

/- cspcheck.cspcheckgen.New -/
noncomputable def m_gen_New (a0 : List Int) : Option ((List Int) × Int) :=
  some ((a0, 0).1, (a0, 0).2)
/- cspcheck.cspcheckhelp.Mod -/
noncomputable def m_help_Mod (a0 : Int) (a1 : Int) : Option Int :=
  need ((IntKind.u64.wrap (a1)) ≠ 0) (some (i64 (Int.tmod (IntKind.u64.wrap (a0)) (IntKind.u64.wrap (a1)))))
/- (*cspcheck.cspcheckgen.Choices).Next -/
noncomputable def m_gen_Choices_Next (a0 : (List Int) × Int) (a1 : Int) : Option (Int × ((List Int) × Int)) :=
  if (List.length a0.1 : Int) ≤ a0.2 then (some (0, (a0.1, a0.2))) else (need ((0 : Int) ≤ i64 ((i64 (a0.2 + 1)) - 1) ∧ (i64 ((i64 (a0.2 + 1)) - 1)) < (List.length a0.1 : Int)) (bnd1 (m_help_Mod (gi a0.1 (i64 ((i64 (a0.2 + 1)) - 1))) a1) (fun y2 => some (y2, (a0.1, i64 (a0.2 + 1))))))
/- cspcheck.cspcheckref9.Bool -/
noncomputable def m_ref9_Bool (a0 : Bool) : Option (List UInt8) :=
  if a0 then (some [2, 1]) else (some [2, 0])
/- cspcheck.cspcheckref9.two -/
noncomputable def m_ref9_two (a0 : Int) : Option (List UInt8) :=
  some [u8i (Int.fdiv a0 (2 ^ min (Int.toNat 8) IntKind.i64.bits)), u8i a0]
/- cspcheck.cspcheckref9.Name -/
noncomputable def m_ref9_Name (a0 : Int) : Option (List UInt8) :=
  jn (fun (x8_j3 : Bool) => if x8_j3 then (some ([] : List UInt8)) else (bnd1 (m_ref9_two a0) (fun y4 => need (List.length ([10] : List UInt8) + List.length y4 ≤ 9223372036854775807) (some ([10] ++ y4))))) (fun k3 => if a0 < 0 then (k3 true) else (k3 (decide (65535 < a0))))
/- cspcheck.cspcheckref9.ascending -/
noncomputable def m_ref9_ascending_B2 (self_ref9_order : (List UInt8) → (List UInt8) → Option Int) (a0 : List (List UInt8)) (a1 : Int) (k1 : Unit → Option Bool) (rec2 : Int → Option Bool) (x5_l2 : Int) : Option Bool :=
  if x5_l2 < (List.length a0 : Int) then (need ((0 : Int) ≤ i64 (x5_l2 - a1) ∧ (i64 (x5_l2 - a1)) < (List.length a0 : Int)) (need ((0 : Int) ≤ x5_l2 ∧ x5_l2 < (List.length a0 : Int)) (bnd1 (self_ref9_order (gi a0 (i64 (x5_l2 - a1))) (gi a0 x5_l2)) (fun y20 => if 0 ≤ y20 then (some false) else (rec2 (i64 (x5_l2 + a1))))))) else (k1 ())
noncomputable def m_ref9_ascending_L2 (self_ref9_order : (List UInt8) → (List UInt8) → Option Int) (a0 : List (List UInt8)) (a1 : Int) (k1 : Unit → Option Bool) : Nat → Int → Option Bool
  | 0, _ => none
  | n + 1, x5_l2 => m_ref9_ascending_B2 self_ref9_order a0 a1 k1 (m_ref9_ascending_L2 self_ref9_order a0 a1 k1 n) x5_l2
noncomputable def m_ref9_ascending (self_ref9_walk : (List UInt8) → Int → Bool → Option (Int × (List (List UInt8)) × Int)) (self_ref9_order : (List UInt8) → (List UInt8) → Option Int) (a0 : List (List UInt8)) (a1 : Int) : Option Bool :=
  jn (fun (_ : Unit) => some true) (fun k1 => m_ref9_ascending_L2 self_ref9_order a0 a1 k1 FU a1)
/- cspcheck.cspcheckref9.number -/
noncomputable def m_ref9_number_B2 (a0 : List UInt8) (k1 : Int → Option Int) (rec2 : Int → Int → Option Int) (x3_l2 : Int) (x4_l2 : Int) : Option Int :=
  if x4_l2 < 8 then (need ((0 : Int) ≤ x4_l2 ∧ x4_l2 < (List.length a0 : Int)) (rec2 (bOr .u64 (IntKind.u64.wrap (x3_l2 * 2 ^ min (Int.toNat 8) IntKind.u64.bits)) (UInt8.toNat (gi a0 x4_l2) : Int)) (i64 (x4_l2 + 1)))) else (k1 x3_l2)
noncomputable def m_ref9_number_L2 (a0 : List UInt8) (k1 : Int → Option Int) : Nat → Int → Int → Option Int
  | 0, _, _ => none
  | n + 1, x3_l2, x4_l2 => m_ref9_number_B2 a0 k1 (m_ref9_number_L2 a0 k1 n) x3_l2 x4_l2
noncomputable def m_ref9_number (a0 : List UInt8) : Option Int :=
  jn (fun (x3_j1 : Int) => some (i64 (x3_j1))) (fun k1 => m_ref9_number_L2 a0 k1 FU 0 0)
/- cspcheck.cspcheckref9.small -/
noncomputable def m_ref9_small (a0 : List UInt8) (a1 : Int) (a2 : Int) : Option Bool :=
  jn (fun (x6_j1 : Bool) => some x6_j1) (fun k1 => need ((0 : Int) ≤ 0 ∧ 0 < (List.length a0 : Int)) (if (UInt8.toNat (gi a0 0) : Int) = 1 then (need (1 ≤ (List.length a0 : Int)) (bnd1 (m_ref9_number (List.drop (Int.toNat 1) a0)) (fun y9 => if a1 ≤ y9 then (need (1 ≤ (List.length a0 : Int)) (bnd1 (m_ref9_number (List.drop (Int.toNat 1) a0)) (fun y11 => k1 (decide (y11 ≤ a2))))) else (k1 false)))) else (k1 false)))
/- cspcheck.cspcheckref9.parted -/
noncomputable def m_ref9_parted (self_ref9_walk : (List UInt8) → Int → Bool → Option (Int × (List (List UInt8)) × Int)) (self_ref9_order : (List UInt8) → (List UInt8) → Option Int) (a0 : Int) (a1 : List (List UInt8)) : Option Bool :=
  if a0 = 3 then (jn (fun (x4_j1 : Bool) => some x4_j1) (fun k1 => if 2 ≤ (List.length a1 : Int) then (k1 (decide ((List.length a1 : Int) ≤ 8))) else (k1 false))) else (if a0 = 5 then (bnd1 (m_ref9_ascending self_ref9_walk self_ref9_order a1 1) (fun y2 => some y2)) else (if a0 = 6 then (jn (fun (x4_j3 : Bool) => some x4_j3) (fun k3 => if (Int.tmod (List.length a1 : Int) 2) = 0 then (bnd1 (m_ref9_ascending self_ref9_walk self_ref9_order a1 2) (fun y5 => k3 y5)) else (k3 false))) else (if a0 = 7 then (jn (fun (x4_j6 : Bool) => some x4_j6) (fun k6 => if 1 ≤ (List.length a1 : Int) then (if (List.length a1 : Int) ≤ 9 then (need ((0 : Int) ≤ 0 ∧ 0 < (List.length a1 : Int)) (need ((0 : Int) ≤ 0 ∧ 0 < (List.length (gi a1 0) : Int)) (k6 (decide ((UInt8.toNat (gi (gi a1 0) 0) : Int) = 10))))) else (k6 false)) else (k6 false))) else (if a0 = 8 then (jn (fun (x4_j11 : Bool) => some x4_j11) (fun k11 => if 1 ≤ (List.length a1 : Int) then (if (List.length a1 : Int) ≤ 33 then (need ((0 : Int) ≤ 0 ∧ 0 < (List.length a1 : Int)) (bnd1 (m_ref9_small (gi a1 0) 0 65535) (fun y15 => k11 y15))) else (k11 false)) else (k11 false))) else (if a0 = 9 then (jn (fun (x4_j16 : Bool) => some x4_j16) (fun k16 => if 1 ≤ (List.length a1 : Int) then (need ((0 : Int) ≤ 0 ∧ 0 < (List.length a1 : Int)) (bnd1 (m_ref9_small (gi a1 0) 1 21) (fun y20 => k16 y20))) else (k16 false))) else (some true))))))
/- cspcheck.cspcheckref9.walk -/
noncomputable def m_ref9_walk_B2 (self_ref9_walk : (List UInt8) → Int → Bool → Option (Int × (List (List UInt8)) × Int)) (a0 : List UInt8) (a1 : Int) (a2 : Bool) (k13 : Int → Int → (List (List UInt8)) → Option (Int × (List (List UInt8)) × Int)) (rec2 : Int → Int → (List (List UInt8)) → Int → Option (Int × (List (List UInt8)) × Int)) (x11_l2 : Int) (x12_l2 : Int) (x13_l2 : List (List UInt8)) (x14_l2 : Int) : Option (Int × (List (List UInt8)) × Int) :=
  if x14_l2 < (bOr .i64 (i64 ((UInt8.toNat (gi a0 1) : Int) * 2 ^ min (Int.toNat 8) IntKind.i64.bits)) (UInt8.toNat (gi a0 2) : Int)) then (need ((0 : Int) ≤ x11_l2 ∧ x11_l2 ≤ (List.length a0 : Int)) (bnd1 (self_ref9_walk (List.drop (Int.toNat x11_l2) a0) (i64 (a1 - 1)) a2) (fun y41 => if y41.1 = 0 then (some (0, [], 0)) else (need ((0 : Int) ≤ x11_l2 ∧ x11_l2 ≤ i64 (x11_l2 + y41.1) ∧ (i64 (x11_l2 + y41.1)) ≤ (List.length a0 : Int)) (need (List.length x13_l2 + List.length [List.take (Int.toNat (i64 (x11_l2 + y41.1)) - Int.toNat x11_l2) (List.drop (Int.toNat x11_l2) a0)] ≤ 137438953472) (rec2 (i64 (x11_l2 + y41.1)) (max x12_l2 y41.2.2) (x13_l2 ++ [List.take (Int.toNat (i64 (x11_l2 + y41.1)) - Int.toNat x11_l2) (List.drop (Int.toNat x11_l2) a0)]) (i64 (x14_l2 + 1)))))))) else (k13 x11_l2 x12_l2 x13_l2)
noncomputable def m_ref9_walk_L2 (self_ref9_walk : (List UInt8) → Int → Bool → Option (Int × (List (List UInt8)) × Int)) (a0 : List UInt8) (a1 : Int) (a2 : Bool) (k13 : Int → Int → (List (List UInt8)) → Option (Int × (List (List UInt8)) × Int)) : Nat → Int → Int → (List (List UInt8)) → Int → Option (Int × (List (List UInt8)) × Int)
  | 0, _, _, _, _ => none
  | n + 1, x11_l2, x12_l2, x13_l2, x14_l2 => m_ref9_walk_B2 self_ref9_walk a0 a1 a2 k13 (m_ref9_walk_L2 self_ref9_walk a0 a1 a2 k13 n) x11_l2 x12_l2 x13_l2 x14_l2
noncomputable def m_ref9_walk_F (self_ref9_walk : (List UInt8) → Int → Bool → Option (Int × (List (List UInt8)) × Int)) (self_ref9_order : (List UInt8) → (List UInt8) → Option Int) (a0 : List UInt8) (a1 : Int) (a2 : Bool) : Option (Int × (List (List UInt8)) × Int) :=
  jn (fun (x24_j3 : Bool) => if x24_j3 then (some (0, [], 0)) else (need ((0 : Int) ≤ 0 ∧ 0 < (List.length a0 : Int)) (if (UInt8.toNat (gi a0 0) : Int) = 1 then (if (List.length a0 : Int) < 9 then (some (0, [], 0)) else (some (9, [], 1))) else (if (UInt8.toNat (gi a0 0) : Int) = 2 then (need ((0 : Int) ≤ 1 ∧ 1 < (List.length a0 : Int)) (if 1 < (gi a0 1) then (some (0, [], 0)) else (some (2, [], 1)))) else (jn (fun (x40_j10 : Bool) => if x40_j10 then (some (0, [], 0)) else (if (UInt8.toNat (gi a0 0) : Int) = 10 then (some (3, [], 1)) else (need ((0 : Int) ≤ 1 ∧ 1 < (List.length a0 : Int)) (need ((0 : Int) ≤ 2 ∧ 2 < (List.length a0 : Int)) (jn (fun (x11_j13 : Int) (x12_j13 : Int) (x13_j13 : List (List UInt8)) => jn (fun (x13_j51 : List (List UInt8)) (x104_j51 : Bool) => if x104_j51 then (some (0, [], 0)) else (some (x11_j13, x13_j51, i64 (x12_j13 + 1)))) (fun k51 => if a2 then (need ((0 : Int) ≤ 0 ∧ 0 < (List.length a0 : Int)) (bnd1 (m_ref9_parted self_ref9_walk self_ref9_order (UInt8.toNat (gi a0 0) : Int) x13_j13) (fun y55 => k51 x13_j13 (!y55)))) else (k51 x13_j13 false))) (fun k13 => m_ref9_walk_L2 self_ref9_walk a0 a1 a2 k13 FU 3 0 [] 0)))))) (fun k10 => if (List.length a0 : Int) < 3 then (k10 true) else (if (UInt8.toNat (gi a0 0) : Int) < 3 then (k10 true) else (k10 (decide (10 < (UInt8.toNat (gi a0 0) : Int))))))))))) (fun k3 => if (List.length a0 : Int) < 2 then (k3 true) else (k3 (decide (a1 = 0))))
/- cspcheck.cspcheckref9.sign -/
noncomputable def m_ref9_sign (a0 : Bool) (a1 : Bool) : Option Int :=
  if a0 then (some (-1)) else (if a1 then (some 1) else (some 0))
/- cspcheck.cspcheckref9.order -/
noncomputable def m_ref9_order_B2 (self_ref9_order : (List UInt8) → (List UInt8) → Option Int) (y36 : Int × (List (List UInt8)) × Int) (y37 : Int × (List (List UInt8)) × Int) (k38 : Unit → Option Int) (rec2 : Int → Option Int) (x13_l2 : Int) : Option Int :=
  jn (fun (x88_j72 : Bool) => if x88_j72 then (need ((0 : Int) ≤ x13_l2 ∧ x13_l2 < (List.length y36.2.1 : Int)) (need ((0 : Int) ≤ x13_l2 ∧ x13_l2 < (List.length y37.2.1 : Int)) (bnd1 (self_ref9_order (gi y36.2.1 x13_l2) (gi y37.2.1 x13_l2)) (fun y75 => if ¬ y75 = 0 then (some y75) else (rec2 (i64 (x13_l2 + 1))))))) else (k38 ())) (fun k72 => if x13_l2 < (List.length y36.2.1 : Int) then (k72 (decide (x13_l2 < (List.length y37.2.1 : Int)))) else (k72 false))
noncomputable def m_ref9_order_L2 (self_ref9_order : (List UInt8) → (List UInt8) → Option Int) (y36 : Int × (List (List UInt8)) × Int) (y37 : Int × (List (List UInt8)) × Int) (k38 : Unit → Option Int) : Nat → Int → Option Int
  | 0, _ => none
  | n + 1, x13_l2 => m_ref9_order_B2 self_ref9_order y36 y37 k38 (m_ref9_order_L2 self_ref9_order y36 y37 k38 n) x13_l2
noncomputable def m_ref9_order_F (self_ref9_walk : (List UInt8) → Int → Bool → Option (Int × (List (List UInt8)) × Int)) (self_ref9_order : (List UInt8) → (List UInt8) → Option Int) (a0 : List UInt8) (a1 : List UInt8) : Option Int :=
  if a0 = a1 then (some 0) else (need ((0 : Int) ≤ 0 ∧ 0 < (List.length a0 : Int)) (need ((0 : Int) ≤ 0 ∧ 0 < (List.length a1 : Int)) (if ¬ (gi a0 0) = (gi a1 0) then (need ((0 : Int) ≤ 0 ∧ 0 < (List.length a0 : Int)) (need ((0 : Int) ≤ 0 ∧ 0 < (List.length a1 : Int)) (bnd1 (m_ref9_sign (decide ((gi a0 0) < (gi a1 0))) true) (fun y23 => some y23)))) else (need ((0 : Int) ≤ 0 ∧ 0 < (List.length a0 : Int)) (if (UInt8.toNat (gi a0 0) : Int) = 1 then (need (1 ≤ (List.length a0 : Int)) (bnd1 (m_ref9_number (List.drop (Int.toNat 1) a0)) (fun y26 => need (1 ≤ (List.length a1 : Int)) (bnd1 (m_ref9_number (List.drop (Int.toNat 1) a1)) (fun y28 => bnd1 (m_ref9_sign (decide (y26 < y28)) (decide (y28 < y26))) (fun y29 => some y29)))))) else (jn (fun (x49_j30 : Bool) => if x49_j30 then (bnd1 (m_ref9_sign (decide (ltS a0 a1)) (decide (ltS a1 a0))) (fun y35 => some y35)) else (bnd1 (self_ref9_walk a0 32 false) (fun y36 => bnd1 (self_ref9_walk a1 32 false) (fun y37 => jn (fun (_ : Unit) => bnd1 (m_ref9_sign (decide ((List.length y36.2.1 : Int) < (List.length y37.2.1 : Int))) (decide ((List.length y37.2.1 : Int) < (List.length y36.2.1 : Int)))) (fun y76 => some y76)) (fun k38 => m_ref9_order_L2 self_ref9_order y36 y37 k38 FU 0))))) (fun k30 => need ((0 : Int) ≤ 0 ∧ 0 < (List.length a0 : Int)) (if (UInt8.toNat (gi a0 0) : Int) = 2 then (k30 true) else (need ((0 : Int) ≤ 0 ∧ 0 < (List.length a0 : Int)) (k30 (decide ((UInt8.toNat (gi a0 0) : Int) = 10))))))))))))
/- cspcheck.cspcheckref9.walk -/
noncomputable def m_ref9_walk_S : Nat → ((List UInt8) → Int → Bool → Option (Int × (List (List UInt8)) × Int)) × ((List UInt8) → (List UInt8) → Option Int)
  | 0 => ((fun _ _ _ => none), (fun _ _ => none))
  | n + 1 => (m_ref9_walk_F (m_ref9_walk_S n).1 (m_ref9_walk_S n).2, m_ref9_order_F (m_ref9_walk_S n).1 (m_ref9_walk_S n).2)
noncomputable def m_ref9_walk (a0 : List UInt8) (a1 : Int) (a2 : Bool) : Option (Int × (List (List UInt8)) × Int) := (m_ref9_walk_S FU).1 a0 a1 a2
noncomputable def m_ref9_order (a0 : List UInt8) (a1 : List UInt8) : Option Int := (m_ref9_walk_S FU).2 a0 a1
/- cspcheck.cspcheckref9.read -/
noncomputable def m_ref9_read (a0 : List UInt8) (a1 : Int) : Option (Int × (List (List UInt8)) × Int) :=
  bnd1 (m_ref9_walk a0 a1 true) (fun y1 => some (y1.1, y1.2.1, y1.2.2))
/- cspcheck.cspcheckref9.Valid -/
noncomputable def m_ref9_Valid (a0 : List UInt8) : Option Bool :=
  if 131072 < (List.length a0 : Int) then (some false) else (bnd1 (m_ref9_read a0 32) (fun y1 => jn (fun (x2_j2 : Bool) => some x2_j2) (fun k2 => if 0 < y1.1 then (k2 (decide (y1.1 = (List.length a0 : Int)))) else (k2 false))))
/- cspcheck.cspcheckref9.all -/
noncomputable def m_ref9_all_B2 (a0 : List (List UInt8)) (k1 : Unit → Option Bool) (rec2 : Int → Option Bool) (x3_l2 : Int) : Option Bool :=
  if x3_l2 < (List.length a0 : Int) then (need ((0 : Int) ≤ x3_l2 ∧ x3_l2 < (List.length a0 : Int)) (bnd1 (m_ref9_Valid (gi a0 x3_l2)) (fun y14 => if !y14 then (some false) else (rec2 (i64 (x3_l2 + 1)))))) else (k1 ())
noncomputable def m_ref9_all_L2 (a0 : List (List UInt8)) (k1 : Unit → Option Bool) : Nat → Int → Option Bool
  | 0, _ => none
  | n + 1, x3_l2 => m_ref9_all_B2 a0 k1 (m_ref9_all_L2 a0 k1 n) x3_l2
noncomputable def m_ref9_all (a0 : List (List UInt8)) : Option Bool :=
  jn (fun (_ : Unit) => some true) (fun k1 => m_ref9_all_L2 a0 k1 FU 0)
/- cspcheck.cspcheckref9.checked -/
noncomputable def m_ref9_checked (a0 : List UInt8) : Option (List UInt8) :=
  bnd1 (m_ref9_Valid a0) (fun y1 => if y1 then (some a0) else (some ([] : List UInt8)))
/- cspcheck.cspcheckref9.compound -/
noncomputable def m_ref9_compound_B2 (a1 : List (List UInt8)) (k3 : (List UInt8) → Option (List UInt8)) (rec2 : (List UInt8) → Int → Option (List UInt8)) (x5_l2 : List UInt8) (x6_l2 : Int) : Option (List UInt8) :=
  if x6_l2 < (List.length a1 : Int) then (jn (fun (x36_j114 : Bool) => if x36_j114 then (some ([] : List UInt8)) else (need ((0 : Int) ≤ x6_l2 ∧ x6_l2 < (List.length a1 : Int)) (need (List.length (x5_l2 : List UInt8) + List.length (gi a1 x6_l2) ≤ 9223372036854775807) (rec2 (x5_l2 ++ (gi a1 x6_l2)) (i64 (x6_l2 + 1)))))) (fun k114 => need ((0 : Int) ≤ x6_l2 ∧ x6_l2 < (List.length a1 : Int)) (if (gi a1 x6_l2) = ([] : List UInt8) then (k114 true) else (k114 (decide (131072 < (List.length x5_l2 : Int))))))) else (k3 x5_l2)
noncomputable def m_ref9_compound_L2 (a1 : List (List UInt8)) (k3 : (List UInt8) → Option (List UInt8)) : Nat → (List UInt8) → Int → Option (List UInt8)
  | 0, _, _ => none
  | n + 1, x5_l2, x6_l2 => m_ref9_compound_B2 a1 k3 (m_ref9_compound_L2 a1 k3 n) x5_l2 x6_l2
noncomputable def m_ref9_compound (a0 : Int) (a1 : List (List UInt8)) : Option (List UInt8) :=
  if 65535 < (List.length a1 : Int) then (some ([] : List UInt8)) else (bnd1 (m_ref9_two (List.length a1 : Int)) (fun y1 => need (List.length ([u8i a0] : List UInt8) + List.length y1 ≤ 9223372036854775807) (jn (fun (x5_j3 : List UInt8) => bnd1 (m_ref9_read x5_j3 32) (fun y122 => jn (fun (x59_j123 : Bool) => if x59_j123 then (some ([] : List UInt8)) else (bnd1 (m_ref9_checked x5_j3) (fun y124 => some y124))) (fun k123 => if ¬ y122.1 = (List.length x5_j3 : Int) then (k123 true) else (k123 (decide (¬ (List.length y122.2.1 : Int) = (List.length a1 : Int))))))) (fun k3 => m_ref9_compound_L2 a1 k3 FU ([u8i a0] ++ y1) 0))))
/- cspcheck.cspcheckref9.Make -/
noncomputable def m_ref9_Make (a0 : Int) (a1 : List (List UInt8)) : Option (List UInt8) :=
  bnd1 (m_ref9_all a1) (fun y1 => if !y1 then (some ([] : List UInt8)) else (bnd1 (m_ref9_compound a0 a1) (fun y2 => some y2)))
/- (*cspcheck.cspcheckgen.Choices).Values -/
noncomputable def m_gen_Choices_Values_B2 (self_gen_Choices_Value : ((List Int) × Int) → Int → Option ((List UInt8) × ((List Int) × Int))) (a1 : Int) (k1 : (List Int) → Int → (List (List UInt8)) → Option ((List (List UInt8)) × ((List Int) × Int))) (rec2 : (List Int) → Int → (List (List UInt8)) → Int → Option ((List (List UInt8)) × ((List Int) × Int))) (x0_0_l2 : List Int) (x0_1_l2 : Int) (x7_l2 : List (List UInt8)) (x8_l2 : Int) : Option ((List (List UInt8)) × ((List Int) × Int)) :=
  if 0 < x8_l2 then (bnd1 (self_gen_Choices_Value (x0_0_l2, x0_1_l2) a1) (fun y20 => need (List.length x7_l2 + List.length [y20.1] ≤ 137438953472) (rec2 y20.2.1 y20.2.2 (x7_l2 ++ [y20.1]) (i64 (x8_l2 - 1))))) else (k1 x0_0_l2 x0_1_l2 x7_l2)
noncomputable def m_gen_Choices_Values_L2 (self_gen_Choices_Value : ((List Int) × Int) → Int → Option ((List UInt8) × ((List Int) × Int))) (a1 : Int) (k1 : (List Int) → Int → (List (List UInt8)) → Option ((List (List UInt8)) × ((List Int) × Int))) : Nat → (List Int) → Int → (List (List UInt8)) → Int → Option ((List (List UInt8)) × ((List Int) × Int))
  | 0, _, _, _, _ => none
  | n + 1, x0_0_l2, x0_1_l2, x7_l2, x8_l2 => m_gen_Choices_Values_B2 self_gen_Choices_Value a1 k1 (m_gen_Choices_Values_L2 self_gen_Choices_Value a1 k1 n) x0_0_l2 x0_1_l2 x7_l2 x8_l2
noncomputable def m_gen_Choices_Values (self_gen_Choices_Value : ((List Int) × Int) → Int → Option ((List UInt8) × ((List Int) × Int))) (a0 : (List Int) × Int) (a1 : Int) (a2 : Int) : Option ((List (List UInt8)) × ((List Int) × Int)) :=
  jn (fun (x0_0_j1 : List Int) (x0_1_j1 : Int) (x7_j1 : List (List UInt8)) => some (x7_j1, (x0_0_j1, x0_1_j1))) (fun k1 => bnd1 (m_gen_Choices_Next (a0.1, a0.2) a2) (fun y13 => m_gen_Choices_Values_L2 self_gen_Choices_Value a1 k1 FU y13.2.1 y13.2.2 [] y13.1))
/- cspcheck.cspcheckref9.Compare -/
noncomputable def m_ref9_Compare (a0 : List UInt8) (a1 : List UInt8) : Option Int :=
  bnd1 (m_ref9_Valid a0) (fun y1 => bnd1 (m_ref9_Valid a1) (fun y2 => jn (fun (x11_j7 : Bool) => if x11_j7 then (bnd1 (m_ref9_order a0 a1) (fun y8 => some y8)) else (if ¬ y1 = y2 then (bnd1 (m_ref9_sign y2 y1) (fun y9 => some y9)) else (bnd1 (m_ref9_sign (decide (ltS a0 a1)) (decide (ltS a1 a0))) (fun y10 => some y10)))) (fun k7 => if y1 then (k7 y2) else (k7 false))))
/- cspcheck.cspcheckref9.Sort -/
noncomputable def m_ref9_Sort_B26 (a0 : List (List UInt8)) (x3_l14 : List (List UInt8)) (x4_l14 : Int) (k955 : Int → Option (List (List UInt8))) (rec26 : Int → Option (List (List UInt8))) (x5_l26 : Int) : Option (List (List UInt8)) :=
  jn (fun (x28_j1040 : Bool) => if x28_j1040 then (rec26 (i64 (x5_l26 - 1))) else (k955 x5_l26)) (fun k1040 => if 0 < x5_l26 then (need ((0 : Int) ≤ x4_l14 ∧ x4_l14 < (List.length a0 : Int)) (need ((0 : Int) ≤ i64 (x5_l26 - 1) ∧ (i64 (x5_l26 - 1)) < (List.length x3_l14 : Int)) (bnd1 (m_ref9_Compare (gi x3_l14 (i64 (x5_l26 - 1))) (gi a0 x4_l14)) (fun y1046 => k1040 (decide (0 < y1046)))))) else (k1040 false))
noncomputable def m_ref9_Sort_L26 (a0 : List (List UInt8)) (x3_l14 : List (List UInt8)) (x4_l14 : Int) (k955 : Int → Option (List (List UInt8))) : Nat → Int → Option (List (List UInt8))
  | 0, _ => none
  | n + 1, x5_l26 => m_ref9_Sort_B26 a0 x3_l14 x4_l14 k955 (m_ref9_Sort_L26 a0 x3_l14 x4_l14 k955 n) x5_l26
noncomputable def m_ref9_Sort_B14 (a0 : List (List UInt8)) (k1 : (List (List UInt8)) → Option (List (List UInt8))) (rec14 : (List (List UInt8)) → Int → Option (List (List UInt8))) (x3_l14 : List (List UInt8)) (x4_l14 : Int) : Option (List (List UInt8)) :=
  if x4_l14 < (List.length a0 : Int) then (jn (fun (x3_j844 : List (List UInt8)) => rec14 x3_j844 (i64 (x4_l14 + 1))) (fun k844 => jn (fun (x5_j955 : Int) => jn (fun (x44_j1053 : Bool) => if x44_j1053 then (k844 x3_l14) else (need (List.length x3_l14 + List.length ([([] : List UInt8)]) ≤ 137438953472) (need ((0 : Int) ≤ i64 (x5_j955 + 1) ∧ (i64 (x5_j955 + 1)) ≤ (List.length (x3_l14 ++ ([([] : List UInt8)])) : Int) ∧ (List.length (x3_l14 ++ ([([] : List UInt8)])) : Int) ≤ (List.length (x3_l14 ++ ([([] : List UInt8)])) : Int)) (need ((0 : Int) ≤ x5_j955 ∧ x5_j955 ≤ (List.length (x3_l14 ++ ([([] : List UInt8)])) : Int) ∧ (List.length (x3_l14 ++ ([([] : List UInt8)])) : Int) ≤ (List.length (x3_l14 ++ ([([] : List UInt8)])) : Int)) (need ((0 : Int) ≤ x4_l14 ∧ x4_l14 < (List.length a0 : Int)) (need ((0 : Int) ≤ x5_j955 ∧ x5_j955 < (List.length (List.take (Int.toNat (i64 (x5_j955 + 1))) (x3_l14 ++ ([([] : List UInt8)])) ++ List.take (Nat.min (Int.toNat (List.length (x3_l14 ++ ([([] : List UInt8)])) : Int) - Int.toNat x5_j955) (Int.toNat (List.length (x3_l14 ++ ([([] : List UInt8)])) : Int) - Int.toNat (i64 (x5_j955 + 1)))) (List.drop (Int.toNat x5_j955) (x3_l14 ++ ([([] : List UInt8)]))) ++ List.drop (Int.toNat (i64 (x5_j955 + 1)) + (Nat.min (Int.toNat (List.length (x3_l14 ++ ([([] : List UInt8)])) : Int) - Int.toNat x5_j955) (Int.toNat (List.length (x3_l14 ++ ([([] : List UInt8)])) : Int) - Int.toNat (i64 (x5_j955 + 1))))) (x3_l14 ++ ([([] : List UInt8)]))) : Int)) (k844 (List.set (List.take (Int.toNat (i64 (x5_j955 + 1))) (x3_l14 ++ ([([] : List UInt8)])) ++ List.take (Nat.min (Int.toNat (List.length (x3_l14 ++ ([([] : List UInt8)])) : Int) - Int.toNat x5_j955) (Int.toNat (List.length (x3_l14 ++ ([([] : List UInt8)])) : Int) - Int.toNat (i64 (x5_j955 + 1)))) (List.drop (Int.toNat x5_j955) (x3_l14 ++ ([([] : List UInt8)]))) ++ List.drop (Int.toNat (i64 (x5_j955 + 1)) + (Nat.min (Int.toNat (List.length (x3_l14 ++ ([([] : List UInt8)])) : Int) - Int.toNat x5_j955) (Int.toNat (List.length (x3_l14 ++ ([([] : List UInt8)])) : Int) - Int.toNat (i64 (x5_j955 + 1))))) (x3_l14 ++ ([([] : List UInt8)]))) (Int.toNat x5_j955) (gi a0 x4_l14))))))))) (fun k1053 => if 0 < x5_j955 then (need ((0 : Int) ≤ x4_l14 ∧ x4_l14 < (List.length a0 : Int)) (need ((0 : Int) ≤ i64 (x5_j955 - 1) ∧ (i64 (x5_j955 - 1)) < (List.length x3_l14 : Int)) (k1053 (decide ((gi x3_l14 (i64 (x5_j955 - 1))) = (gi a0 x4_l14)))))) else (k1053 false))) (fun k955 => m_ref9_Sort_L26 a0 x3_l14 x4_l14 k955 FU (List.length x3_l14 : Int)))) else (k1 x3_l14)
noncomputable def m_ref9_Sort_L14 (a0 : List (List UInt8)) (k1 : (List (List UInt8)) → Option (List (List UInt8))) : Nat → (List (List UInt8)) → Int → Option (List (List UInt8))
  | 0, _, _ => none
  | n + 1, x3_l14, x4_l14 => m_ref9_Sort_B14 a0 k1 (m_ref9_Sort_L14 a0 k1 n) x3_l14 x4_l14
noncomputable def m_ref9_Sort (a0 : List (List UInt8)) : Option (List (List UInt8)) :=
  jn (fun (x3_j1 : List (List UInt8)) => some x3_j1) (fun k1 => m_ref9_Sort_L14 a0 k1 FU [] 0)
/- cspcheck.cspcheckref9.Set -/
noncomputable def m_ref9_Set (a0 : List (List UInt8)) : Option (List UInt8) :=
  bnd1 (m_ref9_all a0) (fun y1 => if !y1 then (some ([] : List UInt8)) else (bnd1 (m_ref9_Sort a0) (fun y2 => bnd1 (m_ref9_compound 5 y2) (fun y3 => some y3))))
/- cspcheck.cspcheckref9.Dot -/
noncomputable def m_ref9_Dot (a0 : Int) (a1 : List (List UInt8)) : Option (List UInt8) :=
  bnd1 (m_ref9_Name a0) (fun y1 => need (List.length [y1] + List.length a1 ≤ 137438953472) (bnd1 (m_ref9_Make 7 ([y1] ++ a1)) (fun y5 => some y5)))
/- cspcheck.cspcheckref9.Map -/
noncomputable def m_ref9_Map_B14 (a0 : List (List UInt8)) (a1 : List (List UInt8)) (y12 : (List (List UInt8))) (x7_l8 : Int) (k420 : (List (List UInt8)) → Option (List UInt8)) (rec14 : (List (List UInt8)) → Int → Option (List UInt8)) (x6_l14 : List (List UInt8)) (x8_l14 : Int) : Option (List UInt8) :=
  if x8_l14 < (List.length a0 : Int) then (jn (fun (x6_j487 : List (List UInt8)) => rec14 x6_j487 (i64 (x8_l14 + 1))) (fun k487 => need ((0 : Int) ≤ x8_l14 ∧ x8_l14 < (List.length a0 : Int)) (need ((0 : Int) ≤ x7_l8 ∧ x7_l8 < (List.length y12 : Int)) (if (gi a0 x8_l14) = (gi y12 x7_l8) then (need ((0 : Int) ≤ x7_l8 ∧ x7_l8 < (List.length y12 : Int)) (need ((0 : Int) ≤ x8_l14 ∧ x8_l14 < (List.length a1 : Int)) (need (List.length x6_l14 + List.length [gi y12 x7_l8, gi a1 x8_l14] ≤ 137438953472) (k487 (x6_l14 ++ [gi y12 x7_l8, gi a1 x8_l14]))))) else (k487 x6_l14))))) else (k420 x6_l14)
noncomputable def m_ref9_Map_L14 (a0 : List (List UInt8)) (a1 : List (List UInt8)) (y12 : (List (List UInt8))) (x7_l8 : Int) (k420 : (List (List UInt8)) → Option (List UInt8)) : Nat → (List (List UInt8)) → Int → Option (List UInt8)
  | 0, _, _ => none
  | n + 1, x6_l14, x8_l14 => m_ref9_Map_B14 a0 a1 y12 x7_l8 k420 (m_ref9_Map_L14 a0 a1 y12 x7_l8 k420 n) x6_l14 x8_l14
noncomputable def m_ref9_Map_B8 (a0 : List (List UInt8)) (a1 : List (List UInt8)) (y12 : (List (List UInt8))) (k13 : (List (List UInt8)) → Option (List UInt8)) (rec8 : (List (List UInt8)) → Int → Option (List UInt8)) (x6_l8 : List (List UInt8)) (x7_l8 : Int) : Option (List UInt8) :=
  if x7_l8 < (List.length y12 : Int) then (jn (fun (x6_j420 : List (List UInt8)) => rec8 x6_j420 (i64 (x7_l8 + 1))) (fun k420 => m_ref9_Map_L14 a0 a1 y12 x7_l8 k420 FU x6_l8 0)) else (k13 x6_l8)
noncomputable def m_ref9_Map_L8 (a0 : List (List UInt8)) (a1 : List (List UInt8)) (y12 : (List (List UInt8))) (k13 : (List (List UInt8)) → Option (List UInt8)) : Nat → (List (List UInt8)) → Int → Option (List UInt8)
  | 0, _, _ => none
  | n + 1, x6_l8, x7_l8 => m_ref9_Map_B8 a0 a1 y12 k13 (m_ref9_Map_L8 a0 a1 y12 k13 n) x6_l8 x7_l8
noncomputable def m_ref9_Map (a0 : List (List UInt8)) (a1 : List (List UInt8)) : Option (List UInt8) :=
  jn (fun (x23_j7 : Bool) => if x23_j7 then (some ([] : List UInt8)) else (bnd1 (m_ref9_Sort a0) (fun y12 => if ¬ (List.length y12 : Int) = (List.length a0 : Int) then (some ([] : List UInt8)) else (jn (fun (x6_j13 : List (List UInt8)) => bnd1 (m_ref9_compound 6 x6_j13) (fun y500 => some y500)) (fun k13 => m_ref9_Map_L8 a0 a1 y12 k13 FU [] 0))))) (fun k7 => if ¬ (List.length a0 : Int) = (List.length a1 : Int) then (k7 true) else (bnd1 (m_ref9_all a0) (fun y10 => if !y10 then (k7 true) else (bnd1 (m_ref9_all a1) (fun y11 => k7 (!y11))))))
/- cspcheck.cspcheckref9.eight -/
noncomputable def m_ref9_eight_B2 (a0 : Int) (k3 : (List UInt8) → Option (List UInt8)) (rec2 : (List UInt8) → Int → Option (List UInt8)) (x3_l2 : List UInt8) (x4_l2 : Int) : Option (List UInt8) :=
  if x4_l2 < 8 then (need (¬ (IntKind.u64.wrap (i64 (8 * x4_l2))) < 0) (need ((0 : Int) ≤ i64 (7 - x4_l2) ∧ (i64 (7 - x4_l2)) < (List.length x3_l2 : Int)) (rec2 (List.set x3_l2 (Int.toNat (i64 (7 - x4_l2))) (u8i (Int.fdiv (IntKind.u64.wrap (a0)) (2 ^ min (Int.toNat (IntKind.u64.wrap (i64 (8 * x4_l2)))) IntKind.u64.bits)))) (i64 (x4_l2 + 1))))) else (k3 x3_l2)
noncomputable def m_ref9_eight_L2 (a0 : Int) (k3 : (List UInt8) → Option (List UInt8)) : Nat → (List UInt8) → Int → Option (List UInt8)
  | 0, _, _ => none
  | n + 1, x3_l2, x4_l2 => m_ref9_eight_B2 a0 k3 (m_ref9_eight_L2 a0 k3 n) x3_l2 x4_l2
noncomputable def m_ref9_eight (a0 : Int) : Option (List UInt8) :=
  need ((0 : Int) ≤ 8 ∧ (8 : Int) ≤ 137438953472) (jn (fun (x3_j3 : List UInt8) => some x3_j3) (fun k3 => m_ref9_eight_L2 a0 k3 FU (List.replicate (Int.toNat 8) (0 : UInt8)) 0))
/- cspcheck.cspcheckref9.Int -/
noncomputable def m_ref9_Int (a0 : Int) : Option (List UInt8) :=
  bnd1 (m_ref9_eight a0) (fun y1 => need (List.length ([1] : List UInt8) + List.length y1 ≤ 9223372036854775807) (some ([1] ++ y1)))
/- cspcheck.cspcheckref9.Numbered -/
noncomputable def m_ref9_Numbered (a0 : Int) (a1 : Int) (a2 : List (List UInt8)) : Option (List UInt8) :=
  bnd1 (m_ref9_Int a1) (fun y1 => need (List.length [y1] + List.length a2 ≤ 137438953472) (bnd1 (m_ref9_Make a0 ([y1] ++ a2)) (fun y5 => some y5)))
/- (*cspcheck.cspcheckgen.Choices).Number -/
noncomputable def m_gen_Choices_Number (a0 : (List Int) × Int) : Option (Int × ((List Int) × Int)) :=
  bnd1 (m_gen_Choices_Next (a0.1, a0.2) 9) (fun y1 => if y1.1 = 6 then (some ((-1), (y1.2.1, y1.2.2))) else (if y1.1 = 7 then (bnd1 (m_gen_Choices_Next (y1.2.1, y1.2.2) 2) (fun y2 => some (i64 (9223372036854775807 - y2.1), (y2.2.1, y2.2.2)))) else (if y1.1 = 8 then (bnd1 (m_gen_Choices_Next (y1.2.1, y1.2.2) 2) (fun y3 => some (i64 ((-9223372036854775808) + y3.1), (y3.2.1, y3.2.2)))) else (bnd1 (m_gen_Choices_Next (y1.2.1, y1.2.2) 7) (fun y4 => some (i64 (y4.1 - 2), (y4.2.1, y4.2.2)))))))
/- (*cspcheck.cspcheckgen.Choices).Value -/
noncomputable def m_gen_Choices_Value_B4 (self_gen_Choices_Value : ((List Int) × Int) → Int → Option ((List UInt8) × ((List Int) × Int))) (a1 : Int) (y60 : (List (List UInt8))) (k61 : (List Int) → Int → (List (List UInt8)) → Option ((List UInt8) × ((List Int) × Int))) (rec4 : (List Int) → Int → (List (List UInt8)) → Int → Option ((List UInt8) × ((List Int) × Int))) (x0_0_l4 : List Int) (x0_1_l4 : Int) (x7_l4 : List (List UInt8)) (x8_l4 : Int) : Option ((List UInt8) × ((List Int) × Int)) :=
  if x8_l4 < (List.length y60 : Int) then (bnd1 (self_gen_Choices_Value (x0_0_l4, x0_1_l4) (i64 (a1 - 1))) (fun y78 => need (List.length x7_l4 + List.length [y78.1] ≤ 137438953472) (rec4 y78.2.1 y78.2.2 (x7_l4 ++ [y78.1]) (i64 (x8_l4 + 1))))) else (k61 x0_0_l4 x0_1_l4 x7_l4)
noncomputable def m_gen_Choices_Value_L4 (self_gen_Choices_Value : ((List Int) × Int) → Int → Option ((List UInt8) × ((List Int) × Int))) (a1 : Int) (y60 : (List (List UInt8))) (k61 : (List Int) → Int → (List (List UInt8)) → Option ((List UInt8) × ((List Int) × Int))) : Nat → (List Int) → Int → (List (List UInt8)) → Int → Option ((List UInt8) × ((List Int) × Int))
  | 0, _, _, _, _ => none
  | n + 1, x0_0_l4, x0_1_l4, x7_l4, x8_l4 => m_gen_Choices_Value_B4 self_gen_Choices_Value a1 y60 k61 (m_gen_Choices_Value_L4 self_gen_Choices_Value a1 y60 k61 n) x0_0_l4 x0_1_l4 x7_l4 x8_l4
noncomputable def m_gen_Choices_Value_F (self_gen_Choices_Value : ((List Int) × Int) → Int → Option ((List UInt8) × ((List Int) × Int))) (a0 : (List Int) × Int) (a1 : Int) : Option ((List UInt8) × ((List Int) × Int)) :=
  bnd1 (m_gen_Choices_Next (a0.1, a0.2) 9) (fun y1 => jn (fun (x5_j2 : Int) => jn (fun (_ : Unit) => bnd1 (m_gen_Choices_Number (y1.2.1, y1.2.2)) (fun y85 => bnd1 (m_ref9_Int y85.1) (fun y86 => some (y86, (y85.2.1, y85.2.2))))) (fun k3 => if x5_j2 = 1 then (bnd1 (m_gen_Choices_Next (y1.2.1, y1.2.2) 2) (fun y45 => bnd1 (m_ref9_Bool (decide (y45.1 = 1))) (fun y46 => some (y46, (y45.2.1, y45.2.2))))) else (if x5_j2 = 2 then (bnd1 (m_gen_Choices_Next (y1.2.1, y1.2.2) 4) (fun y47 => bnd1 (m_ref9_Name y47.1) (fun y48 => some (y48, (y47.2.1, y47.2.2))))) else (if x5_j2 = 3 then (bnd1 (self_gen_Choices_Value (y1.2.1, y1.2.2) (i64 (a1 - 1))) (fun y49 => bnd1 (self_gen_Choices_Value (y49.2.1, y49.2.2) (i64 (a1 - 1))) (fun y50 => bnd1 (m_ref9_Make 3 [y49.1, y50.1]) (fun y51 => some (y51, (y50.2.1, y50.2.2)))))) else (if x5_j2 = 4 then (bnd1 (m_gen_Choices_Values self_gen_Choices_Value (y1.2.1, y1.2.2) (i64 (a1 - 1)) 4) (fun y52 => bnd1 (m_ref9_Make 4 y52.1) (fun y53 => some (y53, (y52.2.1, y52.2.2))))) else (if x5_j2 = 5 then (bnd1 (m_gen_Choices_Values self_gen_Choices_Value (y1.2.1, y1.2.2) (i64 (a1 - 1)) 4) (fun y54 => bnd1 (m_ref9_Set y54.1) (fun y55 => some (y55, (y54.2.1, y54.2.2))))) else (if x5_j2 = 6 then (bnd1 (m_gen_Choices_Next (y1.2.1, y1.2.2) 3) (fun y56 => bnd1 (m_gen_Choices_Values self_gen_Choices_Value (y56.2.1, y56.2.2) (i64 (a1 - 1)) 3) (fun y57 => bnd1 (m_ref9_Dot y56.1 y57.1) (fun y58 => some (y58, (y57.2.1, y57.2.2)))))) else (if x5_j2 = 7 then (bnd1 (m_gen_Choices_Values self_gen_Choices_Value (y1.2.1, y1.2.2) (i64 (a1 - 1)) 3) (fun y59 => bnd1 (m_ref9_Sort y59.1) (fun y60 => jn (fun (x0_0_j61 : List Int) (x0_1_j61 : Int) (x7_j61 : List (List UInt8)) => bnd1 (m_ref9_Map y60 x7_j61) (fun y81 => some (y81, (x0_0_j61, x0_1_j61)))) (fun k61 => m_gen_Choices_Value_L4 self_gen_Choices_Value a1 y60 k61 FU y59.2.1 y59.2.2 [] 0)))) else (if x5_j2 = 8 then (bnd1 (m_gen_Choices_Next (y1.2.1, y1.2.2) 3) (fun y82 => bnd1 (m_gen_Choices_Values self_gen_Choices_Value (y82.2.1, y82.2.2) (i64 (a1 - 1)) 2) (fun y83 => bnd1 (m_ref9_Numbered 8 y82.1 y83.1) (fun y84 => some (y84, (y83.2.1, y83.2.2)))))) else (k3 ())))))))))) (fun k2 => if a1 ≤ 1 then (k2 (Int.tmod y1.1 3)) else (k2 y1.1)))
/- (*cspcheck.cspcheckgen.Choices).Value -/
noncomputable def m_gen_Choices_Value_S : Nat → (((List Int) × Int) → Int → Option ((List UInt8) × ((List Int) × Int)))
  | 0 => (fun _ _ => none)
  | n + 1 => m_gen_Choices_Value_F (m_gen_Choices_Value_S n)
noncomputable def m_gen_Choices_Value (a0 : (List Int) × Int) (a1 : Int) : Option ((List UInt8) × ((List Int) × Int)) := m_gen_Choices_Value_S FU a0 a1
/- cspcheck.value.append64 -/
noncomputable def m_value_append64_B2 (a1 : Int) (k1 : (List UInt8) → Option (List UInt8)) (rec2 : (List UInt8) → Int → Option (List UInt8)) (x0_l2 : List UInt8) (x5_l2 : Int) : Option (List UInt8) :=
  if 0 ≤ x5_l2 then (need (¬ x5_l2 < 0) (need (List.length x0_l2 + List.length [u8i (Int.fdiv a1 (2 ^ min (Int.toNat x5_l2) IntKind.u64.bits))] ≤ 137438953472) (rec2 (x0_l2 ++ [u8i (Int.fdiv a1 (2 ^ min (Int.toNat x5_l2) IntKind.u64.bits))]) (i64 (x5_l2 - 8))))) else (k1 x0_l2)
noncomputable def m_value_append64_L2 (a1 : Int) (k1 : (List UInt8) → Option (List UInt8)) : Nat → (List UInt8) → Int → Option (List UInt8)
  | 0, _, _ => none
  | n + 1, x0_l2, x5_l2 => m_value_append64_B2 a1 k1 (m_value_append64_L2 a1 k1 n) x0_l2 x5_l2
noncomputable def m_value_append64 (a0 : List UInt8) (a1 : Int) : Option (List UInt8) :=
  jn (fun (x0_j1 : List UInt8) => some x0_j1) (fun k1 => m_value_append64_L2 a1 k1 FU a0 56)
/- cspcheck.value.Int -/
noncomputable def m_value_Int (a0 : Int) : Option (List UInt8) :=
  bnd1 (m_value_append64 [1] (IntKind.u64.wrap (a0))) (fun y2 => some y2)
/- slices.Clone(()cspcheck.api.Value,cspcheck.api.Value) -/
noncomputable def m_slices_Clone_L_api_Value_api_Value (a0 : List (List UInt8)) : Option (List (List UInt8)) :=
  nilc (a0 = []) (some []) (need (List.length ([] : List (List UInt8)) + List.length a0 ≤ 137438953472) (some (([] : List (List UInt8)) ++ a0)))
/- cmp.isNaN(byte) -/
noncomputable def m_cmp_isNaN_byte (a0 : UInt8) : Option Bool :=
  some (decide (¬ a0 = a0))
/- cmp.Compare(byte) -/
noncomputable def m_cmp_Compare_byte (a0 : UInt8) (a1 : UInt8) : Option Int :=
  bnd1 (m_cmp_isNaN_byte a0) (fun y1 => bnd1 (m_cmp_isNaN_byte a1) (fun y2 => if y1 then (if y2 then (some 0) else (some (-1))) else (if y2 then (some 1) else (if a0 < a1 then (some (-1)) else (if a1 < a0 then (some 1) else (some 0))))))
/- cspcheck.value.integer -/
noncomputable def m_value_integer_B2 (a0 : List UInt8) (k1 : Int → Option Int) (rec2 : Int → Int → Option Int) (x3_l2 : Int) (x4_l2 : Int) : Option Int :=
  if x4_l2 < 9 then (need ((0 : Int) ≤ x4_l2 ∧ x4_l2 < (List.length a0 : Int)) (rec2 (bOr .u64 (IntKind.u64.wrap (x3_l2 * 2 ^ min (Int.toNat 8) IntKind.u64.bits)) (UInt8.toNat (gi a0 x4_l2) : Int)) (i64 (x4_l2 + 1)))) else (k1 x3_l2)
noncomputable def m_value_integer_L2 (a0 : List UInt8) (k1 : Int → Option Int) : Nat → Int → Int → Option Int
  | 0, _, _ => none
  | n + 1, x3_l2, x4_l2 => m_value_integer_B2 a0 k1 (m_value_integer_L2 a0 k1 n) x3_l2 x4_l2
noncomputable def m_value_integer (a0 : List UInt8) : Option Int :=
  jn (fun (x3_j1 : Int) => some (i64 (x3_j1))) (fun k1 => m_value_integer_L2 a0 k1 FU 0 1)
/- cmp.isNaN(int64) -/
noncomputable def m_cmp_isNaN_int64 (a0 : Int) : Option Bool :=
  some (decide (¬ a0 = a0))
/- cmp.Compare(int64) -/
noncomputable def m_cmp_Compare_int64 (a0 : Int) (a1 : Int) : Option Int :=
  bnd1 (m_cmp_isNaN_int64 a0) (fun y1 => bnd1 (m_cmp_isNaN_int64 a1) (fun y2 => if y1 then (if y2 then (some 0) else (some (-1))) else (if y2 then (some 1) else (if a0 < a1 then (some (-1)) else (if a1 < a0 then (some 1) else (some 0))))))
/- cspcheck.value.simple -/
noncomputable def m_value_simple (a0 : Int) : Option Bool :=
  jn (fun (x2_j1 : Bool) => some x2_j1) (fun k1 => if a0 = 0 then (k1 true) else (if a0 = 1 then (k1 true) else (if a0 = 2 then (k1 true) else (k1 (decide (a0 = 10))))))
/- cmp.isNaN(cspcheck.api.Value) -/
noncomputable def m_cmp_isNaN_api_Value (a0 : List UInt8) : Option Bool :=
  some (decide (¬ a0 = a0))
/- cmp.Compare(cspcheck.api.Value) -/
noncomputable def m_cmp_Compare_api_Value (a0 : List UInt8) (a1 : List UInt8) : Option Int :=
  bnd1 (m_cmp_isNaN_api_Value a0) (fun y1 => bnd1 (m_cmp_isNaN_api_Value a1) (fun y2 => if y1 then (if y2 then (some 0) else (some (-1))) else (if y2 then (some 1) else (if ltS a0 a1 then (some (-1)) else (if ltS a1 a0 then (some 1) else (some 0))))))
/- cspcheck.value.span -/
noncomputable def m_value_span_B2 (self_value_span : (List UInt8) → Option Int) (a0 : List UInt8) (k2 : Int → Option Int) (rec2 : Int → Int → Option Int) (x3_l2 : Int) (x20_l2 : Int) : Option Int :=
  if x20_l2 < (bOr .i64 (i64 ((UInt8.toNat (gi a0 1) : Int) * 2 ^ min (Int.toNat 8) IntKind.i64.bits)) (UInt8.toNat (gi a0 2) : Int)) then (need ((0 : Int) ≤ x3_l2 ∧ x3_l2 ≤ (List.length a0 : Int)) (bnd1 (self_value_span (List.drop (Int.toNat x3_l2) a0)) (fun y19 => rec2 (i64 (x3_l2 + y19)) (i64 (x20_l2 + 1))))) else (k2 x3_l2)
noncomputable def m_value_span_L2 (self_value_span : (List UInt8) → Option Int) (a0 : List UInt8) (k2 : Int → Option Int) : Nat → Int → Int → Option Int
  | 0, _, _ => none
  | n + 1, x3_l2, x20_l2 => m_value_span_B2 self_value_span a0 k2 (m_value_span_L2 self_value_span a0 k2 n) x3_l2 x20_l2
noncomputable def m_value_span_F (self_value_span : (List UInt8) → Option Int) (a0 : List UInt8) : Option Int :=
  need ((0 : Int) ≤ 0 ∧ 0 < (List.length a0 : Int)) (if (gi a0 0) = 1 then (some 9) else (if (gi a0 0) = 2 then (some 2) else (if (gi a0 0) = 10 then (some 3) else (jn (fun (x3_j2 : Int) => some x3_j2) (fun k2 => need ((0 : Int) ≤ 1 ∧ 1 < (List.length a0 : Int)) (need ((0 : Int) ≤ 2 ∧ 2 < (List.length a0 : Int)) (m_value_span_L2 self_value_span a0 k2 FU 3 0)))))))
/- cspcheck.value.span -/
noncomputable def m_value_span_S : Nat → ((List UInt8) → Option Int)
  | 0 => (fun _ => none)
  | n + 1 => m_value_span_F (m_value_span_S n)
noncomputable def m_value_span (a0 : List UInt8) : Option Int := m_value_span_S FU a0
/- slices.Clip(()cspcheck.api.Value,cspcheck.api.Value) -/
noncomputable def m_slices_Clip_L_api_Value_api_Value (a0 : List (List UInt8)) : Option (List (List UInt8)) :=
  need (0 ≤ (List.length a0 : Int)) (some (List.take (Int.toNat (List.length a0 : Int)) a0))
/- cspcheck.value.parts -/
noncomputable def m_value_parts_B2 (a0 : List UInt8) (k1 : (List (List UInt8)) → Option (List (List UInt8))) (rec2 : (List (List UInt8)) → Int → Option (List (List UInt8))) (x3_l2 : List (List UInt8)) (x4_l2 : Int) : Option (List (List UInt8)) :=
  if x4_l2 < (List.length a0 : Int) then (need ((0 : Int) ≤ x4_l2 ∧ x4_l2 ≤ (List.length a0 : Int)) (bnd1 (m_value_span (List.drop (Int.toNat x4_l2) a0)) (fun y29 => need ((0 : Int) ≤ x4_l2 ∧ x4_l2 ≤ i64 (x4_l2 + y29) ∧ (i64 (x4_l2 + y29)) ≤ (List.length a0 : Int)) (need (List.length x3_l2 + List.length [List.take (Int.toNat (i64 (x4_l2 + y29)) - Int.toNat x4_l2) (List.drop (Int.toNat x4_l2) a0)] ≤ 137438953472) (rec2 (x3_l2 ++ [List.take (Int.toNat (i64 (x4_l2 + y29)) - Int.toNat x4_l2) (List.drop (Int.toNat x4_l2) a0)]) (i64 (x4_l2 + y29))))))) else (k1 x3_l2)
noncomputable def m_value_parts_L2 (a0 : List UInt8) (k1 : (List (List UInt8)) → Option (List (List UInt8))) : Nat → (List (List UInt8)) → Int → Option (List (List UInt8))
  | 0, _, _ => none
  | n + 1, x3_l2, x4_l2 => m_value_parts_B2 a0 k1 (m_value_parts_L2 a0 k1 n) x3_l2 x4_l2
noncomputable def m_value_parts (a0 : List UInt8) : Option (List (List UInt8)) :=
  jn (fun (x3_j1 : List (List UInt8)) => bnd1 (m_slices_Clip_L_api_Value_api_Value x3_j1) (fun y33 => some y33)) (fun k1 => m_value_parts_L2 a0 k1 FU [] 3)
/- slices.CompareFunc(()cspcheck.api.Value,()cspcheck.api.Value,cspcheck.api.Value,cspcheck.api.Value) -/
noncomputable def m_slices_CompareFunc_L_api_Value_L_api_Value_api_Value_api_Value_B2 (a0 : List (List UInt8)) (a1 : List (List UInt8)) (a2 : (List UInt8) → (List UInt8) → Option Int) (k1 : Unit → Option Int) (rec2 : Int → Option Int) (x13_l2 : Int) : Option Int :=
  if x13_l2 < (List.length a0 : Int) then (need ((0 : Int) ≤ x13_l2 ∧ x13_l2 < (List.length a0 : Int)) (if (List.length a1 : Int) ≤ x13_l2 then (some 1) else (need ((0 : Int) ≤ x13_l2 ∧ x13_l2 < (List.length a1 : Int)) (bnd1 (a2 (gi a0 x13_l2) (gi a1 x13_l2)) (fun y20 => if ¬ y20 = 0 then (some y20) else (rec2 (i64 (x13_l2 + 1)))))))) else (k1 ())
noncomputable def m_slices_CompareFunc_L_api_Value_L_api_Value_api_Value_api_Value_L2 (a0 : List (List UInt8)) (a1 : List (List UInt8)) (a2 : (List UInt8) → (List UInt8) → Option Int) (k1 : Unit → Option Int) : Nat → Int → Option Int
  | 0, _ => none
  | n + 1, x13_l2 => m_slices_CompareFunc_L_api_Value_L_api_Value_api_Value_api_Value_B2 a0 a1 a2 k1 (m_slices_CompareFunc_L_api_Value_L_api_Value_api_Value_api_Value_L2 a0 a1 a2 k1 n) x13_l2
noncomputable def m_slices_CompareFunc_L_api_Value_L_api_Value_api_Value_api_Value (a0 : List (List UInt8)) (a1 : List (List UInt8)) (a2 : (List UInt8) → (List UInt8) → Option Int) : Option Int :=
  jn (fun (_ : Unit) => if (List.length a0 : Int) < (List.length a1 : Int) then (some (-1)) else (some 0)) (fun k1 => m_slices_CompareFunc_L_api_Value_L_api_Value_api_Value_api_Value_L2 a0 a1 a2 k1 FU 0)
/- cspcheck.value.compare -/
noncomputable def m_value_compare_F (self_value_compare : (List UInt8) → (List UInt8) → Option Int) (a0 : List UInt8) (a1 : List UInt8) : Option Int :=
  if a0 = a1 then (some 0) else (need ((0 : Int) ≤ 0 ∧ 0 < (List.length a0 : Int)) (need ((0 : Int) ≤ 0 ∧ 0 < (List.length a1 : Int)) (bnd1 (m_cmp_Compare_byte (gi a0 0) (gi a1 0)) (fun y3 => if ¬ y3 = 0 then (some y3) else (need ((0 : Int) ≤ 0 ∧ 0 < (List.length a0 : Int)) (if (gi a0 0) = 1 then (bnd1 (m_value_integer a0) (fun y5 => bnd1 (m_value_integer a1) (fun y6 => bnd1 (m_cmp_Compare_int64 y5 y6) (fun y7 => some y7)))) else (need ((0 : Int) ≤ 0 ∧ 0 < (List.length a0 : Int)) (bnd1 (m_value_simple (UInt8.toNat (gi a0 0) : Int)) (fun y9 => if y9 then (bnd1 (m_cmp_Compare_api_Value a0 a1) (fun y10 => some y10)) else (bnd1 (m_value_parts a0) (fun y11 => bnd1 (m_value_parts a1) (fun y12 => bnd1 (m_slices_CompareFunc_L_api_Value_L_api_Value_api_Value_api_Value y11 y12 self_value_compare) (fun y13 => some y13)))))))))))))
/- cspcheck.value.compare -/
noncomputable def m_value_compare_S : Nat → ((List UInt8) → (List UInt8) → Option Int)
  | 0 => (fun _ _ => none)
  | n + 1 => m_value_compare_F (m_value_compare_S n)
noncomputable def m_value_compare (a0 : List UInt8) (a1 : List UInt8) : Option Int := m_value_compare_S FU a0 a1
/- cspcheck.value.ascending -/
noncomputable def m_value_ascending_B2 (a0 : List (List UInt8)) (k1 : Unit → Option Bool) (rec2 : Int → Option Bool) (x3_l2 : Int) : Option Bool :=
  if x3_l2 < (List.length a0 : Int) then (need ((0 : Int) ≤ i64 (x3_l2 - 1) ∧ (i64 (x3_l2 - 1)) < (List.length a0 : Int)) (need ((0 : Int) ≤ x3_l2 ∧ x3_l2 < (List.length a0 : Int)) (bnd1 (m_value_compare (gi a0 (i64 (x3_l2 - 1))) (gi a0 x3_l2)) (fun y20 => if 0 ≤ y20 then (some false) else (rec2 (i64 (x3_l2 + 1))))))) else (k1 ())
noncomputable def m_value_ascending_L2 (a0 : List (List UInt8)) (k1 : Unit → Option Bool) : Nat → Int → Option Bool
  | 0, _ => none
  | n + 1, x3_l2 => m_value_ascending_B2 a0 k1 (m_value_ascending_L2 a0 k1 n) x3_l2
noncomputable def m_value_ascending (a0 : List (List UInt8)) : Option Bool :=
  jn (fun (_ : Unit) => some true) (fun k1 => m_value_ascending_L2 a0 k1 FU 1)
/- cspcheck.value.between -/
noncomputable def m_value_between (a0 : List UInt8) (a1 : Int) (a2 : Int) : Option Bool :=
  jn (fun (x6_j1 : Bool) => some x6_j1) (fun k1 => need ((0 : Int) ≤ 0 ∧ 0 < (List.length a0 : Int)) (if (gi a0 0) = 1 then (bnd1 (m_value_integer a0) (fun y6 => if a1 ≤ y6 then (bnd1 (m_value_integer a0) (fun y7 => k1 (decide (y7 ≤ a2)))) else (k1 false))) else (k1 false)))
/- cspcheck.value.formed -/
noncomputable def m_value_formed_B4 (a1 : List (List UInt8)) (k45 : (List (List UInt8)) → Option Bool) (rec4 : (List (List UInt8)) → Int → Option Bool) (x6_l4 : List (List UInt8)) (x7_l4 : Int) : Option Bool :=
  if x7_l4 < (List.length a1 : Int) then (need ((0 : Int) ≤ x7_l4 ∧ x7_l4 < (List.length a1 : Int)) (need (List.length x6_l4 + List.length [gi a1 x7_l4] ≤ 137438953472) (rec4 (x6_l4 ++ [gi a1 x7_l4]) (i64 (x7_l4 + 2))))) else (k45 x6_l4)
noncomputable def m_value_formed_L4 (a1 : List (List UInt8)) (k45 : (List (List UInt8)) → Option Bool) : Nat → (List (List UInt8)) → Int → Option Bool
  | 0, _, _ => none
  | n + 1, x6_l4, x7_l4 => m_value_formed_B4 a1 k45 (m_value_formed_L4 a1 k45 n) x6_l4 x7_l4
noncomputable def m_value_formed (a0 : Int) (a1 : List (List UInt8)) : Option Bool :=
  jn (fun (_ : Unit) => some true) (fun k1 => if a0 = 3 then (jn (fun (x4_j43 : Bool) => some x4_j43) (fun k43 => if 2 ≤ (List.length a1 : Int) then (k43 (decide ((List.length a1 : Int) ≤ 8))) else (k43 false))) else (if a0 = 5 then (bnd1 (m_value_ascending a1) (fun y44 => some y44)) else (if a0 = 6 then (jn (fun (x6_j45 : List (List UInt8)) => jn (fun (x4_j65 : Bool) => some x4_j65) (fun k65 => if (Int.tmod (List.length a1 : Int) 2) = 0 then (bnd1 (m_value_ascending x6_j45) (fun y67 => k65 y67)) else (k65 false))) (fun k45 => m_value_formed_L4 a1 k45 FU [] 0)) else (if a0 = 7 then (jn (fun (x4_j68 : Bool) => some x4_j68) (fun k68 => if 1 ≤ (List.length a1 : Int) then (if (List.length a1 : Int) ≤ 9 then (need ((0 : Int) ≤ 0 ∧ 0 < (List.length a1 : Int)) (need ((0 : Int) ≤ 0 ∧ 0 < (List.length (gi a1 0) : Int)) (k68 (decide ((gi (gi a1 0) 0) = 10))))) else (k68 false)) else (k68 false))) else (if a0 = 8 then (jn (fun (x4_j73 : Bool) => some x4_j73) (fun k73 => if 1 ≤ (List.length a1 : Int) then (if (List.length a1 : Int) ≤ 33 then (need ((0 : Int) ≤ 0 ∧ 0 < (List.length a1 : Int)) (bnd1 (m_value_between (gi a1 0) 0 65535) (fun y77 => k73 y77))) else (k73 false)) else (k73 false))) else (if a0 = 9 then (jn (fun (x4_j78 : Bool) => some x4_j78) (fun k78 => if 1 ≤ (List.length a1 : Int) then (need ((0 : Int) ≤ 0 ∧ 0 < (List.length a1 : Int)) (bnd1 (m_value_between (gi a1 0) 1 21) (fun y82 => k78 y82))) else (k78 false))) else (k1 ())))))))
/- cspcheck.value.long -/
noncomputable def m_value_long_B2 (self_value_length : (List UInt8) → Int → Option Int) (a0 : List UInt8) (a1 : Int) (k1 : Int → (List (List UInt8)) → Option Int) (rec2 : Int → (List (List UInt8)) → Int → Option Int) (x5_l2 : Int) (x6_l2 : List (List UInt8)) (x19_l2 : Int) : Option Int :=
  if x19_l2 < (bOr .i64 (i64 ((UInt8.toNat (gi a0 1) : Int) * 2 ^ min (Int.toNat 8) IntKind.i64.bits)) (UInt8.toNat (gi a0 2) : Int)) then (need ((0 : Int) ≤ x5_l2 ∧ x5_l2 ≤ (List.length a0 : Int)) (bnd1 (self_value_length (List.drop (Int.toNat x5_l2) a0) (i64 (a1 + 1))) (fun y33 => if y33 = 0 then (some 0) else (need ((0 : Int) ≤ x5_l2 ∧ x5_l2 ≤ i64 (x5_l2 + y33) ∧ (i64 (x5_l2 + y33)) ≤ (List.length a0 : Int)) (need (List.length x6_l2 + List.length [List.take (Int.toNat (i64 (x5_l2 + y33)) - Int.toNat x5_l2) (List.drop (Int.toNat x5_l2) a0)] ≤ 137438953472) (rec2 (i64 (x5_l2 + y33)) (x6_l2 ++ [List.take (Int.toNat (i64 (x5_l2 + y33)) - Int.toNat x5_l2) (List.drop (Int.toNat x5_l2) a0)]) (i64 (x19_l2 + 1)))))))) else (k1 x5_l2 x6_l2)
noncomputable def m_value_long_L2 (self_value_length : (List UInt8) → Int → Option Int) (a0 : List UInt8) (a1 : Int) (k1 : Int → (List (List UInt8)) → Option Int) : Nat → Int → (List (List UInt8)) → Int → Option Int
  | 0, _, _, _ => none
  | n + 1, x5_l2, x6_l2, x19_l2 => m_value_long_B2 self_value_length a0 a1 k1 (m_value_long_L2 self_value_length a0 a1 k1 n) x5_l2 x6_l2 x19_l2
noncomputable def m_value_long (self_value_length : (List UInt8) → Int → Option Int) (a0 : List UInt8) (a1 : Int) : Option Int :=
  if (List.length a0 : Int) < 3 then (some 0) else (jn (fun (x5_j1 : Int) (x6_j1 : List (List UInt8)) => need ((0 : Int) ≤ 0 ∧ 0 < (List.length a0 : Int)) (bnd1 (m_value_formed (UInt8.toNat (gi a0 0) : Int) x6_j1) (fun y38 => if !y38 then (some 0) else (some x5_j1)))) (fun k1 => need ((0 : Int) ≤ 1 ∧ 1 < (List.length a0 : Int)) (need ((0 : Int) ≤ 2 ∧ 2 < (List.length a0 : Int)) (m_value_long_L2 self_value_length a0 a1 k1 FU 3 [] 0))))
/- cspcheck.value.length -/
noncomputable def m_value_length_F (self_value_length : (List UInt8) → Int → Option Int) (a0 : List UInt8) (a1 : Int) : Option Int :=
  jn (fun (x11_j3 : Bool) => if x11_j3 then (some 0) else (jn (fun (x5_j4 : Int) => if (List.length a0 : Int) < x5_j4 then (some 0) else (some x5_j4)) (fun k4 => need ((0 : Int) ≤ 0 ∧ 0 < (List.length a0 : Int)) (if (gi a0 0) = 1 then (k4 9) else (if (gi a0 0) = 2 then (jn (fun (x25_j20 : Bool) => if x25_j20 then (some 0) else (k4 2)) (fun k20 => if (List.length a0 : Int) < 2 then (k20 true) else (need ((0 : Int) ≤ 1 ∧ 1 < (List.length a0 : Int)) (k20 (decide (1 < (gi a0 1))))))) else (if (gi a0 0) = 10 then (k4 3) else (jn (fun (x28_j23 : Bool) => if x28_j23 then (bnd1 (m_value_long self_value_length a0 a1) (fun y24 => some y24)) else (k4 0)) (fun k23 => if (gi a0 0) = 3 then (k23 (decide ((gi a0 0) = 3))) else (if (gi a0 0) = 4 then (k23 (decide ((gi a0 0) = 4))) else (if (gi a0 0) = 5 then (k23 (decide ((gi a0 0) = 5))) else (if (gi a0 0) = 6 then (k23 (decide ((gi a0 0) = 6))) else (if (gi a0 0) = 7 then (k23 (decide ((gi a0 0) = 7))) else (if (gi a0 0) = 8 then (k23 (decide ((gi a0 0) = 8))) else (k23 (decide ((gi a0 0) = 9)))))))))))))))) (fun k3 => if a0 = ([] : List UInt8) then (k3 true) else (k3 (decide (32 < a1))))
/- cspcheck.value.length -/
noncomputable def m_value_length_S : Nat → ((List UInt8) → Int → Option Int)
  | 0 => (fun _ _ => none)
  | n + 1 => m_value_length_F (m_value_length_S n)
noncomputable def m_value_length (a0 : List UInt8) (a1 : Int) : Option Int := m_value_length_S FU a0 a1
/- cspcheck.value.Valid -/
noncomputable def m_value_Valid (a0 : List UInt8) : Option Bool :=
  jn (fun (x2_j1 : Bool) => some x2_j1) (fun k1 => if ¬ a0 = ([] : List UInt8) then (if (List.length a0 : Int) ≤ 131072 then (bnd1 (m_value_length a0 1) (fun y3 => k1 (decide (y3 = (List.length a0 : Int))))) else (k1 false)) else (k1 false))
/- cspcheck.value.Compare -/
noncomputable def m_value_Compare (a0 : List UInt8) (a1 : List UInt8) : Option Int :=
  bnd1 (m_value_Valid a0) (fun y6 => bnd1 (m_value_Valid a1) (fun y7 => jn (fun (x11_j8 : Bool) => if x11_j8 then (bnd1 (m_value_compare a0 a1) (fun y9 => some y9)) else (if y6 then (some 1) else (if y7 then (some (-1)) else (bnd1 (m_cmp_Compare_api_Value a0 a1) (fun y10 => some y10))))) (fun k8 => if y6 then (k8 y7) else (k8 false))))
/- slices.Compact(()cspcheck.api.Value,cspcheck.api.Value) -/
noncomputable def m_slices_Compact_L_api_Value_api_Value_B26 (a0 : List (List UInt8)) (x3_l14 : Int) (k694 : (List (List UInt8)) → Int → Option (List (List UInt8))) (rec26 : (List (List UInt8)) → Int → Int → Option (List (List UInt8))) (x0_l26 : List (List UInt8)) (x3_l26 : Int) (x5_l26 : Int) : Option (List (List UInt8)) :=
  if x5_l26 < ((Int.toNat (List.length a0 : Int) - Int.toNat x3_l14 : Nat) : Int) then (jn (fun (x0_j741 : List (List UInt8)) (x3_j741 : Int) => rec26 x0_j741 x3_j741 (i64 (x5_l26 + 1))) (fun k741 => need ((0 : Int) ≤ x3_l14 ∧ (0 : Int) ≤ x5_l26 ∧ x5_l26 < (List.length a0 : Int) - x3_l14 ∧ (0 : Int) ≤ (x3_l14 + x5_l26) ∧ (x3_l14 + x5_l26) < (List.length x0_l26 : Int)) (need ((0 : Int) ≤ x3_l14 ∧ (0 : Int) ≤ i64 (x5_l26 - 1) ∧ (i64 (x5_l26 - 1)) < (List.length a0 : Int) - x3_l14 ∧ (0 : Int) ≤ (x3_l14 + (i64 (x5_l26 - 1))) ∧ (x3_l14 + (i64 (x5_l26 - 1))) < (List.length x0_l26 : Int)) (if ¬ (gi x0_l26 (x3_l14 + x5_l26)) = (gi x0_l26 (x3_l14 + (i64 (x5_l26 - 1)))) then (need ((0 : Int) ≤ x3_l14 ∧ (0 : Int) ≤ x5_l26 ∧ x5_l26 < (List.length a0 : Int) - x3_l14 ∧ (0 : Int) ≤ (x3_l14 + x5_l26) ∧ (x3_l14 + x5_l26) < (List.length x0_l26 : Int)) (need ((0 : Int) ≤ x3_l26 ∧ x3_l26 < (List.length x0_l26 : Int)) (k741 (List.set x0_l26 (Int.toNat x3_l26) (gi x0_l26 (x3_l14 + x5_l26))) (i64 (x3_l26 + 1))))) else (k741 x0_l26 x3_l26))))) else (k694 x0_l26 x3_l26)
noncomputable def m_slices_Compact_L_api_Value_api_Value_L26 (a0 : List (List UInt8)) (x3_l14 : Int) (k694 : (List (List UInt8)) → Int → Option (List (List UInt8))) : Nat → (List (List UInt8)) → Int → Int → Option (List (List UInt8))
  | 0, _, _, _ => none
  | n + 1, x0_l26, x3_l26, x5_l26 => m_slices_Compact_L_api_Value_api_Value_B26 a0 x3_l14 k694 (m_slices_Compact_L_api_Value_api_Value_L26 a0 x3_l14 k694 n) x0_l26 x3_l26 x5_l26
noncomputable def m_slices_Compact_L_api_Value_api_Value_B14 (a0 : List (List UInt8)) (k1 : Unit → Option (List (List UInt8))) (rec14 : Int → Option (List (List UInt8))) (x3_l14 : Int) : Option (List (List UInt8)) :=
  if x3_l14 < (List.length a0 : Int) then (jn (fun (_ : Unit) => rec14 (i64 (x3_l14 + 1))) (fun k628 => need ((0 : Int) ≤ x3_l14 ∧ x3_l14 < (List.length a0 : Int)) (need ((0 : Int) ≤ i64 (x3_l14 - 1) ∧ (i64 (x3_l14 - 1)) < (List.length a0 : Int)) (if (gi a0 x3_l14) = (gi a0 (i64 (x3_l14 - 1))) then (need ((0 : Int) ≤ x3_l14 ∧ x3_l14 ≤ (List.length a0 : Int) ∧ (List.length a0 : Int) ≤ (List.length a0 : Int)) (jn (fun (x0_j694 : List (List UInt8)) (x3_j694 : Int) => need ((0 : Int) ≤ x3_j694 ∧ x3_j694 ≤ (List.length x0_j694 : Int) ∧ (List.length x0_j694 : Int) ≤ (List.length x0_j694 : Int)) (need (0 ≤ x3_j694 ∧ x3_j694 ≤ (List.length (List.take (Int.toNat x3_j694) x0_j694 ++ List.replicate (Int.toNat (List.length x0_j694 : Int) - Int.toNat x3_j694) ([] : List UInt8) ++ List.drop (Int.toNat x3_j694 + (Int.toNat (List.length x0_j694 : Int) - Int.toNat x3_j694)) x0_j694) : Int)) (some (List.take (Int.toNat x3_j694) (List.take (Int.toNat x3_j694) x0_j694 ++ List.replicate (Int.toNat (List.length x0_j694 : Int) - Int.toNat x3_j694) ([] : List UInt8) ++ List.drop (Int.toNat x3_j694 + (Int.toNat (List.length x0_j694 : Int) - Int.toNat x3_j694)) x0_j694))))) (fun k694 => m_slices_Compact_L_api_Value_api_Value_L26 a0 x3_l14 k694 FU a0 x3_l14 1))) else (k628 ()))))) else (k1 ())
noncomputable def m_slices_Compact_L_api_Value_api_Value_L14 (a0 : List (List UInt8)) (k1 : Unit → Option (List (List UInt8))) : Nat → Int → Option (List (List UInt8))
  | 0, _ => none
  | n + 1, x3_l14 => m_slices_Compact_L_api_Value_api_Value_B14 a0 k1 (m_slices_Compact_L_api_Value_api_Value_L14 a0 k1 n) x3_l14
noncomputable def m_slices_Compact_L_api_Value_api_Value (a0 : List (List UInt8)) : Option (List (List UInt8)) :=
  if (List.length a0 : Int) < 2 then (some a0) else (jn (fun (_ : Unit) => some a0) (fun k1 => m_slices_Compact_L_api_Value_api_Value_L14 a0 k1 FU 1))
/- cspcheck.value.Sort -/
noncomputable def m_value_Sort (a0 : List (List UInt8)) : Option (List (List UInt8)) :=
  bnd1 (m_slices_Clone_L_api_Value_api_Value a0) (fun y1 => bnd1 (m_sortby m_value_Compare y1) (fun y3 => bnd1 (m_slices_Compact_L_api_Value_api_Value y3) (fun y4 => bnd1 (m_slices_Clip_L_api_Value_api_Value y4) (fun y5 => some y5))))
/- cspcheck.value.append16 -/
noncomputable def m_value_append16 (a0 : List UInt8) (a1 : Int) : Option (List UInt8) :=
  need (List.length a0 + List.length [u8i (Int.fdiv a1 (2 ^ min (Int.toNat 8) IntKind.u16.bits)), u8i a1] ≤ 137438953472) (some (a0 ++ [u8i (Int.fdiv a1 (2 ^ min (Int.toNat 8) IntKind.u16.bits)), u8i a1]))
/- slices.IndexFunc(()cspcheck.api.Value,cspcheck.api.Value) -/
noncomputable def m_slices_IndexFunc_L_api_Value_api_Value_B2 (a0 : List (List UInt8)) (a1 : (List UInt8) → Option Bool) (k1 : Unit → Option Int) (rec2 : Int → Option Int) (x8_l2 : Int) : Option Int :=
  if x8_l2 < (List.length a0 : Int) then (need ((0 : Int) ≤ x8_l2 ∧ x8_l2 < (List.length a0 : Int)) (bnd1 (a1 (gi a0 x8_l2)) (fun y14 => if y14 then (some x8_l2) else (rec2 (i64 (x8_l2 + 1)))))) else (k1 ())
noncomputable def m_slices_IndexFunc_L_api_Value_api_Value_L2 (a0 : List (List UInt8)) (a1 : (List UInt8) → Option Bool) (k1 : Unit → Option Int) : Nat → Int → Option Int
  | 0, _ => none
  | n + 1, x8_l2 => m_slices_IndexFunc_L_api_Value_api_Value_B2 a0 a1 k1 (m_slices_IndexFunc_L_api_Value_api_Value_L2 a0 a1 k1 n) x8_l2
noncomputable def m_slices_IndexFunc_L_api_Value_api_Value (a0 : List (List UInt8)) (a1 : (List UInt8) → Option Bool) : Option Int :=
  jn (fun (_ : Unit) => some (-1)) (fun k1 => m_slices_IndexFunc_L_api_Value_api_Value_L2 a0 a1 k1 FU 0)
/- slices.ContainsFunc(()cspcheck.api.Value,cspcheck.api.Value) -/
noncomputable def m_slices_ContainsFunc_L_api_Value_api_Value (a0 : List (List UInt8)) (a1 : (List UInt8) → Option Bool) : Option Bool :=
  bnd1 (m_slices_IndexFunc_L_api_Value_api_Value a0 a1) (fun y1 => some (decide (0 ≤ y1)))
/- cspcheck.value.compound$1 -/
noncomputable def m_value_compound_1 (a0 : List UInt8) : Option Bool :=
  bnd1 (m_value_Valid a0) (fun y1 => some (!y1))
/- cspcheck.value.checked -/
noncomputable def m_value_checked (a0 : List UInt8) : Option (List UInt8) :=
  bnd1 (m_value_Valid a0) (fun y1 => if !y1 then (some ([] : List UInt8)) else (some a0))
/- cspcheck.value.compound -/
noncomputable def m_value_compound_B2 (a1 : List (List UInt8)) (k4 : (List UInt8) → Option (List UInt8)) (rec2 : (List UInt8) → Int → Option (List UInt8)) (x5_l2 : List UInt8) (x20_l2 : Int) : Option (List UInt8) :=
  if x20_l2 < (List.length a1 : Int) then (need ((0 : Int) ≤ x20_l2 ∧ x20_l2 < (List.length a1 : Int)) (jn (fun (x33_j81 : Bool) => if x33_j81 then (some ([] : List UInt8)) else (need (List.length x5_l2 + List.length (gi a1 x20_l2) ≤ 137438953472) (rec2 (x5_l2 ++ (gi a1 x20_l2)) (i64 (x20_l2 + 1))))) (fun k81 => if (gi a1 x20_l2) = ([] : List UInt8) then (k81 true) else (k81 (decide (131072 < (i64 ((List.length x5_l2 : Int) + (List.length (gi a1 x20_l2) : Int))))))))) else (k4 x5_l2)
noncomputable def m_value_compound_L2 (a1 : List (List UInt8)) (k4 : (List UInt8) → Option (List UInt8)) : Nat → (List UInt8) → Int → Option (List UInt8)
  | 0, _, _ => none
  | n + 1, x5_l2, x20_l2 => m_value_compound_B2 a1 k4 (m_value_compound_L2 a1 k4 n) x5_l2 x20_l2
noncomputable def m_value_compound (a0 : Int) (a1 : List (List UInt8)) : Option (List UInt8) :=
  if 65535 < (List.length a1 : Int) then (some ([] : List UInt8)) else (bnd1 (m_value_append16 [u8i a0] (IntKind.u16.wrap ((List.length a1 : Int)))) (fun y2 => jn (fun (x5_j4 : List UInt8) => bnd1 (m_slices_ContainsFunc_L_api_Value_api_Value a1 m_value_compound_1) (fun y84 => if !y84 then (bnd1 (m_value_checked x5_j4) (fun y85 => some y85)) else (some ([] : List UInt8)))) (fun k4 => m_value_compound_L2 a1 k4 FU y2 0)))
/- cspcheck.value.Set -/
noncomputable def m_value_Set (a0 : List (List UInt8)) : Option (List UInt8) :=
  bnd1 (m_value_Sort a0) (fun y1 => bnd1 (m_value_compound 5 y1) (fun y2 => some y2))
/- cspcheck.value.Kind -/
noncomputable def m_value_Kind (a0 : List UInt8) : Option Int :=
  bnd1 (m_value_Valid a0) (fun y1 => if !y1 then (some 0) else (need ((0 : Int) ≤ 0 ∧ 0 < (List.length a0 : Int)) (some (UInt8.toNat (gi a0 0) : Int))))
/- cspcheck.value.Parts -/
noncomputable def m_value_Parts (a0 : List UInt8) : Option (List (List UInt8)) :=
  bnd1 (m_value_Kind a0) (fun y1 => bnd1 (m_value_simple y1) (fun y2 => if y2 then (some []) else (bnd1 (m_value_parts a0) (fun y3 => some y3))))
/- cspcheck.value.Number -/
noncomputable def m_value_Number (a0 : List UInt8) : Option Int :=
  bnd1 (m_value_Kind a0) (fun y1 => if y1 = 1 then (bnd1 (m_value_integer a0) (fun y2 => some y2)) else (if y1 = 2 then (need ((0 : Int) ≤ 1 ∧ 1 < (List.length a0 : Int)) (some (UInt8.toNat (gi a0 1) : Int))) else (if y1 = 10 then (need ((0 : Int) ≤ 1 ∧ 1 < (List.length a0 : Int)) (need ((0 : Int) ≤ 2 ∧ 2 < (List.length a0 : Int)) (some (bOr .i64 (i64 ((UInt8.toNat (gi a0 1) : Int) * 2 ^ min (Int.toNat 8) IntKind.i64.bits)) (UInt8.toNat (gi a0 2) : Int))))) else (some 0))))
/- cspcheck.value.pairs -/
noncomputable def m_value_pairs_B2 (a0 : List (List UInt8)) (k1 : (List (List UInt8)) → Option (List (List UInt8))) (rec2 : (List (List UInt8)) → Int → Option (List (List UInt8))) (x3_l2 : List (List UInt8)) (x4_l2 : Int) : Option (List (List UInt8)) :=
  if x4_l2 < (List.length a0 : Int) then (need ((0 : Int) ≤ x4_l2 ∧ x4_l2 < (List.length a0 : Int)) (need (List.length ((gi a0 x4_l2) : List UInt8) + List.length [32, 61, 62, 32] ≤ 9223372036854775807) (need ((0 : Int) ≤ i64 (x4_l2 + 1) ∧ (i64 (x4_l2 + 1)) < (List.length a0 : Int)) (need (List.length (((gi a0 x4_l2) ++ [32, 61, 62, 32]) : List UInt8) + List.length (gi a0 (i64 (x4_l2 + 1))) ≤ 9223372036854775807) (need (List.length x3_l2 + List.length ([(((gi a0 x4_l2) ++ [32, 61, 62, 32]) ++ (gi a0 (i64 (x4_l2 + 1))))]) ≤ 137438953472) (rec2 (x3_l2 ++ ([(((gi a0 x4_l2) ++ [32, 61, 62, 32]) ++ (gi a0 (i64 (x4_l2 + 1))))])) (i64 (x4_l2 + 2)))))))) else (k1 x3_l2)
noncomputable def m_value_pairs_L2 (a0 : List (List UInt8)) (k1 : (List (List UInt8)) → Option (List (List UInt8))) : Nat → (List (List UInt8)) → Int → Option (List (List UInt8))
  | 0, _, _ => none
  | n + 1, x3_l2, x4_l2 => m_value_pairs_B2 a0 k1 (m_value_pairs_L2 a0 k1 n) x3_l2 x4_l2
noncomputable def m_value_pairs (a0 : List (List UInt8)) : Option (List (List UInt8)) :=
  jn (fun (x3_j1 : List (List UInt8)) => some x3_j1) (fun k1 => m_value_pairs_L2 a0 k1 FU [] 0)
/- cspcheck.value.text -/
noncomputable def m_value_text_B2 (self_value_text : (List UInt8) → (List (List UInt8)) → Option (List UInt8)) (a1 : List (List UInt8)) (k10 : (List (List UInt8)) → Option (List UInt8)) (y25 : (List (List UInt8))) (rec2 : (List (List UInt8)) → Int → Option (List UInt8)) (x6_l2 : List (List UInt8)) (x41_l2 : Int) : Option (List UInt8) :=
  if x41_l2 < (List.length y25 : Int) then (need ((0 : Int) ≤ x41_l2 ∧ x41_l2 < (List.length y25 : Int)) (bnd1 (self_value_text (gi y25 x41_l2) a1) (fun y35 => need (List.length x6_l2 + List.length [y35] ≤ 137438953472) (rec2 (x6_l2 ++ [y35]) (i64 (x41_l2 + 1)))))) else (k10 x6_l2)
noncomputable def m_value_text_L2 (self_value_text : (List UInt8) → (List (List UInt8)) → Option (List UInt8)) (a1 : List (List UInt8)) (k10 : (List (List UInt8)) → Option (List UInt8)) (y25 : (List (List UInt8))) : Nat → (List (List UInt8)) → Int → Option (List UInt8)
  | 0, _, _ => none
  | n + 1, x6_l2, x41_l2 => m_value_text_B2 self_value_text a1 k10 y25 (m_value_text_L2 self_value_text a1 k10 y25 n) x6_l2 x41_l2
noncomputable def m_value_text_F (self_value_text : (List UInt8) → (List (List UInt8)) → Option (List UInt8)) (a0 : List UInt8) (a1 : List (List UInt8)) : Option (List UInt8) :=
  need ((0 : Int) ≤ 0 ∧ 0 < (List.length a0 : Int)) (if (gi a0 0) = 1 then (bnd1 (m_value_integer a0) (fun y2 => bnd1 (m_itoa y2 10) (fun y3 => some y3))) else (if (gi a0 0) = 2 then (need ((0 : Int) ≤ 1 ∧ 1 < (List.length a0 : Int)) (if (gi a0 1) = 1 then (some [116, 114, 117, 101]) else (some [102, 97, 108, 115, 101]))) else (if (gi a0 0) = 10 then (bnd1 (m_value_Number a0) (fun y5 => if y5 < (List.length a1 : Int) then (need ((0 : Int) ≤ y5 ∧ y5 < (List.length a1 : Int)) (some (gi a1 y5))) else (bnd1 (m_value_Number a0) (fun y7 => bnd1 (m_itoa y7 10) (fun y8 => need (List.length ([63] : List UInt8) + List.length y8 ≤ 9223372036854775807) (some ([63] ++ y8))))))) else (jn (fun (x6_j10 : List (List UInt8)) => bnd1 (m_join x6_j10 [44, 32]) (fun y38 => need ((0 : Int) ≤ 0 ∧ 0 < (List.length a0 : Int)) (if (gi a0 0) = 4 then (need (List.length ([60] : List UInt8) + List.length y38 ≤ 9223372036854775807) (need (List.length (([60] ++ y38) : List UInt8) + List.length [62] ≤ 9223372036854775807) (some (([60] ++ y38) ++ [62])))) else (if (gi a0 0) = 5 then (need (List.length ([123] : List UInt8) + List.length y38 ≤ 9223372036854775807) (need (List.length (([123] ++ y38) : List UInt8) + List.length [125] ≤ 9223372036854775807) (some (([123] ++ y38) ++ [125])))) else (if (gi a0 0) = 6 then (bnd1 (m_value_pairs x6_j10) (fun y44 => bnd1 (m_join y44 [44, 32]) (fun y45 => need (List.length ([40, 124] : List UInt8) + List.length y45 ≤ 9223372036854775807) (need (List.length (([40, 124] ++ y45) : List UInt8) + List.length [124, 41] ≤ 9223372036854775807) (some (([40, 124] ++ y45) ++ [124, 41])))))) else (if (gi a0 0) = 7 then (bnd1 (m_join x6_j10 [46]) (fun y48 => some y48)) else (if (gi a0 0) = 8 then (need (List.length ([102, 117, 110, 40] : List UInt8) + List.length y38 ≤ 9223372036854775807) (need (List.length (([102, 117, 110, 40] ++ y38) : List UInt8) + List.length [41] ≤ 9223372036854775807) (some (([102, 117, 110, 40] ++ y38) ++ [41])))) else (if (gi a0 0) = 9 then (need (List.length ([112, 114, 111, 99, 40] : List UInt8) + List.length y38 ≤ 9223372036854775807) (need (List.length (([112, 114, 111, 99, 40] ++ y38) : List UInt8) + List.length [41] ≤ 9223372036854775807) (some (([112, 114, 111, 99, 40] ++ y38) ++ [41])))) else (need (List.length ([40] : List UInt8) + List.length y38 ≤ 9223372036854775807) (need (List.length (([40] ++ y38) : List UInt8) + List.length [41] ≤ 9223372036854775807) (some (([40] ++ y38) ++ [41])))))))))))) (fun k10 => bnd1 (m_value_parts a0) (fun y25 => m_value_text_L2 self_value_text a1 k10 y25 FU [] 0))))))
/- cspcheck.value.text -/
noncomputable def m_value_text_S : Nat → ((List UInt8) → (List (List UInt8)) → Option (List UInt8))
  | 0 => (fun _ _ => none)
  | n + 1 => m_value_text_F (m_value_text_S n)
noncomputable def m_value_text (a0 : List UInt8) (a1 : List (List UInt8)) : Option (List UInt8) := m_value_text_S FU a0 a1
/- cspcheck.value.Text -/
noncomputable def m_value_Text (a0 : List UInt8) (a1 : List (List UInt8)) : Option (List UInt8) :=
  bnd1 (m_value_Valid a0) (fun y1 => if !y1 then (some ([] : List UInt8)) else (bnd1 (m_value_text a0 a1) (fun y2 => some y2)))
/- cspcheck.cspchecklaw9.awake -/
noncomputable def m_law9_awake  : Option Bool :=
  bnd1 (m_value_Int 2) (fun y1 => bnd1 (m_value_Int 1) (fun y2 => bnd1 (m_value_Int 2) (fun y3 => bnd1 (m_value_Set [y1, y2, y3]) (fun y4 => jn (fun (x0_j5 : Bool) => some x0_j5) (fun k5 => bnd1 (m_value_Int 1) (fun y13 => if y13 = [1, 0, 0, 0, 0, 0, 0, 0, 1] then (bnd1 (m_value_Kind y4) (fun y14 => if y14 = 5 then (bnd1 (m_value_Parts y4) (fun y15 => if (List.length y15 : Int) = 2 then (bnd1 (m_value_Text y4 ([] : List (List UInt8))) (fun y16 => if y16 = [123, 49, 44, 32, 50, 125] then (bnd1 (m_value_Int 1) (fun y17 => bnd1 (m_value_Int 2) (fun y18 => bnd1 (m_value_Compare y17 y18) (fun y19 => k5 (decide (y19 = (-1))))))) else (k5 false))) else (k5 false))) else (k5 false))) else (k5 false)))))))
/- cspcheck.cspcheckref9.Parts -/
noncomputable def m_ref9_Parts (a0 : List UInt8) : Option (List (List UInt8)) :=
  bnd1 (m_ref9_Valid a0) (fun y1 => if !y1 then (some []) else (bnd1 (m_ref9_walk a0 32 false) (fun y2 => some y2.2.1)))
/- cspcheck.cspcheckref9.Kind -/
noncomputable def m_ref9_Kind (a0 : List UInt8) : Option Int :=
  bnd1 (m_ref9_Valid a0) (fun y1 => if !y1 then (some 0) else (need ((0 : Int) ≤ 0 ∧ 0 < (List.length a0 : Int)) (some (UInt8.toNat (gi a0 0) : Int))))
/- cspcheck.cspcheckref9.Number -/
noncomputable def m_ref9_Number (a0 : List UInt8) : Option Int :=
  bnd1 (m_ref9_Kind a0) (fun y1 => if y1 = 1 then (need (1 ≤ (List.length a0 : Int)) (bnd1 (m_ref9_number (List.drop (Int.toNat 1) a0)) (fun y3 => some y3))) else (if y1 = 2 then (need ((0 : Int) ≤ 1 ∧ 1 < (List.length a0 : Int)) (some (UInt8.toNat (gi a0 1) : Int))) else (if y1 = 10 then (need ((0 : Int) ≤ 1 ∧ 1 < (List.length a0 : Int)) (need ((0 : Int) ≤ 2 ∧ 2 < (List.length a0 : Int)) (some (bOr .i64 (i64 ((UInt8.toNat (gi a0 1) : Int) * 2 ^ min (Int.toNat 8) IntKind.i64.bits)) (UInt8.toNat (gi a0 2) : Int))))) else (some 0))))
/- cspcheck.cspcheckref9.Decimal -/
noncomputable def m_ref9_Decimal_B2 (k3 : (List UInt8) → Option (List UInt8)) (rec2 : Int → (List UInt8) → Option (List UInt8)) (x3_l2 : Int) (x5_l2 : List UInt8) : Option (List UInt8) :=
  if 0 < x3_l2 then (need ((0 : Int) ≤ Int.tmod x3_l2 10 ∧ (Int.tmod x3_l2 10) ≤ IntKind.u64.wrap ((Int.tmod x3_l2 10) + 1) ∧ (IntKind.u64.wrap ((Int.tmod x3_l2 10) + 1)) ≤ (List.length [48, 49, 50, 51, 52, 53, 54, 55, 56, 57] : Int)) (need (List.length ((List.take (Int.toNat (IntKind.u64.wrap ((Int.tmod x3_l2 10) + 1)) - Int.toNat (Int.tmod x3_l2 10)) (List.drop (Int.toNat (Int.tmod x3_l2 10)) [48, 49, 50, 51, 52, 53, 54, 55, 56, 57])) : List UInt8) + List.length x5_l2 ≤ 9223372036854775807) (rec2 (IntKind.u64.wrap (Int.tdiv x3_l2 10)) ((List.take (Int.toNat (IntKind.u64.wrap ((Int.tmod x3_l2 10) + 1)) - Int.toNat (Int.tmod x3_l2 10)) (List.drop (Int.toNat (Int.tmod x3_l2 10)) [48, 49, 50, 51, 52, 53, 54, 55, 56, 57])) ++ x5_l2)))) else (k3 x5_l2)
noncomputable def m_ref9_Decimal_L2 (k3 : (List UInt8) → Option (List UInt8)) : Nat → Int → (List UInt8) → Option (List UInt8)
  | 0, _, _ => none
  | n + 1, x3_l2, x5_l2 => m_ref9_Decimal_B2 k3 (m_ref9_Decimal_L2 k3 n) x3_l2 x5_l2
noncomputable def m_ref9_Decimal (a0 : Int) : Option (List UInt8) :=
  jn (fun (x3_j1 : Int) (x4_j1 : List UInt8) => need ((0 : Int) ≤ Int.tmod x3_j1 10 ∧ (Int.tmod x3_j1 10) ≤ IntKind.u64.wrap ((Int.tmod x3_j1 10) + 1) ∧ (IntKind.u64.wrap ((Int.tmod x3_j1 10) + 1)) ≤ (List.length [48, 49, 50, 51, 52, 53, 54, 55, 56, 57] : Int)) (jn (fun (x5_j3 : List UInt8) => need (List.length (x4_j1 : List UInt8) + List.length x5_j3 ≤ 9223372036854775807) (some (x4_j1 ++ x5_j3))) (fun k3 => m_ref9_Decimal_L2 k3 FU (IntKind.u64.wrap (Int.tdiv x3_j1 10)) (List.take (Int.toNat (IntKind.u64.wrap ((Int.tmod x3_j1 10) + 1)) - Int.toNat (Int.tmod x3_j1 10)) (List.drop (Int.toNat (Int.tmod x3_j1 10)) [48, 49, 50, 51, 52, 53, 54, 55, 56, 57]))))) (fun k1 => if a0 < 0 then (k1 (IntKind.u64.wrap (- (IntKind.u64.wrap (a0)))) [45]) else (k1 (IntKind.u64.wrap (a0)) ([] : List UInt8)))
/- cspcheck.cspcheckref9.joined -/
noncomputable def m_ref9_joined_B2 (self_ref9_Text : (List UInt8) → (List (List UInt8)) → Option (List UInt8)) (a0 : List (List UInt8)) (a1 : List (List UInt8)) (a2 : List UInt8) (k1 : (List UInt8) → Option (List UInt8)) (rec2 : (List UInt8) → Int → Option (List UInt8)) (x7_l2 : List UInt8) (x8_l2 : Int) : Option (List UInt8) :=
  if x8_l2 < (List.length a0 : Int) then (jn (fun (x7_j75 : List UInt8) => need ((0 : Int) ≤ x8_l2 ∧ x8_l2 < (List.length a0 : Int)) (bnd1 (self_ref9_Text (gi a0 x8_l2) a1) (fun y79 => need (List.length (x7_j75 : List UInt8) + List.length y79 ≤ 9223372036854775807) (rec2 (x7_j75 ++ y79) (i64 (x8_l2 + 1)))))) (fun k75 => if 0 < x8_l2 then (need (List.length (x7_l2 : List UInt8) + List.length a2 ≤ 9223372036854775807) (k75 (x7_l2 ++ a2))) else (k75 x7_l2))) else (k1 x7_l2)
noncomputable def m_ref9_joined_L2 (self_ref9_Text : (List UInt8) → (List (List UInt8)) → Option (List UInt8)) (a0 : List (List UInt8)) (a1 : List (List UInt8)) (a2 : List UInt8) (k1 : (List UInt8) → Option (List UInt8)) : Nat → (List UInt8) → Int → Option (List UInt8)
  | 0, _, _ => none
  | n + 1, x7_l2, x8_l2 => m_ref9_joined_B2 self_ref9_Text a0 a1 a2 k1 (m_ref9_joined_L2 self_ref9_Text a0 a1 a2 k1 n) x7_l2 x8_l2
noncomputable def m_ref9_joined (self_ref9_Text : (List UInt8) → (List (List UInt8)) → Option (List UInt8)) (a0 : List (List UInt8)) (a1 : List (List UInt8)) (a2 : List UInt8) : Option (List UInt8) :=
  jn (fun (x7_j1 : List UInt8) => some x7_j1) (fun k1 => m_ref9_joined_L2 self_ref9_Text a0 a1 a2 k1 FU ([] : List UInt8) 0)
/- cspcheck.cspcheckref9.Text -/
noncomputable def m_ref9_Text_B4 (self_ref9_Text : (List UInt8) → (List (List UInt8)) → Option (List UInt8)) (a1 : List (List UInt8)) (y1 : (List (List UInt8))) (k131 : (List UInt8) → Option (List UInt8)) (rec4 : (List UInt8) → Int → Option (List UInt8)) (x7_l4 : List UInt8) (x8_l4 : Int) : Option (List UInt8) :=
  if x8_l4 < (List.length y1 : Int) then (jn (fun (x7_j205 : List UInt8) => need ((0 : Int) ≤ x8_l4 ∧ x8_l4 ≤ i64 (x8_l4 + 2) ∧ (i64 (x8_l4 + 2)) ≤ (List.length y1 : Int)) (bnd1 (m_ref9_joined self_ref9_Text (List.take (Int.toNat (i64 (x8_l4 + 2)) - Int.toNat x8_l4) (List.drop (Int.toNat x8_l4) y1)) a1 [32, 61, 62, 32]) (fun y209 => need (List.length (x7_j205 : List UInt8) + List.length y209 ≤ 9223372036854775807) (rec4 (x7_j205 ++ y209) (i64 (x8_l4 + 2)))))) (fun k205 => if 0 < x8_l4 then (need (List.length (x7_l4 : List UInt8) + List.length [44, 32] ≤ 9223372036854775807) (k205 (x7_l4 ++ [44, 32]))) else (k205 x7_l4))) else (k131 x7_l4)
noncomputable def m_ref9_Text_L4 (self_ref9_Text : (List UInt8) → (List (List UInt8)) → Option (List UInt8)) (a1 : List (List UInt8)) (y1 : (List (List UInt8))) (k131 : (List UInt8) → Option (List UInt8)) : Nat → (List UInt8) → Int → Option (List UInt8)
  | 0, _, _ => none
  | n + 1, x7_l4, x8_l4 => m_ref9_Text_B4 self_ref9_Text a1 y1 k131 (m_ref9_Text_L4 self_ref9_Text a1 y1 k131 n) x7_l4 x8_l4
noncomputable def m_ref9_Text_F (self_ref9_Text : (List UInt8) → (List (List UInt8)) → Option (List UInt8)) (a0 : List UInt8) (a1 : List (List UInt8)) : Option (List UInt8) :=
  bnd1 (m_ref9_Parts a0) (fun y1 => jn (fun (_ : Unit) => some ([] : List UInt8)) (fun k2 => bnd1 (m_ref9_Kind a0) (fun y112 => if y112 = 1 then (bnd1 (m_ref9_Number a0) (fun y113 => bnd1 (m_ref9_Decimal y113) (fun y114 => some y114))) else (if y112 = 2 then (bnd1 (m_ref9_Number a0) (fun y115 => need ((0 : Int) ≤ y115 ∧ y115 < (List.length ([[102, 97, 108, 115, 101], [116, 114, 117, 101]]) : Int)) (some (gi ([[102, 97, 108, 115, 101], [116, 114, 117, 101]]) y115)))) else (if y112 = 10 then (bnd1 (m_ref9_Number a0) (fun y117 => if y117 < (List.length a1 : Int) then (need ((0 : Int) ≤ y117 ∧ y117 < (List.length a1 : Int)) (some (gi a1 y117))) else (bnd1 (m_ref9_Number a0) (fun y119 => bnd1 (m_ref9_Decimal y119) (fun y120 => need (List.length ([63] : List UInt8) + List.length y120 ≤ 9223372036854775807) (some ([63] ++ y120))))))) else (if y112 = 3 then (bnd1 (m_ref9_joined self_ref9_Text y1 a1 [44, 32]) (fun y122 => need (List.length ([40] : List UInt8) + List.length y122 ≤ 9223372036854775807) (need (List.length (([40] ++ y122) : List UInt8) + List.length [41] ≤ 9223372036854775807) (some (([40] ++ y122) ++ [41]))))) else (if y112 = 4 then (bnd1 (m_ref9_joined self_ref9_Text y1 a1 [44, 32]) (fun y125 => need (List.length ([60] : List UInt8) + List.length y125 ≤ 9223372036854775807) (need (List.length (([60] ++ y125) : List UInt8) + List.length [62] ≤ 9223372036854775807) (some (([60] ++ y125) ++ [62]))))) else (if y112 = 5 then (bnd1 (m_ref9_joined self_ref9_Text y1 a1 [44, 32]) (fun y128 => need (List.length ([123] : List UInt8) + List.length y128 ≤ 9223372036854775807) (need (List.length (([123] ++ y128) : List UInt8) + List.length [125] ≤ 9223372036854775807) (some (([123] ++ y128) ++ [125]))))) else (if y112 = 6 then (jn (fun (x7_j131 : List UInt8) => need (List.length ([40, 124] : List UInt8) + List.length x7_j131 ≤ 9223372036854775807) (need (List.length (([40, 124] ++ x7_j131) : List UInt8) + List.length [124, 41] ≤ 9223372036854775807) (some (([40, 124] ++ x7_j131) ++ [124, 41])))) (fun k131 => m_ref9_Text_L4 self_ref9_Text a1 y1 k131 FU ([] : List UInt8) 0)) else (if y112 = 7 then (bnd1 (m_ref9_joined self_ref9_Text y1 a1 [46]) (fun y213 => some y213)) else (if y112 = 8 then (bnd1 (m_ref9_joined self_ref9_Text y1 a1 [44, 32]) (fun y214 => need (List.length ([102, 117, 110, 40] : List UInt8) + List.length y214 ≤ 9223372036854775807) (need (List.length (([102, 117, 110, 40] ++ y214) : List UInt8) + List.length [41] ≤ 9223372036854775807) (some (([102, 117, 110, 40] ++ y214) ++ [41]))))) else (if y112 = 9 then (bnd1 (m_ref9_joined self_ref9_Text y1 a1 [44, 32]) (fun y217 => need (List.length ([112, 114, 111, 99, 40] : List UInt8) + List.length y217 ≤ 9223372036854775807) (need (List.length (([112, 114, 111, 99, 40] ++ y217) : List UInt8) + List.length [41] ≤ 9223372036854775807) (some (([112, 114, 111, 99, 40] ++ y217) ++ [41]))))) else (k2 ())))))))))))))
/- cspcheck.cspcheckref9.Text -/
noncomputable def m_ref9_Text_S : Nat → ((List UInt8) → (List (List UInt8)) → Option (List UInt8))
  | 0 => (fun _ _ => none)
  | n + 1 => m_ref9_Text_F (m_ref9_Text_S n)
noncomputable def m_ref9_Text (a0 : List UInt8) (a1 : List (List UInt8)) : Option (List UInt8) := m_ref9_Text_S FU a0 a1
/- cspcheck.cspchecklaw9.ValueTexts -/
noncomputable def m_law9_ValueTexts (a0 : List UInt8) (a1 : List Int) (a2 : List (List UInt8)) : Option Bool :=
  bnd1 (m_gen_New a1) (fun y1 => bnd1 (m_gen_Choices_Value (y1.1, y1.2) 4) (fun y3 => jn (fun (x6_j4 : Bool) => some x6_j4) (fun k4 => bnd1 (m_law9_awake) (fun y12 => if y12 then (bnd1 (m_value_Text a0 a2) (fun y13 => bnd1 (m_ref9_Text a0 a2) (fun y14 => if y13 = y14 then (bnd1 (m_value_Text y3.1 a2) (fun y15 => bnd1 (m_ref9_Text y3.1 a2) (fun y16 => if y15 = y16 then (bnd1 (m_value_Text y3.1 ([[97], [98]])) (fun y17 => bnd1 (m_ref9_Text y3.1 ([[97], [98]])) (fun y18 => k4 (decide (y17 = y18))))) else (k4 false)))) else (k4 false)))) else (k4 false)))))
end Go.Proofs.YtdppkpiagdaigaaGreatDoor
/- Laws of the words of the models, and of bytes: no program in sight. -/
namespace Go.Proofs.YtdppkpiagdaigaaGreatDoor

theorem jn_eq {κ ρ : Type} (k : κ) (m : κ → ρ) : jn k m = m k := by
  have h : jn k m = m k := rfl
  exact h
theorem bnd1_mk {α ρ : Type} (a : α) (k : α → Option ρ) : bnd1 (some a) k = k a := by
  have h : bnd1 (some a) k = k a := rfl
  exact h
theorem FU_ge : 18446744073709551616 ≤ FU := Nat.le_refl _
theorem wrap_i64 (x : Int) (h : -9223372036854775808 ≤ x ∧ x ≤ 9223372036854775807) : IntKind.i64.wrap x = x := i64_id h
theorem u8i_nat (n : Nat) : (u8i (n : Int)).toNat = n % 256 := by
  have := u8i_eq (n : Int)
  rw [wrap_u8n] at this
  omega
theorem u8_inj {a b : UInt8} (h : a.toNat = b.toNat) : a = b := UInt8.toNat_inj.1 h
theorem u8i_toNat (a : UInt8) : u8i (a.toNat : Int) = a := u8_inj (by rw [u8i_nat]; have := UInt8.toNat_lt a; omega)
theorem bv_nat (w : Nat) (m : Nat) (h : m < 2 ^ w) : (BitVec.ofInt w (m : Int)).toNat = m := by
  rw [BitVec.toNat_ofInt]
  have h1 : ((m : Int) % (2 ^ w : Nat)) = (m : Int) := Int.emod_eq_of_lt (by omega) (by exact_mod_cast h)
  rw [h1]; rfl
theorem bOr_nat (m k : Nat) (hm : m < 2 ^ 63) (hk : k < 2 ^ 63) : bOr .i64 (m : Int) (k : Int) = ((m ||| k : Nat) : Int) := by
  unfold bOr
  rw [BitVec.toNat_or, show IntKind.i64.bits = 64 from rfl, bv_nat 64 m (by omega), bv_nat 64 k (by omega), wrap_i64]
  have := Nat.or_lt_two_pow hm hk
  omega
end Go.Proofs.YtdppkpiagdaigaaGreatDoor
/- Loops over lists. -/
namespace Go.Proofs.YtdppkpiagdaigaaGreatDoor
attribute [local irreducible] FU

/-- A loop over a list with what goes on behind it. -/
def foldK {σ α ρ : Type} (f : σ → α → (σ → Option ρ) → Option ρ) (K : σ → Option ρ) : List α → σ → Option ρ
  | [], s => K s
  | x :: xs, s => f s x (fun s' => foldK f K xs s')
theorem i64_succ {i : Nat} (h : i < 9223372036854775807) : i64 ((i : Int) + 1) = ((i + 1 : Nat) : Int) := by rw [i64_id (by omega)]; omega
theorem i64_sub1 {i : Nat} (h : i < 4611686018427387904) : i64 ((i : Int) - 1) = (i : Int) - 1 := i64_id (by omega)
theorem loop_fold {σ α ρ : Type} (l : List α) (L : Nat → σ → Int → Option ρ) (f : σ → α → (σ → Option ρ) → Option ρ) (K : σ → Option ρ)
    (hs : ∀ n s (i : Nat) (h : i < l.length), L (n + 1) s (i : Int) = f s l[i] (fun s' => L n s' ((i + 1 : Nat) : Int))) (he : ∀ n s, L (n + 1) s (l.length : Int) = K s) :
    ∀ (m i n : Nat) (s : σ), i + m = l.length → m < n → L n s (i : Int) = foldK f K (l.drop i) s := by
  intro m
  induction m with
  | zero =>
    intro i n s hi h
    obtain ⟨n, rfl⟩ : ∃ k, n = k + 1 := ⟨n - 1, by omega⟩
    obtain rfl : i = l.length := by omega
    rw [he, List.drop_length]; rfl
  | succ m ih =>
    intro i n s hi h
    obtain ⟨n, rfl⟩ : ∃ k, n = k + 1 := ⟨n - 1, by omega⟩
    rw [hs n s i (by omega), List.drop_eq_getElem_cons (show i < l.length by omega), foldK]
    congr 1
    funext s'
    exact ih (i + 1) n s' (by omega) (by omega)
theorem loop_all {σ α ρ : Type} (l : List α) (hl : l.length < 4611686018427387904) (L : Nat → σ → Int → Option ρ) (f : σ → α → (σ → Option ρ) → Option ρ) (K : σ → Option ρ)
    (hs : ∀ n s (i : Nat) (h : i < l.length), L (n + 1) s (i : Int) = f s l[i] (fun s' => L n s' ((i + 1 : Nat) : Int))) (he : ∀ n s, L (n + 1) s (l.length : Int) = K s) (s : σ) :
    L FU s 0 = foldK f K l s := by
  have := FU_ge
  exact loop_fold l L f K hs he l.length 0 FU s (by omega) (by omega)
theorem foldK_any {σ α ρ : Type} (p : α → Bool) (R : Option ρ) (K : σ → Option ρ) (s : σ) : ∀ l : List α, foldK (fun s x k => if p x then R else k s) K l s = if l.any p then R else K s
  | [] => rfl
  | x :: xs => by
    rw [foldK]
    cases hp : p x with
    | true => simp [hp]
    | false => simp only [Bool.false_eq_true, if_false, List.any_cons, hp, Bool.false_or]; exact foldK_any p R K s xs
/-! ### Without repetitions -/
section
variable {α : Type} [DecidableEq α]
def cstep (r : List α) (x : α) : List α := if r.getLast? = some x then r else r ++ [x]
/-- Without what equals what stands before it. -/
def compactL (l : List α) : List α := l.foldl cstep []
theorem compactL_snoc (l : List α) (x : α) : compactL (l ++ [x]) = cstep (compactL l) x := by simp [compactL]
theorem compactL_last (l : List α) : (compactL l).getLast? = l.getLast? := by
  rcases List.eq_nil_or_concat l with rfl | ⟨t, x, rfl⟩
  · rfl
  · rw [List.concat_eq_append, compactL_snoc, cstep]
    split
    · rename_i h; rw [h]; simp
    · simp
theorem compactL_mem (l : List α) (x : α) : x ∈ compactL l ↔ x ∈ l := by
  have key : ∀ n (l : List α), l.length = n → (x ∈ compactL l ↔ x ∈ l) := by
    intro n
    induction n with
    | zero => intro l h; have := List.length_eq_zero_iff.1 h; subst this; simp [compactL]
    | succ n ih =>
      intro l h
      rcases List.eq_nil_or_concat l with rfl | ⟨t, y, rfl⟩
      · simp [compactL]
      · rw [List.concat_eq_append] at h ⊢
        simp at h
        rw [compactL_snoc, cstep]
        split
        · rename_i he
          rw [ih t h]
          rw [compactL_last] at he
          have : y ∈ t := List.mem_of_getLast? he
          constructor
          · intro hx; simp [hx]
          · intro hx
            rcases List.mem_append.1 hx with h1 | h1
            · exact h1
            · rw [List.mem_singleton.1 h1]; exact this
        · simp [ih t h]
  exact key l.length l rfl
theorem compactL_len (l : List α) : (compactL l).length ≤ l.length := by
  have key : ∀ n (l : List α), l.length = n → (compactL l).length ≤ l.length := by
    intro n
    induction n with
    | zero => intro l h; have := List.length_eq_zero_iff.1 h; subst this; simp [compactL]
    | succ n ih =>
      intro l h
      rcases List.eq_nil_or_concat l with rfl | ⟨t, y, rfl⟩
      · simp [compactL]
      · rw [List.concat_eq_append] at h ⊢
        simp at h
        have := ih t h
        rw [compactL_snoc, cstep]
        split <;> simp <;> omega
  exact key l.length l rfl
theorem compactL_sorted {lt : α → α → Prop} (hirr : ∀ a, ¬ lt a a) (ht : ∀ {a b c}, lt a b → lt b c → lt a c) (l : List α) (h : l.Pairwise (fun a b => a = b ∨ lt a b)) : (compactL l).Pairwise lt := by
  have key : ∀ n (l : List α), l.length = n → l.Pairwise (fun a b => a = b ∨ lt a b) → (compactL l).Pairwise lt := by
    intro n
    induction n with
    | zero => intro l h; have := List.length_eq_zero_iff.1 h; subst this; simp [compactL]
    | succ n ih =>
      intro l h hp
      rcases List.eq_nil_or_concat l with rfl | ⟨t, y, rfl⟩
      · simp [compactL]
      · rw [List.concat_eq_append] at h hp ⊢
        simp at h
        obtain ⟨p1, _, p3⟩ := List.pairwise_append.1 hp
        have hc := ih t h p1
        rw [compactL_snoc, cstep]
        split
        · exact hc
        · rename_i hne
          rw [List.pairwise_append]
          refine ⟨hc, by simp, fun a ha b hb => ?_⟩
          obtain rfl := List.mem_singleton.1 hb
          have ha' := (compactL_mem t a).1 ha
          rcases p3 a ha' b (by simp) with h1 | h1
          · subst h1
            exfalso
            rcases List.eq_nil_or_concat t with rfl | ⟨u, z, rfl⟩
            · cases ha'
            · rw [List.concat_eq_append] at *
              have hz : (compactL (u ++ [z])).getLast? = some z := by rw [compactL_last]; simp
              have hza : z ≠ a := fun e => hne (by rw [hz, e])
              have hlast : ∃ v, compactL (u ++ [z]) = v ++ [z] := by
                rcases List.eq_nil_or_concat (compactL (u ++ [z])) with e | ⟨v, q, e⟩
                · rw [e] at hz; cases hz
                · rw [List.concat_eq_append] at e; rw [e] at hz; simp at hz; exact ⟨v, by rw [e, hz]⟩
              obtain ⟨v, hv⟩ := hlast
              rw [hv] at ha hc
              rcases List.mem_append.1 ha with h2 | h2
              · have h3 := (List.pairwise_append.1 hc).2.2 a h2 z (by simp)
                rcases p3 z (by simp) a (by simp) with h4 | h4
                · exact hza h4
                · have : lt a a := ht h3 h4
                  exact hirr _ this
              · exact hza (List.mem_singleton.1 h2).symm
          · exact h1
  exact key l.length l rfl h
end
/-- Two strictly ascending lists of the same members. -/
theorem SL_ext {α : Type} {lt : α → α → Prop} (hirr : ∀ a, ¬ lt a a) (ht : ∀ {a b c}, lt a b → lt b c → lt a c) : ∀ {a b : List α}, a.Pairwise lt → b.Pairwise lt → (∀ x, x ∈ a ↔ x ∈ b) → a = b
  | [], [], _, _, _ => rfl
  | [], y :: b, _, _, h => by have := (h y).2 (by simp); cases this
  | x :: a, [], _, _, h => by have := (h x).1 (by simp); cases this
  | x :: a, y :: b, h1, h2, h => by
    obtain ⟨p1, p2⟩ := List.pairwise_cons.1 h1
    obtain ⟨q1, q2⟩ := List.pairwise_cons.1 h2
    have hxy : x = y := by
      rcases List.mem_cons.1 ((h x).1 (by simp)) with e | e
      · exact e
      · rcases List.mem_cons.1 ((h y).2 (by simp)) with e' | e'
        · exact e'.symm
        · exact absurd (ht (q1 x e) (p1 y e')) (hirr _)
    subst hxy
    congr 1
    refine SL_ext hirr ht p2 q2 fun z => ⟨fun hz => ?_, fun hz => ?_⟩
    · rcases List.mem_cons.1 ((h z).1 (by simp [hz])) with e | e
      · subst e; exact absurd (p1 z hz) (hirr _)
      · exact e
    · rcases List.mem_cons.1 ((h z).2 (by simp [hz])) with e | e
      · subst e; exact absurd (q1 z hz) (hirr _)
      · exact e
end Go.Proofs.YtdppkpiagdaigaaGreatDoor
/- Encoded values: their shape, and that they are read in one way only. No program in sight. -/
namespace Go.Proofs.YtdppkpiagdaigaaGreatDoor

/-- v is the encoding of one value that is nested at most k deep; the order of its parts is not looked at. -/
inductive Sh : Nat → List UInt8 → Prop
  | int (k : Nat) (b : List UInt8) (h : b.length = 8) : Sh (k + 1) (1 :: b)
  | bool (k : Nat) (b : UInt8) (h : b.toNat ≤ 1) : Sh (k + 1) [2, b]
  | name (k : Nat) (h l : UInt8) : Sh (k + 1) [10, h, l]
  | comp (k : Nat) (c h l : UInt8) (ps : List (List UInt8)) (hc : 3 ≤ c.toNat ∧ c.toNat ≤ 9) (hn : ps.length = h.toNat * 256 + l.toNat) (hp : ∀ p ∈ ps, Sh k p) : Sh (k + 1) (c :: h :: l :: ps.flatten)

theorem Sh.mono {k : Nat} {v : List UInt8} (h : Sh k v) : Sh (k + 1) v := by
  induction h with
  | int k b h => exact .int _ b h
  | bool k b h => exact .bool _ b h
  | name k h l => exact .name _ h l
  | comp k c h l ps hc hn hp ih => exact .comp _ c h l ps hc hn ih
theorem Sh.le {k j : Nat} {v : List UInt8} (h : Sh k v) (hj : k ≤ j) : Sh j v := by
  obtain ⟨d, rfl⟩ := Nat.exists_eq_add_of_le hj
  induction d with
  | zero => exact h
  | succ d ih => exact (ih (by omega)).mono
theorem Sh.len {k : Nat} {v : List UInt8} (h : Sh k v) : 2 ≤ v.length := by
  cases h <;> simp <;> omega
theorem Sh.pos {k : Nat} {v : List UInt8} (h : Sh k v) : 1 ≤ k := by cases h <;> omega

theorem flat_uniq {r r' : List UInt8} : ∀ {ps qs : List (List UInt8)}, (∀ p ∈ ps, ∀ q ∈ qs, ∀ r r' : List UInt8, p ++ r = q ++ r' → p = q ∧ r = r') → ps.length = qs.length → ps.flatten ++ r = qs.flatten ++ r' → ps = qs ∧ r = r'
  | [], [], _, _, e => ⟨rfl, by simpa using e⟩
  | p :: ps, q :: qs, hu, hl, e => by
    simp only [List.flatten_cons, List.append_assoc] at e
    obtain ⟨e1, e2⟩ := hu p (by simp) q (by simp) _ _ e
    obtain ⟨e3, e4⟩ := flat_uniq (fun a ha b hb => hu a (by simp [ha]) b (by simp [hb])) (by simpa using hl) e2
    exact ⟨by rw [e1, e3], e4⟩
theorem Sh.uniq {k : Nat} {v : List UInt8} (h : Sh k v) : ∀ {j : Nat} {w : List UInt8}, Sh j w → ∀ r r' : List UInt8, v ++ r = w ++ r' → v = w ∧ r = r' := by
  induction h with
  | int k b hb =>
    intro j w hw r r' e
    cases hw with
    | int j b' hb' =>
      simp only [List.cons_append, List.cons.injEq, true_and] at e
      obtain ⟨e1, e2⟩ := List.append_inj e (by omega)
      exact ⟨by rw [e1], e2⟩
    | bool j b' hb' => simp at e
    | name j h' l' => simp at e
    | comp j c' h' l' ps' hc' hn' hp' =>
      simp only [List.cons_append, List.cons.injEq] at e
      have := e.1; subst this; simp at hc'
  | bool k b hb =>
    intro j w hw r r' e
    cases hw with
    | int j b' hb' => simp at e
    | bool j b' hb' => simp at e; exact ⟨by rw [e.1], e.2⟩
    | name j h' l' => simp at e
    | comp j c' h' l' ps' hc' hn' hp' =>
      simp only [List.cons_append, List.cons.injEq] at e
      have := e.1; subst this; simp at hc'
  | name k h l =>
    intro j w hw r r' e
    cases hw with
    | int j b' hb' => simp at e
    | bool j b' hb' => simp at e
    | name j h' l' => simp at e; exact ⟨by rw [e.1, e.2.1], e.2.2⟩
    | comp j c' h' l' ps' hc' hn' hp' =>
      simp only [List.cons_append, List.cons.injEq] at e
      have := e.1; subst this; simp at hc'
  | comp k c h l ps hc hn hp ih =>
    intro j w hw r r' e
    cases hw with
    | int j b' hb' =>
      simp only [List.cons_append, List.cons.injEq] at e
      have := e.1; subst this; simp at hc
    | bool j b' hb' =>
      simp only [List.cons_append, List.cons.injEq] at e
      have := e.1; subst this; simp at hc
    | name j h' l' =>
      simp only [List.cons_append, List.cons.injEq] at e
      have := e.1; subst this; simp at hc
    | comp j c' h' l' ps' hc' hn' hp' =>
      simp only [List.cons_append, List.cons.injEq] at e
      obtain ⟨rfl, rfl, rfl, e⟩ := e
      obtain ⟨e1, e2⟩ := flat_uniq (fun p hp q hq r r' e => ih p hp (hp' q hq) r r' e) (by omega) e
      exact ⟨by rw [e1], e2⟩
theorem Sh.flat {k j : Nat} {ps qs : List (List UInt8)} {r r' : List UInt8} (hp : ∀ p ∈ ps, Sh k p) (hq : ∀ q ∈ qs, Sh j q) (hl : ps.length = qs.length) (e : ps.flatten ++ r = qs.flatten ++ r') : ps = qs ∧ r = r' :=
  flat_uniq (fun p hp' q hq' r r' e => (hp p hp').uniq (hq q hq') r r' e) hl e
/-! ### The length and the parts -/
def sumN (f : List UInt8 → Nat) : Nat → List UInt8 → Nat
  | 0, _ => 0
  | n + 1, u => f u + sumN f n (u.drop (f u))
def splitN (f : List UInt8 → Nat) : Nat → List UInt8 → List (List UInt8)
  | 0, _ => []
  | n + 1, u => u.take (f u) :: splitN f n (u.drop (f u))
def spanV : Nat → List UInt8 → Nat
  | 0, _ => 0
  | k + 1, s => if gi s 0 = 1 then 9 else if gi s 0 = 2 then 2 else if gi s 0 = 10 then 3 else 3 + sumN (spanV k) ((gi s 1).toNat * 256 + (gi s 2).toNat) (s.drop 3)
/-- The parts of a compound value. -/
def partsV (k : Nat) (v : List UInt8) : List (List UInt8) := splitN (spanV k) ((gi v 1).toNat * 256 + (gi v 2).toNat) (v.drop 3)
theorem sumN_flat {f : List UInt8 → Nat} : ∀ {ps : List (List UInt8)} {r : List UInt8}, (∀ p ∈ ps, ∀ r : List UInt8, f (p ++ r) = p.length) → sumN f ps.length (ps.flatten ++ r) = ps.flatten.length
  | [], _, _ => rfl
  | p :: ps, r, h => by
    have h0 := h p (by simp) (ps.flatten ++ r)
    rw [List.length_cons, sumN, List.flatten_cons, List.append_assoc, h0, List.drop_left, sumN_flat (fun q hq => h q (by simp [hq])), List.length_append]
theorem splitN_flat {f : List UInt8 → Nat} : ∀ {ps : List (List UInt8)} {r : List UInt8}, (∀ p ∈ ps, ∀ r : List UInt8, f (p ++ r) = p.length) → splitN f ps.length (ps.flatten ++ r) = ps
  | [], _, _ => rfl
  | p :: ps, r, h => by
    have h0 := h p (by simp) (ps.flatten ++ r)
    rw [List.length_cons, splitN, List.flatten_cons, List.append_assoc, h0, List.drop_left, splitN_flat (fun q hq => h q (by simp [hq])), List.take_left]
theorem gi_0 (a : UInt8) (s : List UInt8) : gi (a :: s) 0 = a := rfl
theorem gi_1 (a b : UInt8) (s : List UInt8) : gi (a :: b :: s) 1 = b := rfl
theorem gi_2 (a b c : UInt8) (s : List UInt8) : gi (a :: b :: c :: s) 2 = c := rfl
theorem kind_ne {c : UInt8} (hc : 3 ≤ c.toNat ∧ c.toNat ≤ 9) : c ≠ 1 ∧ c ≠ 2 ∧ c ≠ 10 := by
  refine ⟨?_, ?_, ?_⟩ <;> rintro rfl <;> simp at hc
theorem spanV_eq {k : Nat} {v : List UInt8} (h : Sh k v) : ∀ r : List UInt8, spanV k (v ++ r) = v.length := by
  induction h with
  | int k b hb => intro r; simp [spanV, gi_0, hb]
  | bool k b hb => intro r; simp [spanV, gi_0]
  | name k h l => intro r; simp [spanV, gi_0]
  | comp k c h l ps hc hn hp ih =>
    intro r
    obtain ⟨n1, n2, n3⟩ := kind_ne hc
    simp only [spanV, List.cons_append, gi_0, gi_1, gi_2, n1, n2, n3, if_false, List.drop_succ_cons, List.drop_zero]
    rw [← hn, sumN_flat (fun p hp r => ih p hp r)]
    simp; omega
theorem partsV_eq {k : Nat} {c h l : UInt8} {ps : List (List UInt8)} (hn : ps.length = h.toNat * 256 + l.toNat) (hp : ∀ p ∈ ps, Sh k p) : partsV k (c :: h :: l :: ps.flatten) = ps := by
  unfold partsV
  simp only [gi_1, gi_2, List.drop_succ_cons, List.drop_zero]
  rw [← hn]
  have := splitN_flat (r := []) (fun p hp' r => spanV_eq (hp p hp') r) (ps := ps)
  rwa [List.append_nil] at this
end Go.Proofs.YtdppkpiagdaigaaGreatDoor
/- The order of encoded values is total. No program in sight. -/
namespace Go.Proofs.YtdppkpiagdaigaaGreatDoor

structure TO {α : Type} (P : α → Prop) (c : α → α → Int) : Prop where
  eq : ∀ a b, P a → P b → (c a b = 0 ↔ a = b)
  anti : ∀ a b, P a → P b → c b a = - c a b
  trans : ∀ a b d, P a → P b → P d → c a b < 0 → c b d < 0 → c a d < 0
  rng : ∀ a b, P a → P b → c a b = -1 ∨ c a b = 0 ∨ c a b = 1
theorem TO.self {α : Type} {P : α → Prop} {c : α → α → Int} (h : TO P c) (a : α) (ha : P a) : c a a = 0 := (h.eq a a ha ha).2 rfl
theorem TO.sub {α : Type} {P Q : α → Prop} {c : α → α → Int} (h : TO P c) (hq : ∀ a, Q a → P a) : TO Q c :=
  ⟨fun a b ha hb => h.eq a b (hq a ha) (hq b hb), fun a b ha hb => h.anti a b (hq a ha) (hq b hb), fun a b d ha hb hd => h.trans a b d (hq a ha) (hq b hb) (hq d hd), fun a b ha hb => h.rng a b (hq a ha) (hq b hb)⟩
theorem TO.congr {α : Type} {P : α → Prop} {c c' : α → α → Int} (h : TO P c) (hc : ∀ a b, P a → P b → c' a b = c a b) : TO P c' :=
  ⟨fun a b ha hb => by rw [hc a b ha hb]; exact h.eq a b ha hb, fun a b ha hb => by rw [hc a b ha hb, hc b a hb ha]; exact h.anti a b ha hb,
   fun a b d ha hb hd => by rw [hc a b ha hb, hc b d hb hd, hc a d ha hd]; exact h.trans a b d ha hb hd, fun a b ha hb => by rw [hc a b ha hb]; exact h.rng a b ha hb⟩
theorem TO.inj {α β : Type} {P : α → Prop} {Q : β → Prop} {c : β → β → Int} (h : TO Q c) (g : α → β) (hg : ∀ a b, P a → P b → g a = g b → a = b) (hq : ∀ a, P a → Q (g a)) : TO P (fun a b => c (g a) (g b)) :=
  ⟨fun a b ha hb => (h.eq _ _ (hq a ha) (hq b hb)).trans ⟨hg a b ha hb, fun e => by rw [e]⟩, fun a b ha hb => h.anti _ _ (hq a ha) (hq b hb), fun a b d ha hb hd => h.trans _ _ _ (hq a ha) (hq b hb) (hq d hd), fun a b ha hb => h.rng _ _ (hq a ha) (hq b hb)⟩
/-- By a key first. -/
theorem TO.byKey {α κ : Type} {P : α → Prop} {c : α → α → Int} (key : α → κ) {ck : κ → κ → Int} (hk : TO (fun _ => True) ck) (h : ∀ K, TO (fun v => P v ∧ key v = K) c) (hx : ∀ a b, P a → P b → key a ≠ key b → c a b = ck (key a) (key b)) : TO P c := by
  have hne : ∀ a b, key a ≠ key b → ck (key a) (key b) ≠ 0 := fun a b hne e => hne ((hk.eq _ _ trivial trivial).1 e)
  refine ⟨fun a b ha hb => ?_, fun a b ha hb => ?_, fun a b d ha hb hd h1 h2 => ?_, fun a b ha hb => ?_⟩
  · by_cases e : key a = key b
    · exact (h (key b)).eq a b ⟨ha, e⟩ ⟨hb, rfl⟩
    · rw [hx a b ha hb e]
      exact ⟨fun h0 => absurd h0 (hne a b e), fun h0 => absurd (congrArg key h0) e⟩
  · by_cases e : key a = key b
    · exact (h (key b)).anti a b ⟨ha, e⟩ ⟨hb, rfl⟩
    · rw [hx a b ha hb e, hx b a hb ha (Ne.symm e)]; exact hk.anti _ _ trivial trivial
  · by_cases e1 : key a = key b
    · by_cases e2 : key b = key d
      · exact (h (key d)).trans a b d ⟨ha, e1.trans e2⟩ ⟨hb, e2⟩ ⟨hd, rfl⟩ h1 h2
      · rw [hx b d hb hd e2] at h2
        rw [hx a d ha hd (by rw [e1]; exact e2), e1]; exact h2
    · rw [hx a b ha hb e1] at h1
      by_cases e2 : key b = key d
      · rw [hx a d ha hd (by rw [← e2]; exact e1), ← e2]; exact h1
      · rw [hx b d hb hd e2] at h2
        have h3 := hk.trans _ _ _ trivial trivial trivial h1 h2
        have e3 : key a ≠ key d := fun e => by rw [e, hk.self _ trivial] at h3; omega
        rw [hx a d ha hd e3]; exact h3
  · by_cases e : key a = key b
    · exact (h (key b)).rng a b ⟨ha, e⟩ ⟨hb, rfl⟩
    · rw [hx a b ha hb e]; exact hk.rng _ _ trivial trivial

def sgn (x y : Int) : Int := if x < y then -1 else if y < x then 1 else 0
theorem TO_sgn : TO (fun _ : Int => True) sgn := by
  refine ⟨fun a b _ _ => ?_, fun a b _ _ => ?_, fun a b d _ _ _ => ?_, fun a b _ _ => ?_⟩ <;> unfold sgn <;> repeat' split
  all_goals omega
def sgnB (x y : UInt8) : Int := if x < y then -1 else if y < x then 1 else 0
theorem TO_sgnB : TO (fun _ : UInt8 => True) sgnB := by
  have h := TO_sgn.inj (P := fun _ : UInt8 => True) (fun b => (b.toNat : Int)) (fun a b _ _ e => u8_inj (by have e' : (a.toNat : Int) = (b.toNat : Int) := e; omega)) (fun _ _ => trivial)
  refine h.congr fun a b _ _ => ?_
  unfold sgnB sgn
  simp only [UInt8.lt_iff_toNat_lt, Int.ofNat_lt]
def lexCmp {α : Type} (c : α → α → Int) : List α → List α → Int
  | [], [] => 0
  | [], _ :: _ => -1
  | _ :: _, [] => 1
  | x :: xs, y :: ys => if c x y ≠ 0 then c x y else lexCmp c xs ys
theorem TO.lex {α : Type} {P : α → Prop} {c : α → α → Int} (h : TO P c) : TO (fun l : List α => ∀ x ∈ l, P x) (lexCmp c) := by
  refine ⟨fun a => ?_, fun a => ?_, fun a => ?_, fun a => ?_⟩
  · induction a with
    | nil => intro b _ _; cases b <;> simp [lexCmp]
    | cons x xs ih =>
      intro b ha hb
      cases b with
      | nil => simp [lexCmp]
      | cons y ys =>
        have hx := ha x (by simp)
        have hy := hb y (by simp)
        have ih := ih ys (fun z hz => ha z (by simp [hz])) (fun z hz => hb z (by simp [hz]))
        have he := h.eq x y hx hy
        rw [lexCmp]
        by_cases h0 : c x y = 0
        · rw [if_neg (by simpa using h0), ih]
          have := he.1 h0
          simp [this]
        · rw [if_pos h0]
          exact ⟨fun e => absurd e h0, fun e => by simp at e; exact absurd (he.2 e.1) h0⟩
  · induction a with
    | nil => intro b _ _; cases b <;> simp [lexCmp]
    | cons x xs ih =>
      intro b ha hb
      cases b with
      | nil => simp [lexCmp]
      | cons y ys =>
        have hx := ha x (by simp)
        have hy := hb y (by simp)
        have ih := ih ys (fun z hz => ha z (by simp [hz])) (fun z hz => hb z (by simp [hz]))
        have he := h.anti x y hx hy
        rw [lexCmp, lexCmp]
        by_cases h0 : c x y = 0
        · rw [if_neg (show ¬ c y x ≠ 0 by rw [he, h0]; simp), if_neg (show ¬ c x y ≠ 0 by simpa using h0), ih]
        · rw [if_pos (show c y x ≠ 0 by rw [he]; omega), if_pos h0, he]
  · induction a with
    | nil =>
      intro b d _ _ _ h1 h2
      cases d with
      | nil => cases b <;> simp [lexCmp] at h1 h2
      | cons z zs => simp [lexCmp]
    | cons x xs ih =>
      intro b d ha hb hd h1 h2
      cases b with
      | nil => simp [lexCmp] at h1
      | cons y ys =>
        cases d with
        | nil => simp [lexCmp] at h2
        | cons z zs =>
          have hx := ha x (by simp)
          have hy := hb y (by simp)
          have hz := hd z (by simp)
          have ih := ih ys zs (fun z hz => ha z (by simp [hz])) (fun z hz => hb z (by simp [hz])) (fun z hz => hd z (by simp [hz]))
          rw [lexCmp] at h1 h2 ⊢
          by_cases e1 : c x y = 0
          · have e1' := (h.eq x y hx hy).1 e1
            subst e1'
            rw [if_neg (by simpa using e1)] at h1
            by_cases e2 : c x z = 0
            · rw [if_neg (by simpa using e2)] at h2 ⊢
              exact ih h1 h2
            · rw [if_pos e2] at h2 ⊢; exact h2
          · rw [if_pos e1] at h1
            by_cases e2 : c y z = 0
            · have e2' := (h.eq y z hy hz).1 e2
              subst e2'
              rw [if_pos e1]; exact h1
            · rw [if_pos e2] at h2
              have h3 := h.trans x y z hx hy hz h1 h2
              rw [if_pos (by omega)]; exact h3
  · induction a with
    | nil => intro b _ _; cases b <;> simp [lexCmp]
    | cons x xs ih =>
      intro b ha hb
      cases b with
      | nil => simp [lexCmp]
      | cons y ys =>
        rw [lexCmp]
        split
        · exact h.rng x y (ha x (by simp)) (hb y (by simp))
        · exact ih ys (fun z hz => ha z (by simp [hz])) (fun z hz => hb z (by simp [hz]))
theorem lexCmp_congr {α : Type} {c c' : α → α → Int} : ∀ {a b : List α}, (∀ x ∈ a, ∀ y ∈ b, c x y = c' x y) → lexCmp c a b = lexCmp c' a b
  | [], [], _ => rfl
  | [], _ :: _, _ => rfl
  | _ :: _, [], _ => rfl
  | x :: xs, y :: ys, h => by
    rw [lexCmp, lexCmp, h x (by simp) y (by simp), lexCmp_congr (fun z hz w hw => h z (by simp [hz]) w (by simp [hw]))]
/-- The order of strings. -/
def strCmp (a b : List UInt8) : Int := lexCmp sgnB a b
theorem TO_str : TO (fun _ : List UInt8 => True) strCmp := (TO_sgnB.lex).sub (fun _ _ => fun _ _ => trivial)
theorem ltB_iff : ∀ a b : List UInt8, ltB a b = decide (strCmp a b < 0)
  | [], [] => rfl
  | [], _ :: _ => rfl
  | _ :: _, [] => by simp [ltB, strCmp, lexCmp]
  | x :: xs, y :: ys => by
    have ih := ltB_iff xs ys
    unfold strCmp at ih ⊢
    rw [ltB, lexCmp, ih]
    unfold sgnB
    by_cases h : x < y
    · simp [h]
    · by_cases h2 : y < x
      · have h3 : x ≠ y := fun e => by subst e; exact h h2
        simp [h, h2, h3]
      · have h3 : x = y := by
          apply u8_inj
          rw [UInt8.lt_iff_toNat_lt] at h h2
          omega
        subst h3
        simp [h]

/-! ### Numbers -/
def beNat (l : List UInt8) : Nat := l.foldl (fun n b => n * 256 + b.toNat) 0
theorem beNat_snoc (l : List UInt8) (b : UInt8) : beNat (l ++ [b]) = beNat l * 256 + b.toNat := by simp [beNat]
theorem beNat_lt (l : List UInt8) : beNat l < 256 ^ l.length := by
  have key : ∀ n (l : List UInt8), l.length = n → beNat l < 256 ^ l.length := by
    intro n
    induction n with
    | zero => intro l h; have := List.length_eq_zero_iff.1 h; subst this; simp [beNat]
    | succ n ih =>
      intro l h
      rcases List.eq_nil_or_concat l with rfl | ⟨t, b, rfl⟩
      · simp [beNat]
      · rw [List.concat_eq_append] at h ⊢
        simp at h
        have h1 := ih t h
        have h2 := UInt8.toNat_lt b
        rw [beNat_snoc, List.length_append, List.length_singleton, Nat.pow_succ]
        omega
  exact key l.length l rfl
theorem beNat_inj : ∀ (n : Nat) (a b : List UInt8), a.length = n → b.length = n → beNat a = beNat b → a = b := by
  intro n
  induction n with
  | zero => intro a b ha hb _; rw [List.length_eq_zero_iff.1 ha, List.length_eq_zero_iff.1 hb]
  | succ n ih =>
    intro a b ha hb e
    rcases List.eq_nil_or_concat a with rfl | ⟨s, x, rfl⟩
    · simp at ha
    · rcases List.eq_nil_or_concat b with rfl | ⟨t, y, rfl⟩
      · simp at hb
      · simp only [List.concat_eq_append] at ha hb e ⊢
        simp at ha hb
        rw [beNat_snoc, beNat_snoc] at e
        have h1 := UInt8.toNat_lt x
        have h2 := UInt8.toNat_lt y
        have e1 := ih s t ha hb (by omega)
        have e2 : x = y := u8_inj (by omega)
        rw [e1, e2]
/-- The number of an integer. -/
def numV (v : List UInt8) : Int := i64 (beNat (v.drop 1))
theorem i64_inj {a b : Nat} (ha : a < 18446744073709551616) (hb : b < 18446744073709551616) (h : i64 (a : Int) = i64 (b : Int)) : a = b := by
  unfold i64 IntKind.wrap IntKind.bits IntKind.signed at h
  simp at h
  split at h <;> split at h <;> omega

/-! ### Values -/
def cmpV : Nat → List UInt8 → List UInt8 → Int
  | 0, _, _ => 0
  | k + 1, a, b => if a = b then 0 else if gi a 0 ≠ gi b 0 then sgnB (gi a 0) (gi b 0) else if gi a 0 = 1 then sgn (numV a) (numV b) else if gi a 0 = 2 ∨ gi a 0 = 10 then strCmp a b else lexCmp (cmpV k) (partsV k a) (partsV k b)
theorem Sh.kind1 {k : Nat} {v : List UInt8} (h : Sh k v) (h1 : gi v 0 = 1) : v.length = 9 ∧ v = 1 :: v.drop 1 := by
  cases h with
  | int k b hb => simp [hb]
  | bool k b hb => simp [gi_0] at h1
  | name k h l => simp [gi_0] at h1
  | comp k c h l ps hc hn hp => simp [gi_0] at h1; subst h1; simp at hc
theorem Sh.kindc {k : Nat} {v : List UInt8} (h : Sh (k + 1) v) (h1 : gi v 0 ≠ 1) (h2 : ¬ (gi v 0 = 2 ∨ gi v 0 = 10)) : ∃ c x y ps, v = c :: x :: y :: ps.flatten ∧ ps.length = x.toNat * 256 + y.toNat ∧ (∀ p ∈ ps, Sh k p) ∧ partsV k v = ps ∧ (3 ≤ c.toNat ∧ c.toNat ≤ 9) := by
  cases h with
  | int k b hb => simp [gi_0] at h1
  | bool k b hb => simp [gi_0] at h2
  | name k h l => simp [gi_0] at h2
  | comp k c h l ps hc hn hp => exact ⟨c, h, l, ps, rfl, hn, hp, partsV_eq hn hp, hc⟩
theorem cmpV_TO : ∀ k, TO (Sh k) (cmpV k)
  | 0 => ⟨fun a b ha => absurd ha.pos (by omega), fun a b ha => absurd ha.pos (by omega), fun a b d ha => absurd ha.pos (by omega), fun a b ha => absurd ha.pos (by omega)⟩
  | k + 1 => by
    have ih := cmpV_TO k
    refine TO.byKey (fun v => gi v 0) TO_sgnB (fun K => ?_) (fun a b ha hb hne => ?_)
    · have drop0 : ∀ {f : List UInt8 → List UInt8 → Int}, TO (fun v => Sh (k + 1) v ∧ gi v 0 = K) f → (∀ a b, Sh (k + 1) a ∧ gi a 0 = K → Sh (k + 1) b ∧ gi b 0 = K → a ≠ b → cmpV (k + 1) a b = f a b) → TO (fun v => Sh (k + 1) v ∧ gi v 0 = K) (cmpV (k + 1)) := fun {f} hf hc => hf.congr (fun a b ha hb => by
        by_cases e : a = b
        · subst e; rw [hf.self a ha]; simp [cmpV]
        · exact hc a b ha hb e)
      by_cases h1 : K = 1
      · subst h1
        refine drop0 (f := fun a b => sgn (numV a) (numV b)) (TO_sgn.inj numV (fun a b ha hb e => ?_) (fun _ _ => trivial)) (fun a b ha hb hne => ?_)
        · obtain ⟨l1, e1⟩ := ha.1.kind1 ha.2
          obtain ⟨l2, e2⟩ := hb.1.kind1 hb.2
          have hb1 := beNat_lt (a.drop 1)
          have hb2 := beNat_lt (b.drop 1)
          rw [List.length_drop, l1] at hb1
          rw [List.length_drop, l2] at hb2
          have := beNat_inj 8 (a.drop 1) (b.drop 1) (by simp [l1]) (by simp [l2]) (i64_inj (by omega) (by omega) e)
          rw [e1, e2, this]
        · rw [cmpV, if_neg hne, if_neg (by rw [ha.2, hb.2]; simp), if_pos ha.2]
      · by_cases h2 : K = 2 ∨ K = 10
        · refine drop0 (f := strCmp) (TO_str.sub (fun _ _ => trivial)) (fun a b ha hb hne => ?_)
          rw [cmpV, if_neg hne, if_neg (by rw [ha.2, hb.2]; simp), if_neg (by rw [ha.2]; exact h1), if_pos (by rw [ha.2]; exact h2)]
        · refine drop0 (f := fun a b => lexCmp (cmpV k) (partsV k a) (partsV k b)) (ih.lex.inj (partsV k) (fun a b ha hb e => ?_) (fun a ha => ?_)) (fun a b ha hb hne => ?_)
          · obtain ⟨c, x, y, ps, rfl, hn, _, hp, _⟩ := ha.1.kindc (by rw [ha.2]; exact h1) (by rw [ha.2]; exact h2)
            obtain ⟨c', x', y', ps', rfl, hn', _, hp', _⟩ := hb.1.kindc (by rw [hb.2]; exact h1) (by rw [hb.2]; exact h2)
            rw [hp, hp'] at e
            subst e
            have hc : c = c' := by have h1 := ha.2; have h2 := hb.2; simp only [gi_0] at h1 h2; rw [h1, h2]
            have q1 := UInt8.toNat_lt y
            have q2 := UInt8.toNat_lt y'
            have hx : x = x' := u8_inj (by omega)
            have hy : y = y' := u8_inj (by omega)
            rw [hc, hx, hy]
          · obtain ⟨c, x, y, ps, rfl, hn, hs, hp, _⟩ := ha.1.kindc (by rw [ha.2]; exact h1) (by rw [ha.2]; exact h2)
            rw [hp]; exact hs
          · rw [cmpV, if_neg hne, if_neg (by rw [ha.2, hb.2]; simp), if_neg (by rw [ha.2]; exact h1), if_neg (by rw [ha.2]; exact h2)]
    · have hab : a ≠ b := fun e => hne (by rw [e])
      rw [cmpV, if_neg hab, if_pos hne]
theorem cmpV_mono : ∀ (k : Nat) {a b : List UInt8}, Sh k a → Sh k b → cmpV (k + 1) a b = cmpV k a b
  | 0, a, b, ha, _ => absurd ha.pos (by omega)
  | k + 1, a, b, ha, hb => by
    rw [cmpV, cmpV]
    by_cases e : a = b
    · simp [e]
    · rw [if_neg e, if_neg e]
      by_cases e1 : gi a 0 ≠ gi b 0
      · rw [if_pos e1, if_pos e1]
      · rw [if_neg e1, if_neg e1]
        by_cases e2 : gi a 0 = 1
        · rw [if_pos e2, if_pos e2]
        · rw [if_neg e2, if_neg e2]
          by_cases e3 : gi a 0 = 2 ∨ gi a 0 = 10
          · rw [if_pos e3, if_pos e3]
          · rw [if_neg e3, if_neg e3]
            have e1' : gi a 0 = gi b 0 := by simpa using e1
            obtain ⟨c, x, y, ps, rfl, hn, hs, hp, hc⟩ := ha.kindc e2 e3
            obtain ⟨c', x', y', ps', rfl, hn', hs', hp', hc'⟩ := hb.kindc (by rw [← e1']; exact e2) (by rw [← e1']; exact e3)
            rw [partsV_eq hn (fun p h => (hs p h).mono), partsV_eq hn' (fun p h => (hs' p h).mono), hp, hp']
            exact lexCmp_congr (fun p h q h' => cmpV_mono k (hs p h) (hs' q h'))
theorem cmpV_le {k j : Nat} {a b : List UInt8} (ha : Sh k a) (hb : Sh k b) (hj : k ≤ j) : cmpV j a b = cmpV k a b := by
  obtain ⟨d, rfl⟩ := Nat.exists_eq_add_of_le hj
  induction d with
  | zero => rfl
  | succ d ih => exact (cmpV_mono (k + d) (ha.le (by omega)) (hb.le (by omega))).trans (ih (by omega))
end Go.Proofs.YtdppkpiagdaigaaGreatDoor
/- The program's numbers, spans, parts and comparisons of encoded values. -/
namespace Go.Proofs.YtdppkpiagdaigaaGreatDoor
attribute [local irreducible] FU

theorem FU_k (k : Nat) (h : k ≤ 4611686018427387904) : ∃ n, FU = n + k := ⟨FU - k, by have := FU_ge; omega⟩
theorem need_len {ρ : Type} {s : List UInt8} {m : Option ρ} (h : 0 < s.length) : need ((0 : Int) ≤ 0 ∧ 0 < (List.length s : Int)) m = m := need_pos (by omega)
theorem wrap_u64 (x : Int) : IntKind.u64.wrap x = x % 18446744073709551616 := by
  unfold IntKind.wrap IntKind.bits IntKind.signed
  simp
theorem u64_step (n : Nat) (b : UInt8) (hn : n < 72057594037927936) : bOr .u64 (IntKind.u64.wrap ((n : Int) * 2 ^ min (Int.toNat 8) IntKind.u64.bits)) (UInt8.toNat b : Int) = ((n * 256 + b.toNat : Nat) : Int) := by
  have e1 : (2 : Int) ^ min (Int.toNat 8) IntKind.u64.bits = 256 := rfl
  have hb := UInt8.toNat_lt b
  have e2 : IntKind.u64.wrap ((n : Int) * 256) = ((n * 256 : Nat) : Int) := by rw [wrap_u64]; omega
  rw [e1, e2]
  unfold bOr
  rw [BitVec.toNat_or, show IntKind.u64.bits = 64 from rfl, bv_nat 64 (n * 256) (by omega), bv_nat 64 b.toNat (by omega)]
  have h3 := Nat.two_pow_add_eq_or_of_lt (i := 8) (b := b.toNat) (by omega) n
  rw [show n * 256 = 2 ^ 8 * n by omega, ← h3, wrap_u64]
  omega
theorem i64_step (h l : UInt8) : bOr .i64 (i64 ((UInt8.toNat h : Int) * 2 ^ min (Int.toNat 8) IntKind.i64.bits)) (UInt8.toNat l : Int) = ((h.toNat * 256 + l.toNat : Nat) : Int) := by
  have e1 : (2 : Int) ^ min (Int.toNat 8) IntKind.i64.bits = 256 := rfl
  have hh := UInt8.toNat_lt h
  have hl := UInt8.toNat_lt l
  have e2 : i64 ((h.toNat : Int) * 256) = ((h.toNat * 256 : Nat) : Int) := by rw [i64_id (by omega)]; omega
  rw [e1, e2, bOr_nat _ _ (by omega) (by omega)]
  have h3 := Nat.two_pow_add_eq_or_of_lt (i := 8) (b := l.toNat) (by omega) h.toNat
  rw [show h.toNat * 256 = 2 ^ 8 * h.toNat by omega, ← h3]
theorem take_snoc {s : List UInt8} {i : Nat} (h : i < s.length) : s.take (i + 1) = s.take i ++ [s[i]] := by rw [List.take_append_getElem h]
theorem vInteger (v : List UInt8) (h : 9 ≤ v.length) : m_value_integer v = some (i64 (beNat ((v.drop 1).take 8))) := by
  have hFU := FU_ge
  unfold m_value_integer
  rw [jn_eq]
  have loop : ∀ (m i n : Nat), i + m = 9 → 1 ≤ i → m < n → m_value_integer_L2 v (fun x3_j1 => some (i64 x3_j1)) n (beNat ((v.drop 1).take (i - 1))) i = some (i64 (beNat ((v.drop 1).take 8))) := by
    intro m
    induction m with
    | zero =>
      intro i n hi h1 hn
      obtain ⟨n, rfl⟩ : ∃ k, n = k + 1 := ⟨n - 1, by omega⟩
      obtain rfl : i = 9 := by omega
      rw [m_value_integer_L2, m_value_integer_B2, if_neg (by omega)]
    | succ m ih =>
      intro i n hi h1 hn
      obtain ⟨n, rfl⟩ : ∃ k, n = k + 1 := ⟨n - 1, by omega⟩
      have hb := beNat_lt ((v.drop 1).take (i - 1))
      have hl : ((v.drop 1).take (i - 1)).length = i - 1 := by simp; omega
      rw [hl] at hb
      have hp : 256 ^ (i - 1) ≤ 256 ^ 7 := Nat.pow_le_pow_right (by omega) (by omega)
      rw [m_value_integer_L2, m_value_integer_B2, if_pos (by omega), need_pos (by omega), u64_step _ _ (by omega), i64_succ (by omega), gi_nat (by omega)]
      have e : beNat ((v.drop 1).take (i - 1)) * 256 + v[i].toNat = beNat ((v.drop 1).take (i + 1 - 1)) := by
        rw [show i + 1 - 1 = (i - 1) + 1 by omega, take_snoc (by simp; omega), beNat_snoc]
        congr 2
        rw [List.getElem_drop]
        congr 1; omega
      rw [e]
      exact ih (i + 1) n (by omega) (by omega) (by omega)
  exact loop 8 1 FU (by omega) (by omega) (by omega)
theorem rNumber (s : List UInt8) (h : 8 ≤ s.length) : m_ref9_number s = some (i64 (beNat (s.take 8))) := by
  have hFU := FU_ge
  unfold m_ref9_number
  rw [jn_eq]
  have loop : ∀ (m i n : Nat), i + m = 8 → m < n → m_ref9_number_L2 s (fun x3_j1 => some (i64 x3_j1)) n (beNat (s.take i)) i = some (i64 (beNat (s.take 8))) := by
    intro m
    induction m with
    | zero =>
      intro i n hi hn
      obtain ⟨n, rfl⟩ : ∃ k, n = k + 1 := ⟨n - 1, by omega⟩
      obtain rfl : i = 8 := by omega
      rw [m_ref9_number_L2, m_ref9_number_B2, if_neg (by omega)]
    | succ m ih =>
      intro i n hi hn
      obtain ⟨n, rfl⟩ : ∃ k, n = k + 1 := ⟨n - 1, by omega⟩
      have hb := beNat_lt (s.take i)
      have hl : (s.take i).length = i := by simp; omega
      rw [hl] at hb
      have hp : 256 ^ i ≤ 256 ^ 7 := Nat.pow_le_pow_right (by omega) (by omega)
      rw [m_ref9_number_L2, m_ref9_number_B2, if_pos (by omega), need_pos (by omega), u64_step _ _ (by omega), i64_succ (by omega), gi_nat (by omega)]
      have e : beNat (s.take i) * 256 + s[i].toNat = beNat (s.take (i + 1)) := by rw [take_snoc (by omega), beNat_snoc]
      rw [e]
      exact ih (i + 1) n (by omega) (by omega)
  exact loop 8 0 FU (by omega) (by omega)
theorem cByte (a b : UInt8) : m_cmp_Compare_byte a b = some (sgnB a b) := by
  unfold m_cmp_Compare_byte m_cmp_isNaN_byte sgnB
  simp only [bnd1_mk]
  by_cases h1 : a < b <;> by_cases h2 : b < a <;> simp [h1, h2]
theorem cI64 (a b : Int) : m_cmp_Compare_int64 a b = some (sgn a b) := by
  unfold m_cmp_Compare_int64 m_cmp_isNaN_int64 sgn
  simp only [bnd1_mk]
  by_cases h1 : a < b <;> by_cases h2 : b < a <;> simp [h1, h2]
theorem strCmp_cases (a b : List UInt8) : (ltS a b ∧ strCmp a b = -1) ∨ (¬ ltS a b ∧ ltS b a ∧ strCmp a b = 1) ∨ (¬ ltS a b ∧ ¬ ltS b a ∧ strCmp a b = 0) := by
  have h1 := TO_str.rng a b trivial trivial
  have h2 := TO_str.anti a b trivial trivial
  have e1 := ltB_iff a b
  have e2 := ltB_iff b a
  unfold ltS
  rw [e1, e2]
  simp only [decide_eq_true_eq]
  omega
theorem cStr (a b : List UInt8) : m_cmp_Compare_api_Value a b = some (strCmp a b) := by
  unfold m_cmp_Compare_api_Value m_cmp_isNaN_api_Value
  simp only [bnd1_mk]
  rcases strCmp_cases a b with ⟨h1, h2⟩ | ⟨h1, h2, h3⟩ | ⟨h1, h2, h3⟩
  · simp [h1, h2]
  · simp [h1, h2, h3]
  · simp [h1, h2, h3]
theorem rSign (a b : Bool) : m_ref9_sign a b = some (if a then -1 else if b then 1 else 0) := by
  unfold m_ref9_sign; cases a <;> cases b <;> rfl
theorem rSignStr (a b : List UInt8) : m_ref9_sign (decide (ltS a b)) (decide (ltS b a)) = some (strCmp a b) := by
  rw [rSign]
  rcases strCmp_cases a b with ⟨h1, h2⟩ | ⟨h1, h2, h3⟩ | ⟨h1, h2, h3⟩
  · simp [h1, h2]
  · simp [h1, h2, h3]
  · simp [h1, h2, h3]
theorem rSignInt (a b : Int) : m_ref9_sign (decide (a < b)) (decide (b < a)) = some (sgn a b) := by
  rw [rSign]; unfold sgn
  by_cases h1 : a < b <;> by_cases h2 : b < a <;> simp [h1, h2]
theorem vSimple (c : UInt8) : m_value_simple (c.toNat : Int) = some (decide (c = 0 ∨ c = 1 ∨ c = 2 ∨ c = 10)) := by
  unfold m_value_simple
  rw [jn_eq]
  have key : ∀ d : UInt8, ((c.toNat : Int) = (d.toNat : Int)) ↔ c = d := fun d => ⟨fun h => u8_inj (by omega), fun h => by rw [h]⟩
  have k0 := key 0
  have k1 := key 1
  have k2 := key 2
  have k10 := key 10
  simp only [show ((0 : UInt8).toNat : Int) = 0 from rfl, show ((1 : UInt8).toNat : Int) = 1 from rfl, show ((2 : UInt8).toNat : Int) = 2 from rfl, show ((10 : UInt8).toNat : Int) = 10 from rfl] at k0 k1 k2 k10
  simp only [k0, k1, k2, k10]
  by_cases h0 : c = 0 <;> by_cases h1 : c = 1 <;> by_cases h2 : c = 2 <;> simp [h0, h1, h2]

/-! ### Spans and parts -/
theorem vSpan : ∀ (k : Nat) (v : List UInt8), Sh k v → ∀ (n : Nat) (r : List UInt8), k ≤ n → v.length + r.length ≤ 1099511627776 → m_value_span_S n (v ++ r) = some (v.length : Int)
  | 0, v, h, _, _, _, _ => absurd h.pos (by omega)
  | k + 1, v, h, n, r, hn, hl => by
    have hFU := FU_ge
    obtain ⟨n, rfl⟩ : ∃ q, n = q + 1 := ⟨n - 1, by omega⟩
    have hlen := h.len
    rw [m_value_span_S, m_value_span_F, need_len (by simp; omega)]
    cases h with
    | int k b hb => simp [gi_0, hb]
    | bool k b hb => simp [gi_0]
    | name k h l => simp [gi_0]
    | comp k c h l ps hc hn' hp =>
      obtain ⟨n1, n2, n3⟩ := kind_ne hc
      simp only [List.cons_append, gi_0, gi_1, gi_2, n1, n2, n3, if_false, jn_eq]
      rw [need_pos (by simp; omega), need_pos (by simp; omega)]
      have hx : UInt8.toNat h < 256 := UInt8.toNat_lt h
      have hy : UInt8.toNat l < 256 := UInt8.toNat_lt l
      have htot : ps.flatten.length + 3 + r.length ≤ 1099511627776 := by simp at hl; simp; omega
      have loop : ∀ (m i q at_ : Nat), i + m = ps.length → m < q → at_ = 3 + (ps.take i).flatten.length → m_value_span_L2 (m_value_span_S n) (c :: h :: l :: (ps.flatten ++ r)) (fun x => some x) q at_ i = some ((3 + ps.flatten.length : Nat) : Int) := by
        intro m
        induction m with
        | zero =>
          intro i q at_ hi hq ha
          obtain ⟨q, rfl⟩ : ∃ k, q = k + 1 := ⟨q - 1, by omega⟩
          rw [m_value_span_L2, m_value_span_B2, gi_1, gi_2, i64_step, ← hn', if_neg (by omega)]
          rw [ha, show i = ps.length by omega, List.take_length]
        | succ m ih =>
          intro i q at_ hi hq ha
          obtain ⟨q, rfl⟩ : ∃ k, q = k + 1 := ⟨q - 1, by omega⟩
          have hip : i < ps.length := by omega
          have hsplit : ps.flatten = (ps.take i).flatten ++ (ps[i] ++ (ps.drop (i + 1)).flatten) := by
            conv => lhs; rw [← List.take_append_drop i ps, List.drop_eq_getElem_cons hip, List.flatten_append, List.flatten_cons]
          have hls : ps.flatten.length = (ps.take i).flatten.length + (ps[i].length + (ps.drop (i + 1)).flatten.length) := by rw [hsplit]; simp
          rw [m_value_span_L2, m_value_span_B2, gi_1, gi_2, i64_step, ← hn', if_pos (by omega), need_pos (by simp only [List.length_cons, List.length_append]; omega), Int.toNat_natCast]
          have hd : List.drop at_ (c :: h :: l :: (ps.flatten ++ r)) = ps[i] ++ ((ps.drop (i + 1)).flatten ++ r) := by
            rw [ha, show 3 + (ps.take i).flatten.length = (ps.take i).flatten.length + 3 by omega]
            simp only [List.drop_succ_cons]
            rw [hsplit, List.append_assoc, List.drop_left, List.append_assoc]
          rw [hd, vSpan k ps[i] (hp _ (List.getElem_mem _)) n _ (by omega) (by rw [List.length_append]; omega), bnd1_mk]
          rw [i64_succ (by omega)]
          have e : i64 ((at_ : Int) + (ps[i].length : Int)) = ((at_ + ps[i].length : Nat) : Int) := by rw [i64_id (by omega)]; omega
          rw [e]
          refine ih (i + 1) q (at_ + ps[i].length) (by omega) (by omega) ?_
          rw [← List.take_append_getElem hip, List.flatten_append, List.length_append, ha]
          simp; omega
      have := loop ps.length 0 FU 3 (by omega) (by omega) (by simp)
      rw [show ((3 : Nat) : Int) = 3 from rfl, show ((0 : Nat) : Int) = 0 from rfl] at this
      rw [this]
      congr 1
      simp; omega
theorem vClip (l : List (List UInt8)) : m_slices_Clip_L_api_Value_api_Value l = some l := by
  unfold m_slices_Clip_L_api_Value_api_Value
  first
    | rfl
    | rw [need_pos (by omega), Int.toNat_natCast, List.take_length]
theorem vParts {k : Nat} {c h l : UInt8} {ps : List (List UInt8)} (hp : ∀ p ∈ ps, Sh k p) (hk : k ≤ 1000) (hl : ps.flatten.length ≤ 1000000000) : m_value_parts (c :: h :: l :: ps.flatten) = some ps := by
  have hFU := FU_ge
  unfold m_value_parts
  simp only [jn_eq, vClip, bnd1_mk]
  have hps : ps.length ≤ ps.flatten.length := by
    have : ∀ qs : List (List UInt8), (∀ p ∈ qs, Sh k p) → qs.length ≤ qs.flatten.length := by
      intro qs
      induction qs with
      | nil => intro _; simp
      | cons q qs ih => intro h; have h1 := (h q (by simp)).len; have h2 := ih (fun p hp => h p (by simp [hp])); simp at h2 ⊢; omega
    exact this ps hp
  have loop : ∀ (m i q at_ : Nat), i + m = ps.length → m < q → at_ = 3 + (ps.take i).flatten.length → m_value_parts_L2 (c :: h :: l :: ps.flatten) (fun x => some x) q (ps.take i) at_ = some ps := by
    intro m
    induction m with
    | zero =>
      intro i q at_ hi hq ha
      obtain ⟨q, rfl⟩ : ∃ k, q = k + 1 := ⟨q - 1, by omega⟩
      rw [show i = ps.length by omega, List.take_length] at ha ⊢
      rw [m_value_parts_L2, m_value_parts_B2, if_neg (by simp only [List.length_cons]; omega)]
    | succ m ih =>
      intro i q at_ hi hq ha
      obtain ⟨q, rfl⟩ : ∃ k, q = k + 1 := ⟨q - 1, by omega⟩
      have hip : i < ps.length := by omega
      have hsplit : ps.flatten = (ps.take i).flatten ++ (ps[i] ++ (ps.drop (i + 1)).flatten) := by
        conv => lhs; rw [← List.take_append_drop i ps, List.drop_eq_getElem_cons hip, List.flatten_append, List.flatten_cons]
      have hls : ps.flatten.length = (ps.take i).flatten.length + (ps[i].length + (ps.drop (i + 1)).flatten.length) := by rw [hsplit]; simp
      have hpos := (hp _ (List.getElem_mem hip)).len
      have hall : (c :: h :: l :: ps.flatten).length = ps.flatten.length + 3 := rfl
      rw [m_value_parts_L2, m_value_parts_B2, hall, if_pos (by omega), need_pos (by omega), Int.toNat_natCast]
      have hd : List.drop at_ (c :: h :: l :: ps.flatten) = ps[i] ++ (ps.drop (i + 1)).flatten := by
        rw [ha, show 3 + (ps.take i).flatten.length = (ps.take i).flatten.length + 3 by omega]
        simp only [List.drop_succ_cons]
        conv => lhs; rw [hsplit]
        rw [List.drop_left]
      have hsp : m_value_span (ps[i] ++ (ps.drop (i + 1)).flatten) = some (ps[i].length : Int) := by
        unfold m_value_span
        exact vSpan k ps[i] (hp _ (List.getElem_mem _)) FU _ (by omega) (by omega)
      have e : i64 ((at_ : Int) + (ps[i].length : Int)) = ((at_ + ps[i].length : Nat) : Int) := by rw [i64_id (by omega)]; omega
      rw [hd, hsp, bnd1_mk, e, need_pos (by omega), Int.toNat_natCast, show at_ + ps[i].length - at_ = ps[i].length by omega, List.take_left]
      rw [need_pos (by simp; omega)]
      rw [List.take_append_getElem hip]
      refine ih (i + 1) q (at_ + ps[i].length) (by omega) (by omega) ?_
      rw [← List.take_append_getElem hip, List.flatten_append, List.length_append, ha]
      simp; omega
  have := loop ps.length 0 FU 3 (by omega) (by omega) (by simp)
  rw [show ((3 : Nat) : Int) = 3 from rfl, List.take_zero] at this
  exact this
theorem compareFunc_eq (f : List UInt8 → List UInt8 → Option Int) (c : List UInt8 → List UInt8 → Int) (a b : List (List UInt8)) (ha : a.length ≤ 1099511627776) (hb : b.length ≤ 1099511627776) (hf : ∀ x ∈ a, ∀ y ∈ b, f x y = some (c x y)) :
    m_slices_CompareFunc_L_api_Value_L_api_Value_api_Value_api_Value a b f = some (lexCmp c a b) := by
  have hFU := FU_ge
  unfold m_slices_CompareFunc_L_api_Value_L_api_Value_api_Value_api_Value
  rw [jn_eq]
  have loop : ∀ (m i n : Nat), i + m = a.length → m < n → i ≤ b.length → m_slices_CompareFunc_L_api_Value_L_api_Value_api_Value_api_Value_L2 a b f (fun _ => if (List.length a : Int) < (List.length b : Int) then (some (-1)) else (some 0)) n i = some (lexCmp c (a.drop i) (b.drop i)) := by
    intro m
    induction m with
    | zero =>
      intro i n hi hn hib
      obtain ⟨n, rfl⟩ : ∃ k, n = k + 1 := ⟨n - 1, by omega⟩
      rw [m_slices_CompareFunc_L_api_Value_L_api_Value_api_Value_api_Value_L2, m_slices_CompareFunc_L_api_Value_L_api_Value_api_Value_api_Value_B2, if_neg (by omega), List.drop_eq_nil_of_le (by omega)]
      by_cases h : (List.length a : Int) < (List.length b : Int)
      · rw [if_pos h, List.drop_eq_getElem_cons (show i < b.length by omega)]; rfl
      · rw [if_neg h, List.drop_eq_nil_of_le (show b.length ≤ i by omega)]; rfl
    | succ m ih =>
      intro i n hi hn hib
      obtain ⟨n, rfl⟩ : ∃ k, n = k + 1 := ⟨n - 1, by omega⟩
      rw [m_slices_CompareFunc_L_api_Value_L_api_Value_api_Value_api_Value_L2, m_slices_CompareFunc_L_api_Value_L_api_Value_api_Value_api_Value_B2, if_pos (by omega), need_pos (by omega), List.drop_eq_getElem_cons (show i < a.length by omega)]
      by_cases h : (List.length b : Int) ≤ i
      · rw [if_pos h, List.drop_eq_nil_of_le (show b.length ≤ i by omega)]; rfl
      · have hib' : i < b.length := by omega
        rw [if_neg h, need_pos (by omega), gi_nat (by omega), gi_nat hib', hf _ (List.getElem_mem _) _ (List.getElem_mem _), bnd1_mk, List.drop_eq_getElem_cons hib', lexCmp, i64_succ (by omega)]
        by_cases h0 : c a[i] b[i] = 0
        · simp only [h0, not_true_eq_false, ne_eq, if_false]
          exact ih (i + 1) n (by omega) (by omega) (by omega)
        · rw [if_pos h0, if_pos h0]
  have := loop a.length 0 FU (by omega) (by omega) (by omega)
  rwa [List.drop_zero, List.drop_zero] at this
theorem vCompareS : ∀ (k : Nat) (a b : List UInt8), Sh k a → Sh k b → k ≤ 1000 → a.length ≤ 1000000000 → b.length ≤ 1000000000 → ∀ n, k ≤ n → m_value_compare_S n a b = some (cmpV k a b)
  | 0, a, b, ha, _, _, _, _, _, _ => absurd ha.pos (by omega)
  | k + 1, a, b, ha, hb, hk, la, lb, n, hn => by
    obtain ⟨n, rfl⟩ : ∃ q, n = q + 1 := ⟨n - 1, by omega⟩
    have h1 := ha.len
    have h2 := hb.len
    rw [m_value_compare_S, m_value_compare_F, cmpV]
    by_cases e : a = b
    · simp [e]
    · rw [if_neg e, if_neg e, need_len (by omega), need_len (by omega), cByte, bnd1_mk]
      by_cases e1 : gi a 0 = gi b 0
      · have e1' : sgnB (gi a 0) (gi b 0) = 0 := (TO_sgnB.eq _ _ trivial trivial).2 e1
        rw [if_neg (show ¬ ¬ sgnB (gi a 0) (gi b 0) = 0 from fun h => h e1'), if_neg (show ¬ (gi a 0 ≠ gi b 0) from fun h => h e1), need_len (by omega)]
        by_cases e2 : gi a 0 = 1
        · simp only [if_pos e2]
          obtain ⟨l1, d1⟩ := ha.kind1 e2
          obtain ⟨l2, d2⟩ := hb.kind1 (by rw [← e1]; exact e2)
          rw [vInteger a (by omega), vInteger b (by omega), bnd1_mk, bnd1_mk, cI64, bnd1_mk, List.take_of_length_le (by simp [l1]), List.take_of_length_le (by simp [l2])]
          rfl
        · simp only [if_neg e2]
          rw [need_len (by omega), vSimple, bnd1_mk]
          have e0 : gi a 0 ≠ 0 := by
            cases ha with
            | int k b hb => simp [gi_0] at e2
            | bool k b hb => simp [gi_0]
            | name k h l => simp [gi_0]
            | comp k c h l ps hc hn hp => rw [gi_0]; rintro rfl; simp at hc
          by_cases e3 : gi a 0 = 2 ∨ gi a 0 = 10
          · rw [if_pos (decide_eq_true (show gi a 0 = 0 ∨ gi a 0 = 1 ∨ gi a 0 = 2 ∨ gi a 0 = 10 from .inr (.inr e3))), if_pos e3, cStr, bnd1_mk]
          · rw [if_neg (show ¬ (decide (gi a 0 = 0 ∨ gi a 0 = 1 ∨ gi a 0 = 2 ∨ gi a 0 = 10) = true) from fun h => (of_decide_eq_true h).elim e0 (fun h => h.elim e2 e3)), if_neg e3]
            obtain ⟨c, x, y, ps, rfl, hn1, hs, hp, _⟩ := ha.kindc e2 e3
            obtain ⟨c', x', y', ps', rfl, hn2, hs', hp', _⟩ := hb.kindc (by rw [← e1]; exact e2) (by rw [← e1]; exact e3)
            have f1 : ps.flatten.length ≤ 1000000000 := by simp at la ⊢; omega
            have f2 : ps'.flatten.length ≤ 1000000000 := by simp at lb ⊢; omega
            have hmem : ∀ {qs : List (List UInt8)} {q : List UInt8}, q ∈ qs → q.length ≤ qs.flatten.length := by
              intro qs q hq
              induction qs with
              | nil => cases hq
              | cons a qs ih =>
                rcases List.mem_cons.1 hq with rfl | hq
                · simp
                · have := ih hq; simp at this ⊢; omega
            have hx : UInt8.toNat x < 256 := UInt8.toNat_lt x
            have hy : UInt8.toNat y < 256 := UInt8.toNat_lt y
            have hx' : UInt8.toNat x' < 256 := UInt8.toNat_lt x'
            have hy' : UInt8.toNat y' < 256 := UInt8.toNat_lt y'
            rw [vParts hs (by omega) f1, bnd1_mk, vParts hs' (by omega) f2, bnd1_mk,
              compareFunc_eq (m_value_compare_S n) (cmpV k) ps ps' (by omega) (by omega) (fun p hp q hq => vCompareS k p q (hs p hp) (hs' q hq) (by omega) (Nat.le_trans (hmem hp) f1) (Nat.le_trans (hmem hq) f2) n (by omega)), bnd1_mk, hp, hp']
      · have e1' : sgnB (gi a 0) (gi b 0) ≠ 0 := fun h => e1 ((TO_sgnB.eq _ _ trivial trivial).1 h)
        rw [if_pos (show ¬ sgnB (gi a 0) (gi b 0) = 0 from e1'), if_pos (show gi a 0 ≠ gi b 0 from e1)]
theorem vCompare {k : Nat} {a b : List UInt8} (ha : Sh k a) (hb : Sh k b) (hk : k ≤ 1000) (la : a.length ≤ 1000000000) (lb : b.length ≤ 1000000000) : m_value_compare a b = some (cmpV k a b) :=
  vCompareS k a b ha hb hk la lb FU (by have := FU_ge; omega)
end Go.Proofs.YtdppkpiagdaigaaGreatDoor
/- Valid values: what the program calls valid. -/
namespace Go.Proofs.YtdppkpiagdaigaaGreatDoor
attribute [local irreducible] FU

/-- The order of values. -/
def cmpW (a b : List UInt8) : Int := cmpV 32 a b
theorem cmpW_eq {k : Nat} {a b : List UInt8} (ha : Sh k a) (hb : Sh k b) (hk : k ≤ 32) : cmpV k a b = cmpW a b := (cmpV_le ha hb hk).symm
def ascB : List (List UInt8) → Bool
  | [] => true
  | [_] => true
  | x :: y :: t => decide (cmpW x y < 0) && ascB (y :: t)
def evens {α : Type} : List α → List α
  | [] => []
  | [x] => [x]
  | x :: _ :: t => x :: evens t
def betB (v : List UInt8) (lo hi : Int) : Bool := gi v 0 == 1 && (decide (lo ≤ numV v) && decide (numV v ≤ hi))
/-- Whether these parts may be those of a value of kind c. -/
def formedB (c : UInt8) (ps : List (List UInt8)) : Bool :=
  if c = 3 then decide (2 ≤ ps.length) && decide (ps.length ≤ 8)
  else if c = 5 then ascB ps
  else if c = 6 then decide (ps.length % 2 = 0) && ascB (evens ps)
  else if c = 7 then decide (1 ≤ ps.length) && (decide (ps.length ≤ 9) && gi (gi ps 0) 0 == 10)
  else if c = 8 then decide (1 ≤ ps.length) && (decide (ps.length ≤ 33) && betB (gi ps 0) 0 65535)
  else if c = 9 then decide (1 ≤ ps.length) && betB (gi ps 0) 1 21
  else true
/-- v is the encoding of one valid value that is nested at most k deep. -/
inductive IsV : Nat → List UInt8 → Prop
  | int (k : Nat) (b : List UInt8) (h : b.length = 8) : IsV (k + 1) (1 :: b)
  | bool (k : Nat) (b : UInt8) (h : b.toNat ≤ 1) : IsV (k + 1) [2, b]
  | name (k : Nat) (h l : UInt8) : IsV (k + 1) [10, h, l]
  | comp (k : Nat) (c h l : UInt8) (ps : List (List UInt8)) (hc : 3 ≤ c.toNat ∧ c.toNat ≤ 9) (hn : ps.length = h.toNat * 256 + l.toNat) (hp : ∀ p ∈ ps, IsV k p) (hf : formedB c ps = true) : IsV (k + 1) (c :: h :: l :: ps.flatten)
theorem IsV.sh {k : Nat} {v : List UInt8} (h : IsV k v) : Sh k v := by
  induction h with
  | int k b h => exact .int _ b h
  | bool k b h => exact .bool _ b h
  | name k h l => exact .name _ h l
  | comp k c h l ps hc hn hp hf ih => exact .comp _ c h l ps hc hn ih
theorem IsV.mono {k : Nat} {v : List UInt8} (h : IsV k v) : IsV (k + 1) v := by
  induction h with
  | int k b h => exact .int _ b h
  | bool k b h => exact .bool _ b h
  | name k h l => exact .name _ h l
  | comp k c h l ps hc hn hp hf ih => exact .comp _ c h l ps hc hn ih hf
theorem IsV.le {k j : Nat} {v : List UInt8} (h : IsV k v) (hj : k ≤ j) : IsV j v := by
  obtain ⟨d, rfl⟩ := Nat.exists_eq_add_of_le hj
  induction d with
  | zero => exact h
  | succ d ih => exact (ih (by omega)).mono
theorem evens_get {α : Type} : ∀ (l : List α) (i : Nat), (evens l)[i]? = l[2 * i]?
  | [], i => by simp [evens]
  | [x], 0 => rfl
  | [x], i + 1 => by simp [evens]
  | x :: y :: t, 0 => rfl
  | x :: y :: t, i + 1 => by simp only [evens, List.getElem?_cons_succ]; rw [evens_get t i, show 2 * (i + 1) = 2 * i + 1 + 1 by omega]; simp
theorem evens_len {α : Type} : ∀ l : List α, (evens l).length = (l.length + 1) / 2
  | [] => by simp [evens]
  | [x] => by simp [evens]
  | x :: y :: t => by simp only [evens, List.length_cons]; rw [evens_len t]; omega
theorem evens_mem {α : Type} {x : α} : ∀ {l : List α}, x ∈ evens l → x ∈ l
  | [y], h => h
  | y :: z :: t, h => by
    simp only [evens, List.mem_cons] at h
    rcases h with rfl | h
    · simp
    · simp [evens_mem h]

theorem vAsc (ps : List (List UInt8)) (hl : ps.length ≤ 1000000) (hc : ∀ p ∈ ps, ∀ q ∈ ps, m_value_compare p q = some (cmpW p q)) : m_value_ascending ps = some (ascB ps) := by
  have hFU := FU_ge
  unfold m_value_ascending
  rw [jn_eq]
  have loop : ∀ (m i n : Nat), i + m = ps.length → 1 ≤ i → m < n → m_value_ascending_L2 ps (fun _ => some true) n i = some (ascB (ps.drop (i - 1))) := by
    intro m
    induction m with
    | zero =>
      intro i n hi h1 hn
      obtain ⟨n, rfl⟩ : ∃ k, n = k + 1 := ⟨n - 1, by omega⟩
      rw [m_value_ascending_L2, m_value_ascending_B2, if_neg (by omega), List.drop_eq_getElem_cons (show i - 1 < ps.length by omega), List.drop_eq_nil_of_le (by omega)]
      rfl
    | succ m ih =>
      intro i n hi h1 hn
      obtain ⟨n, rfl⟩ : ∃ k, n = k + 1 := ⟨n - 1, by omega⟩
      have hip : i < ps.length := by omega
      have e : ps.drop (i - 1) = ps[i - 1] :: ps[i] :: ps.drop (i + 1) := by
        rw [List.drop_eq_getElem_cons (show i - 1 < ps.length by omega), show i - 1 + 1 = i by omega, List.drop_eq_getElem_cons hip]
      have e2 : ps.drop (i + 1 - 1) = ps[i] :: ps.drop (i + 1) := by rw [show i + 1 - 1 = i by omega, List.drop_eq_getElem_cons hip]
      have e3 : gi ps ((i : Int) - 1) = ps[i - 1] := by rw [show (i : Int) - 1 = ((i - 1 : Nat) : Int) by omega, gi_nat (by omega)]
      rw [m_value_ascending_L2, m_value_ascending_B2, if_pos (by omega), i64_sub1 (by omega), need_pos (by omega), need_pos (by omega), e3, gi_nat hip, hc _ (List.getElem_mem _) _ (List.getElem_mem _), bnd1_mk, i64_succ (by omega), e, ascB]
      by_cases h : cmpW ps[i - 1] ps[i] < 0
      · rw [if_neg (by omega), ih (i + 1) n (by omega) (by omega) (by omega), e2]; simp [h]
      · rw [if_pos (by omega)]; simp [h]
  match hps : ps with
  | [] =>
    obtain ⟨n, hn⟩ := FU_k 1 (by omega)
    rw [hn, m_value_ascending_L2, m_value_ascending_B2, if_neg (by simp)]; rfl
  | p :: t =>
    have := loop t.length 1 FU (by simp; omega) (by omega) (by simp at hl; omega)
    rw [show ((1 : Nat) : Int) = 1 from rfl] at this
    rw [this]; rfl
theorem vBetween {k : Nat} {v : List UInt8} (h : Sh k v) (lo hi : Int) : m_value_between v lo hi = some (betB v lo hi) := by
  have hl := h.len
  unfold m_value_between betB
  rw [jn_eq, need_len (by omega)]
  by_cases h1 : gi v 0 = 1
  · obtain ⟨l1, _⟩ := h.kind1 h1
    rw [if_pos h1, vInteger v (by omega), bnd1_mk, bnd1_mk, List.take_of_length_le (by simp [l1])]
    have : i64 (beNat (v.drop 1) : Int) = numV v := rfl
    rw [this]
    by_cases h2 : lo ≤ numV v <;> simp [h1, h2]
  · rw [if_neg h1]; simp [h1]
theorem toNat_eq_iff (c d : UInt8) : ((c.toNat : Int) = (d.toNat : Int)) ↔ c = d := ⟨fun h => u8_inj (by omega), fun h => by rw [h]⟩
theorem toNat3 (c : UInt8) : ((c.toNat : Int) = 3) ↔ c = 3 := toNat_eq_iff c 3
theorem toNat5 (c : UInt8) : ((c.toNat : Int) = 5) ↔ c = 5 := toNat_eq_iff c 5
theorem toNat6 (c : UInt8) : ((c.toNat : Int) = 6) ↔ c = 6 := toNat_eq_iff c 6
theorem toNat7 (c : UInt8) : ((c.toNat : Int) = 7) ↔ c = 7 := toNat_eq_iff c 7
theorem toNat8 (c : UInt8) : ((c.toNat : Int) = 8) ↔ c = 8 := toNat_eq_iff c 8
theorem toNat9 (c : UInt8) : ((c.toNat : Int) = 9) ↔ c = 9 := toNat_eq_iff c 9
theorem toNat1 (c : UInt8) : ((c.toNat : Int) = 1) ↔ c = 1 := toNat_eq_iff c 1
theorem toNat2 (c : UInt8) : ((c.toNat : Int) = 2) ↔ c = 2 := toNat_eq_iff c 2
theorem toNat10 (c : UInt8) : ((c.toNat : Int) = 10) ↔ c = 10 := toNat_eq_iff c 10
theorem tmod2 (n : Nat) : (Int.tmod (n : Int) 2 = 0) ↔ n % 2 = 0 := by
  have : Int.tmod (n : Int) 2 = ((n % 2 : Nat) : Int) := rfl
  rw [this]; omega
theorem vFormed {k : Nat} (c : UInt8) (ps : List (List UInt8)) (hp : ∀ p ∈ ps, Sh k p) (hk : k ≤ 32) (hl : ps.length ≤ 100000) (hs : ps.flatten.length ≤ 1000000000) : m_value_formed (c.toNat : Int) ps = some (formedB c ps) := by
  have hFU := FU_ge
  have hmem : ∀ {qs : List (List UInt8)} {q : List UInt8}, q ∈ qs → q.length ≤ qs.flatten.length := by
    intro qs q hq
    induction qs with
    | nil => cases hq
    | cons a qs ih =>
      rcases List.mem_cons.1 hq with rfl | hq
      · simp
      · have := ih hq; simp at this ⊢; omega
  have hc : ∀ p ∈ ps, ∀ q ∈ ps, m_value_compare p q = some (cmpW p q) := fun p h q h' => by
    rw [vCompare (hp p h) (hp q h') (by omega) (Nat.le_trans (hmem h) hs) (Nat.le_trans (hmem h') hs), cmpW_eq (hp p h) (hp q h') hk]
  have h0 : 1 ≤ ps.length → gi ps 0 ∈ ps := fun h => by
    rw [show (0 : Int) = ((0 : Nat) : Int) from rfl, gi_nat (by omega)]; exact List.getElem_mem _
  unfold m_value_formed formedB
  simp only [jn_eq, toNat3, toNat5, toNat6, toNat7, toNat8, toNat9]
  by_cases h3 : c = 3
  · simp only [h3, if_true]
    by_cases h : (2 : Int) ≤ (ps.length : Int)
    · rw [if_pos h]
      by_cases h8 : (ps.length : Int) ≤ 8
      · simp [show 2 ≤ ps.length by omega, show ps.length ≤ 8 by omega, h8]
      · simp [show ¬ ps.length ≤ 8 by omega, h8]
    · rw [if_neg h]; simp; omega
  · simp only [h3, if_false]
    by_cases h5 : c = 5
    · simp only [h5, if_true, vAsc ps (by omega) hc, bnd1_mk]
    · simp only [h5, if_false]
      by_cases h6 : c = 6
      · simp only [h6, if_true]
        have loop : ∀ (m i n : Nat), i + m = ps.length → m < n → i % 2 = 0 → m_value_formed_L4 ps (fun x6_j45 => if (Int.tmod (List.length ps : Int) 2) = 0 then (bnd1 (m_value_ascending x6_j45) (fun y67 => some y67)) else some false) n (evens (ps.take i)) i = some (decide (ps.length % 2 = 0) && ascB (evens ps)) := by
          intro m
          induction m using Nat.strongRecOn with
          | _ m ih =>
            intro i n hi hn h2
            obtain ⟨n, rfl⟩ : ∃ k, n = k + 1 := ⟨n - 1, by omega⟩
            rw [m_value_formed_L4, m_value_formed_B4]
            by_cases hm : m = 0
            · rw [if_neg (by omega), show i = ps.length by omega, List.take_length]
              simp only [tmod2]
              by_cases he : ps.length % 2 = 0
              · rw [if_pos he, vAsc (evens ps) (by rw [evens_len]; omega) (fun p h q h' => hc p (evens_mem h) q (evens_mem h')), bnd1_mk]; simp [he]
              · rw [if_neg he]; simp [he]
            · have hip : i < ps.length := by omega
              rw [if_pos (by omega), need_pos (by omega), need_pos (by rw [evens_len]; simp; omega), gi_nat hip]
              have e : i64 ((i : Int) + 2) = ((i + 2 : Nat) : Int) := by rw [i64_id (by omega)]; omega
              rw [e]
              have ee : evens (ps.take i) ++ [ps[i]] = evens (ps.take (i + 2)) := by
                apply List.ext_getElem?
                intro j
                rw [evens_get, List.getElem?_append, evens_len]
                simp only [List.length_take]
                by_cases hj : j < (min i ps.length + 1) / 2
                · rw [if_pos hj, evens_get, List.getElem?_take_of_lt (by omega), List.getElem?_take_of_lt (by omega)]
                · rw [if_neg hj]
                  by_cases hj2 : 2 * j = i
                  · rw [show j - (min i ps.length + 1) / 2 = 0 by omega, List.getElem?_take_of_lt (by omega), hj2, List.getElem?_eq_getElem hip]; rfl
                  · rw [List.getElem?_eq_none (by simp; omega), List.getElem?_eq_none (by simp; omega)]
              rw [ee]
              by_cases hm1 : m = 1
              · -- the last one
                obtain ⟨n, rfl⟩ : ∃ k, n = k + 1 := ⟨n - 1, by omega⟩
                rw [m_value_formed_L4, m_value_formed_B4, if_neg (by omega), List.take_of_length_le (by omega)]
                simp only [tmod2]
                rw [if_neg (by omega)]
                simp; omega
              · exact ih (m - 2) (by omega) (i + 2) n (by omega) (by omega) (by omega)
        have := loop ps.length 0 FU (by omega) (by omega) (by omega)
        rw [show ((0 : Nat) : Int) = 0 from rfl, List.take_zero] at this
        exact this
      · simp only [h6, if_false]
        by_cases h7 : c = 7
        · simp only [h7, if_true]
          by_cases h1 : (1 : Int) ≤ (ps.length : Int)
          · rw [if_pos h1]
            by_cases h9 : (ps.length : Int) ≤ 9
            · have hm := (hp _ (h0 (by omega))).len
              rw [if_pos h9, need_pos (by omega), need_pos (by omega)]
              simp only [show 1 ≤ ps.length by omega, show ps.length ≤ 9 by omega, decide_true, Bool.true_and]
              rfl
            · rw [if_neg h9]; simp; omega
          · rw [if_neg h1]; simp; omega
        · simp only [h7, if_false]
          by_cases h8 : c = 8
          · simp only [h8, if_true]
            by_cases h1 : (1 : Int) ≤ (ps.length : Int)
            · rw [if_pos h1]
              by_cases h9 : (ps.length : Int) ≤ 33
              · rw [if_pos h9, need_pos (by omega), vBetween (hp _ (h0 (by omega))), bnd1_mk]
                simp [show 1 ≤ ps.length by omega, show ps.length ≤ 33 by omega]
              · rw [if_neg h9]; simp; omega
            · rw [if_neg h1]; simp; omega
          · simp only [h8, if_false]
            by_cases h9 : c = 9
            · simp only [h9, if_true]
              by_cases h1 : (1 : Int) ≤ (ps.length : Int)
              · rw [if_pos h1, need_pos (by omega), vBetween (hp _ (h0 (by omega))), bnd1_mk]
                simp [show 1 ≤ ps.length by omega]
              · rw [if_neg h1]; simp; omega
            · simp only [h9, if_false]
end Go.Proofs.YtdppkpiagdaigaaGreatDoor
/- What the program finds at the start of bytes: a valid value, or none. -/
namespace Go.Proofs.YtdppkpiagdaigaaGreatDoor
attribute [local irreducible] FU

theorem flat_mem_len {qs : List (List UInt8)} {q : List UInt8} (hq : q ∈ qs) : q.length ≤ qs.flatten.length := by
  induction qs with
  | nil => cases hq
  | cons a qs ih =>
    rcases List.mem_cons.1 hq with rfl | hq
    · simp
    · have := ih hq; simp at this ⊢; omega
/-- At the start of s there is a value, of this length; or none. -/
def At (k : Nat) (s : List UInt8) (o : Option Int) : Prop := (∃ v r, s = v ++ r ∧ IsV k v ∧ o = some (v.length : Int)) ∨ ((∀ v r, s = v ++ r → ¬ IsV k v) ∧ o = some 0)
/-- So many values, one after another. -/
def Row (k m : Nat) (u : List UInt8) (qs : List (List UInt8)) (r : List UInt8) : Prop := qs.length = m ∧ (∀ q ∈ qs, IsV k q) ∧ u = qs.flatten ++ r
theorem Row.step {k m : Nat} {u v w : List UInt8} (hv : IsV k v) (hu : u = v ++ w) (qs : List (List UInt8)) (r : List UInt8) (h : Row k (m + 1) u qs r) : ∃ qs', qs = v :: qs' ∧ Row k m w qs' r := by
  obtain ⟨h1, h2, h3⟩ := h
  match qs, h1 with
  | q :: qs', h1 =>
    rw [hu, List.flatten_cons, List.append_assoc] at h3
    obtain ⟨e1, e2⟩ := hv.sh.uniq (h2 q (by simp)).sh _ _ h3
    exact ⟨qs', by rw [e1], by simpa using h1, fun x hx => h2 x (by simp [hx]), e2⟩
theorem noV_small {k : Nat} {s : List UInt8} (h : s.length < 2) : ∀ v r, s = v ++ r → ¬ IsV k v := fun v r e hv => by
  have := hv.sh.len
  rw [e, List.length_append] at h; omega
theorem vLength : ∀ (k : Nat), k ≤ 32 → ∀ (n : Nat), k < n → ∀ (s : List UInt8), s.length ≤ 1000000000 → At k s (m_value_length_S n s ((33 : Int) - k))
  | 0, _, n, hn, s, hs => by
    obtain ⟨n, rfl⟩ : ∃ q, n = q + 1 := ⟨n - 1, by omega⟩
    refine .inr ⟨fun v r _ hv => by have := hv.sh.pos; omega, ?_⟩
    rw [m_value_length_S, m_value_length_F, jn_eq]
    by_cases h : s = []
    · rw [if_pos h]; rfl
    · rw [if_neg h]; rfl
  | k + 1, hk, n, hn, s, hs => by
    have hFU := FU_ge
    obtain ⟨n, rfl⟩ : ∃ q, n = q + 1 := ⟨n - 1, by omega⟩
    rw [m_value_length_S, m_value_length_F]
    simp only [jn_eq]
    by_cases h0 : s = []
    · exact .inr ⟨noV_small (by rw [h0]; simp), by rw [if_pos h0]; rfl⟩
    obtain ⟨c, t, rfl⟩ : ∃ c t, s = c :: t := by cases s with | nil => exact absurd rfl h0 | cons c t => exact ⟨c, t, rfl⟩
    have hd : decide ((32 : Int) < 33 - ((k + 1 : Nat) : Int)) = false := by simp; omega
    rw [if_neg h0, hd, need_len (by simp)]
    simp only [Bool.false_eq_true, if_false, gi_0]
    -- a value that begins with this byte
    have kinds : ∀ v r, c :: t = v ++ r → IsV (k + 1) v → (c = 1 ∧ 8 ≤ t.length ∧ v.length = 9) ∨ (c = 2 ∧ 1 ≤ t.length ∧ (gi (c :: t) 1).toNat ≤ 1 ∧ v.length = 2) ∨ (c = 10 ∧ 2 ≤ t.length ∧ v.length = 3) ∨
        (∃ h l u ps, (3 ≤ c.toNat ∧ c.toNat ≤ 9) ∧ t = h :: l :: u ∧ Row k (h.toNat * 256 + l.toNat) u ps r ∧ formedB c ps = true ∧ v = c :: h :: l :: ps.flatten) := by
      intro v r e hv
      cases hv with
      | int k b hb =>
        simp only [List.cons_append, List.cons.injEq] at e
        refine .inl ⟨e.1, ?_, by simp [hb]⟩
        rw [e.2]; simp; omega
      | bool k b hb =>
        simp only [List.cons_append, List.nil_append, List.cons.injEq] at e
        refine .inr (.inl ⟨e.1, ?_, ?_, rfl⟩)
        · rw [e.2]; simp
        · rw [e.2, gi_1]; exact hb
      | name k h l =>
        simp only [List.cons_append, List.nil_append, List.cons.injEq] at e
        refine .inr (.inr (.inl ⟨e.1, ?_, rfl⟩))
        rw [e.2]; simp
      | comp k c' h l ps hc hn hp hf =>
        simp only [List.cons_append, List.cons.injEq] at e
        obtain ⟨rfl, e⟩ := e
        exact .inr (.inr (.inr ⟨h, l, ps.flatten ++ r, ps, hc, e, ⟨hn, hp, rfl⟩, hf, rfl⟩))
    by_cases h1 : c = 1
    · subst h1
      simp only [if_true]
      by_cases hl : (((1 : UInt8) :: t).length : Int) < 9
      · rw [if_pos hl]
        refine .inr ⟨fun v r e hv => ?_, rfl⟩
        rcases kinds v r e hv with ⟨_, h, _⟩ | ⟨h, _⟩ | ⟨h, _⟩ | ⟨_, _, _, _, h, _⟩
        · simp at hl; omega
        · simp at h
        · simp at h
        · simp at h
      · rw [if_neg hl]
        refine .inl ⟨1 :: t.take 8, t.drop 8, by simp, .int k _ (by simp at hl ⊢; omega), ?_⟩
        simp at hl
        simp; omega
    · simp only [h1, if_false]
      by_cases h2 : c = 2
      · subst h2
        simp only [if_true]
        have hn2 : ∀ v r, (2 : UInt8) :: t = v ++ r → IsV (k + 1) v → 1 ≤ t.length ∧ (gi ((2 : UInt8) :: t) 1).toNat ≤ 1 := by
          intro v r e hv
          rcases kinds v r e hv with ⟨h, _⟩ | ⟨_, h, h', _⟩ | ⟨h, _⟩ | ⟨_, _, _, _, h, _⟩
          · simp at h
          · exact ⟨h, h'⟩
          · simp at h
          · simp at h
        by_cases hl : (((2 : UInt8) :: t).length : Int) < 2
        · rw [if_pos hl]
          exact .inr ⟨noV_small (by omega), rfl⟩
        · rw [if_neg hl, need_pos (by omega)]
          by_cases hb : 1 < gi ((2 : UInt8) :: t) 1
          · refine .inr ⟨fun v r e hv => ?_, by simp [hb]⟩
            have := (hn2 v r e hv).2
            rw [UInt8.lt_iff_toNat_lt] at hb
            simp at hb; omega
          · obtain ⟨b, u, rfl⟩ : ∃ b u, t = b :: u := by cases t with | nil => simp at hl | cons b u => exact ⟨b, u, rfl⟩
            rw [gi_1] at hb
            refine .inl ⟨[2, b], u, rfl, .bool k b ?_, ?_⟩
            · rw [UInt8.lt_iff_toNat_lt] at hb; simp at hb; omega
            · simp [hb, gi_1]; omega
      · simp only [h2, if_false]
        by_cases h10 : c = 10
        · subst h10
          simp only [if_true]
          by_cases hl : (((10 : UInt8) :: t).length : Int) < 3
          · rw [if_pos hl]
            refine .inr ⟨fun v r e hv => ?_, rfl⟩
            rcases kinds v r e hv with ⟨h, _⟩ | ⟨h, _⟩ | ⟨_, h, _⟩ | ⟨_, _, _, _, h, _⟩
            · simp at h
            · simp at h
            · simp at hl; omega
            · simp at h
          · rw [if_neg hl]
            obtain ⟨x, y, u, rfl⟩ : ∃ x y u, t = x :: y :: u := by
              cases t with
              | nil => simp at hl
              | cons x t => cases t with
                | nil => simp at hl
                | cons y u => exact ⟨x, y, u, rfl⟩
            exact .inl ⟨[10, x, y], u, rfl, .name k x y, rfl⟩
        · simp only [h10, if_false]
          by_cases hc : 3 ≤ c.toNat ∧ c.toNat ≤ 9
          · -- a compound value
            have this : c = 3 ∨ c = 4 ∨ c = 5 ∨ c = 6 ∨ c = 7 ∨ c = 8 ∨ c = 9 := by
              have h : ∀ d : UInt8, c.toNat = d.toNat → c = d := fun d h => u8_inj h
              have e : c.toNat = 3 ∨ c.toNat = 4 ∨ c.toNat = 5 ∨ c.toNat = 6 ∨ c.toNat = 7 ∨ c.toNat = 8 ∨ c.toNat = 9 := by omega
              rcases e with e | e | e | e | e | e | e
              · exact .inl (h 3 e)
              · exact .inr (.inl (h 4 e))
              · exact .inr (.inr (.inl (h 5 e)))
              · exact .inr (.inr (.inr (.inl (h 6 e))))
              · exact .inr (.inr (.inr (.inr (.inl (h 7 e)))))
              · exact .inr (.inr (.inr (.inr (.inr (.inl (h 8 e))))))
              · exact .inr (.inr (.inr (.inr (.inr (.inr (h 9 e))))))
            suffices hmain : At (k + 1) (c :: t) (bnd1 (m_value_long (m_value_length_S n) (c :: t) (33 - ((k + 1 : Nat) : Int))) (fun y24 => some y24)) by
              rcases this with rfl | rfl | rfl | rfl | rfl | rfl | rfl <;> exact hmain
            clear this
            unfold m_value_long
            have kc : ∀ v r, c :: t = v ++ r → IsV (k + 1) v → ∃ h l u ps, t = h :: l :: u ∧ Row k (h.toNat * 256 + l.toNat) u ps r ∧ formedB c ps = true ∧ v = c :: h :: l :: ps.flatten := by
              intro v r e hv
              rcases kinds v r e hv with ⟨h, _⟩ | ⟨h, _⟩ | ⟨h, _⟩ | ⟨h, l, u, ps, _, h'⟩
              · exact absurd h h1
              · exact absurd h h2
              · exact absurd h h10
              · exact ⟨h, l, u, ps, h'⟩
            by_cases hl : ((c :: t).length : Int) < 3
            · rw [if_pos hl, bnd1_mk]
              refine .inr ⟨fun v r e hv => ?_, rfl⟩
              obtain ⟨h, l, u, ps, rfl, _⟩ := kc v r e hv
              simp at hl; omega
            · rw [if_neg hl]
              obtain ⟨h, l, u, rfl⟩ : ∃ x y u, t = x :: y :: u := by
                cases t with
                | nil => simp at hl
                | cons x t => cases t with
                  | nil => simp at hl
                  | cons y u => exact ⟨x, y, u, rfl⟩
              have hlen : (c :: h :: l :: u).length = u.length + 3 := rfl
              simp only [jn_eq, gi_0, hlen]
              rw [need_pos (by omega), need_pos (by omega)]
              have hx : UInt8.toNat h < 256 := UInt8.toNat_lt h
              have hy : UInt8.toNat l < 256 := UInt8.toNat_lt l
              have e33 : i64 ((33 : Int) - ((k + 1 : Nat) : Int) + 1) = 33 - (k : Int) := by rw [i64_id (by omega)]; omega
              have loop : ∀ (K : Int → List (List UInt8) → Option Int) (m i q : Nat) (ps' : List (List UInt8)) (u' : List UInt8), i + m = h.toNat * 256 + l.toNat → m < q → ps'.length = i → (∀ p ∈ ps', IsV k p) → u = ps'.flatten ++ u' →
                  (∃ qs r, Row k m u' qs r ∧ m_value_long_L2 (m_value_length_S n) (c :: h :: l :: u) (33 - ((k + 1 : Nat) : Int)) K q ((3 + ps'.flatten.length : Nat) : Int) ps' i = K ((3 + (ps' ++ qs).flatten.length : Nat) : Int) (ps' ++ qs)) ∨
                  ((∀ qs r, ¬ Row k m u' qs r) ∧ m_value_long_L2 (m_value_length_S n) (c :: h :: l :: u) (33 - ((k + 1 : Nat) : Int)) K q ((3 + ps'.flatten.length : Nat) : Int) ps' i = some 0) := by
                intro K m
                induction m with
                | zero =>
                  intro i q ps' u' hi hq hl' hp' hu
                  obtain ⟨q, rfl⟩ : ∃ k, q = k + 1 := ⟨q - 1, by omega⟩
                  refine .inl ⟨[], u', ⟨rfl, by simp, by simp⟩, ?_⟩
                  rw [m_value_long_L2, m_value_long_B2, gi_1, gi_2, i64_step, if_neg (by omega), List.append_nil]
                | succ m ih =>
                  intro i q ps' u' hi hq hl' hp' hu
                  obtain ⟨q, rfl⟩ : ∃ k, q = k + 1 := ⟨q - 1, by omega⟩
                  have hul : u.length = ps'.flatten.length + u'.length := by rw [hu]; simp
                  have hsl : u.length + 3 ≤ 1000000000 := by simpa using hs
                  have hdrop : List.drop (3 + ps'.flatten.length) (c :: h :: l :: u) = u' := by
                    rw [show 3 + ps'.flatten.length = ps'.flatten.length + 3 by omega]
                    simp only [List.drop_succ_cons]
                    rw [hu, List.drop_left]
                  rw [m_value_long_L2, m_value_long_B2, gi_1, gi_2, i64_step, if_pos (by omega), hlen, need_pos (by omega), Int.toNat_natCast, hdrop, e33]
                  rcases vLength k (by omega) n (by omega) u' (by omega) with ⟨v, w, hv1, hv2, hv3⟩ | ⟨hno, h0'⟩
                  · have hvl := hv2.sh.len
                    have hw : u'.length = v.length + w.length := by rw [hv1]; simp
                    have e1 : i64 (((3 + ps'.flatten.length : Nat) : Int) + (v.length : Int)) = ((3 + (ps' ++ [v]).flatten.length : Nat) : Int) := by rw [i64_id (by omega)]; simp; omega
                    have e2 : 3 + (ps' ++ [v]).flatten.length = 3 + ps'.flatten.length + v.length := by simp; omega
                    have e3 : List.take v.length u' = v := by rw [hv1, List.take_left]
                    rw [hv3, bnd1_mk, if_neg (by omega), e1, need_pos (by omega), Int.toNat_natCast, show 3 + (ps' ++ [v]).flatten.length - (3 + ps'.flatten.length) = v.length by omega, e3, need_pos (by simp; omega), i64_succ (by omega)]
                    rcases ih (i + 1) q (ps' ++ [v]) w (by omega) (by omega) (by simp [hl']) (fun p hp => by
                      rcases List.mem_append.1 hp with h | h
                      · exact hp' p h
                      · rw [List.mem_singleton.1 h]; exact hv2) (by rw [hu, hv1]; simp) with ⟨qs, r, hr, he⟩ | ⟨hno, he⟩
                    · refine .inl ⟨v :: qs, r, ⟨by simp [hr.1], fun x hx => ?_, by rw [hv1, hr.2.2]; simp⟩, ?_⟩
                      · rcases List.mem_cons.1 hx with rfl | hx
                        · exact hv2
                        · exact hr.2.1 x hx
                      · rw [he]; simp
                    · refine .inr ⟨fun qs r hr => ?_, he⟩
                      obtain ⟨qs', _, hr'⟩ := Row.step hv2 hv1 qs r hr
                      exact hno qs' r hr'
                  · rw [h0', bnd1_mk, if_pos rfl]
                    refine .inr ⟨fun qs r hr => ?_, rfl⟩
                    obtain ⟨h1', h2', h3'⟩ := hr
                    match qs, h1' with
                    | x :: qs', _ => exact hno x (qs'.flatten ++ r) (by rw [h3']; simp) (h2' x (by simp))
              rcases loop (fun x5_j1 x6_j1 => need ((0 : Int) ≤ 0 ∧ 0 < ((u.length + 3 : Nat) : Int)) (bnd1 (m_value_formed (c.toNat : Int) x6_j1) (fun y38 => if !y38 then some 0 else some x5_j1))) (h.toNat * 256 + l.toNat) 0 FU [] u (by omega) (by omega) rfl (by simp) rfl with ⟨qs, r, hr, he⟩ | ⟨hno, he⟩
              · rw [show ((3 + ([] : List (List UInt8)).flatten.length : Nat) : Int) = 3 from rfl, show ((0 : Nat) : Int) = 0 from rfl] at he
                have hsl : u.length + 3 ≤ 1000000000 := by simpa using hs
                have hql : u.length = qs.flatten.length + r.length := by rw [hr.2.2]; simp
                rw [he, List.nil_append, need_pos (by omega), vFormed (k := k) c qs (fun p hp => (hr.2.1 p hp).sh) (by omega) (by rw [hr.1]; omega) (by omega), bnd1_mk]
                cases hf : formedB c qs with
                | true =>
                  refine .inl ⟨c :: h :: l :: qs.flatten, r, by rw [hr.2.2]; simp, .comp k c h l qs hc hr.1 hr.2.1 hf, ?_⟩
                  simp only [Bool.not_true, Bool.false_eq_true, if_false, bnd1_mk]
                  congr 1
                  simp only [List.length_cons]; omega
                | false =>
                  refine .inr ⟨fun v r' e hv => ?_, by simp [bnd1_mk]⟩
                  obtain ⟨h', l', u', ps, e', hr', hf', _⟩ := kc v r' e hv
                  simp only [List.cons.injEq] at e'
                  obtain ⟨rfl, rfl, rfl⟩ := e'
                  have := (Sh.flat (fun p hp => (hr.2.1 p hp).sh) (fun p hp => (hr'.2.1 p hp).sh) (by rw [hr.1, hr'.1]) (by rw [← hr.2.2]; exact hr'.2.2)).1
                  rw [this, hf'] at hf; cases hf
              · rw [show ((3 + ([] : List (List UInt8)).flatten.length : Nat) : Int) = 3 from rfl, show ((0 : Nat) : Int) = 0 from rfl] at he
                rw [he, bnd1_mk]
                refine .inr ⟨fun v r' e hv => ?_, rfl⟩
                obtain ⟨h', l', u', ps, e', hr', _⟩ := kc v r' e hv
                simp only [List.cons.injEq] at e'
                obtain ⟨rfl, rfl, rfl⟩ := e'
                exact hno ps r' hr'
          · -- no kind
            have hne : ∀ d : UInt8, 3 ≤ d.toNat → d.toNat ≤ 9 → c ≠ d := fun d h h' e => hc (by rw [e]; exact ⟨h, h'⟩)
            refine .inr ⟨fun v r e hv => ?_, ?_⟩
            · rcases kinds v r e hv with ⟨h, _⟩ | ⟨h, _⟩ | ⟨h, _⟩ | ⟨_, _, _, _, h, _⟩
              · exact h1 h
              · exact h2 h
              · exact h10 h
              · exact hc h
            · have n3 := hne 3 (by decide) (by decide)
              have n4 := hne 4 (by decide) (by decide)
              have n5 := hne 5 (by decide) (by decide)
              have n6 := hne 6 (by decide) (by decide)
              have n7 := hne 7 (by decide) (by decide)
              have n8 := hne 8 (by decide) (by decide)
              have n9 := hne 9 (by decide) (by decide)
              simp only [n3, n4, n5, n6, n7, n8, n9, if_false, decide_false, Bool.false_eq_true]
              rw [if_neg (by simp; omega)]
end Go.Proofs.YtdppkpiagdaigaaGreatDoor
/- The reference's reading and comparing of values: the same. -/
namespace Go.Proofs.YtdppkpiagdaigaaGreatDoor
attribute [local irreducible] FU

/-- The parts of a value. -/
def prt (v : List UInt8) : List (List UInt8) := if gi v 0 = 1 ∨ gi v 0 = 2 ∨ gi v 0 = 10 then [] else partsV 40 v
theorem prt_comp {k : Nat} {c h l : UInt8} {ps : List (List UInt8)} (hc : 3 ≤ c.toNat ∧ c.toNat ≤ 9) (hn : ps.length = h.toNat * 256 + l.toNat) (hp : ∀ p ∈ ps, Sh k p) (hk : k ≤ 40) : prt (c :: h :: l :: ps.flatten) = ps := by
  obtain ⟨n1, n2, n3⟩ := kind_ne hc
  unfold prt
  rw [gi_0, if_neg (fun h => h.elim n1 (fun h => h.elim n2 n3))]
  exact partsV_eq hn (fun p h => (hp p h).le hk)
/-- Without looking at the parts. -/
theorem rWalk0 : ∀ (k : Nat), k ≤ 40 → ∀ (v : List UInt8), Sh k v → ∀ (n : Nat) (r : List UInt8), k ≤ n → v.length + r.length ≤ 1000000000 → ∃ d, (m_ref9_walk_S n).1 (v ++ r) (k : Int) false = some ((v.length : Int), prt v, d)
  | 0, _, v, h, _, _, _, _ => absurd h.pos (by omega)
  | k + 1, hk, v, h, n, r, hn, hl => by
    have hFU := FU_ge
    obtain ⟨n, rfl⟩ : ∃ q, n = q + 1 := ⟨n - 1, by omega⟩
    have hlen := h.len
    rw [m_ref9_walk_S]
    show ∃ d, m_ref9_walk_F (m_ref9_walk_S n).1 (m_ref9_walk_S n).2 (v ++ r) ((k + 1 : Nat) : Int) false = _
    rw [m_ref9_walk_F]
    simp only [jn_eq, decide_eq_true_eq]
    rw [if_neg (by simp; omega), if_neg (by omega), need_len (by simp; omega)]
    simp only [Bool.false_eq_true, if_false, toNat1, toNat2, toNat10]
    cases h with
    | int k b hb =>
      refine ⟨1, ?_⟩
      rw [if_pos (show gi (1 :: b ++ r) 0 = 1 from rfl), if_neg (by simp; omega)]
      simp [prt, gi_0, hb]
    | bool k b hb =>
      have : ¬ 1 < b := by rw [UInt8.lt_iff_toNat_lt]; simp; omega
      refine ⟨1, ?_⟩
      rw [if_neg (show ¬ gi ([2, b] ++ r) 0 = 1 from (by decide : ¬ (2 : UInt8) = 1)), if_pos (show gi ([2, b] ++ r) 0 = 2 from rfl), need_pos (by simp; omega), if_neg (show ¬ 1 < gi ([2, b] ++ r) 1 from this)]
      simp [prt, gi_0]
    | name k h l =>
      refine ⟨1, ?_⟩
      have g : gi ([10, h, l] ++ r) 0 = 10 := rfl
      rw [if_neg (by rw [g]; decide), if_neg (by rw [g]; decide), if_neg (by simp; omega), if_neg (by rw [g]; decide), if_neg (by rw [g]; decide), if_pos g]
      simp [prt, gi_0]
    | comp k c h l ps hc hn' hp =>
      obtain ⟨n1, n2, n3⟩ := kind_ne hc
      have hlen3 : (c :: h :: l :: (ps.flatten ++ r)).length = ps.flatten.length + r.length + 3 := by simp
      have g : gi (c :: h :: l :: ps.flatten ++ r) 0 = c := rfl
      rw [if_neg (by rw [g]; exact n1), if_neg (by rw [g]; exact n2), if_neg (by simp; omega), if_neg (by rw [g]; omega), if_neg (by rw [g]; omega), if_neg (by rw [g]; exact n3)]
      simp only [List.cons_append, hlen3]
      rw [need_pos (by omega), need_pos (by omega)]
      have htot : ps.flatten.length + 3 + r.length ≤ 1000000000 := by simp at hl; simp; omega
      have hx : UInt8.toNat h < 256 := UInt8.toNat_lt h
      have hy : UInt8.toNat l < 256 := UInt8.toNat_lt l
      have ek : i64 (((k + 1 : Nat) : Int) - 1) = (k : Int) := by rw [i64_id (by omega)]; omega
      have loop : ∀ (K : Int → Int → List (List UInt8) → Option (Int × List (List UInt8) × Int)) (m i q at_ : Nat) (x12 : Int), i + m = ps.length → m < q → at_ = 3 + (ps.take i).flatten.length → ∃ d, m_ref9_walk_L2 (m_ref9_walk_S n).1 (c :: h :: l :: (ps.flatten ++ r)) ((k + 1 : Nat) : Int) false K q at_ x12 (ps.take i) i = K ((3 + ps.flatten.length : Nat) : Int) d ps := by
        intro K m
        induction m with
        | zero =>
          intro i q at_ x12 hi hq ha
          obtain ⟨q, rfl⟩ : ∃ k, q = k + 1 := ⟨q - 1, by omega⟩
          refine ⟨x12, ?_⟩
          rw [m_ref9_walk_L2, m_ref9_walk_B2, gi_1, gi_2, i64_step, ← hn', if_neg (by omega)]
          rw [ha, show i = ps.length by omega, List.take_length]
        | succ m ih =>
          intro i q at_ x12 hi hq ha
          obtain ⟨q, rfl⟩ : ∃ k, q = k + 1 := ⟨q - 1, by omega⟩
          have hip : i < ps.length := by omega
          have hsplit : ps.flatten = (ps.take i).flatten ++ (ps[i] ++ (ps.drop (i + 1)).flatten) := by
            conv => lhs; rw [← List.take_append_drop i ps, List.drop_eq_getElem_cons hip, List.flatten_append, List.flatten_cons]
          have hls : ps.flatten.length = (ps.take i).flatten.length + (ps[i].length + (ps.drop (i + 1)).flatten.length) := by rw [hsplit]; simp
          have hpos := (hp _ (List.getElem_mem hip)).len
          rw [m_ref9_walk_L2, m_ref9_walk_B2, gi_1, gi_2, i64_step, ← hn', if_pos (by omega), hlen3, need_pos (by omega), Int.toNat_natCast, ek]
          have hdr : List.drop at_ (c :: h :: l :: (ps.flatten ++ r)) = ps[i] ++ ((ps.drop (i + 1)).flatten ++ r) := by
            rw [ha, show 3 + (ps.take i).flatten.length = (ps.take i).flatten.length + 3 by omega]
            simp only [List.drop_succ_cons]
            rw [hsplit, List.append_assoc, List.drop_left, List.append_assoc]
          obtain ⟨d, hd⟩ := rWalk0 k (by omega) ps[i] (hp _ (List.getElem_mem _)) n ((ps.drop (i + 1)).flatten ++ r) (by omega) (by rw [List.length_append]; omega)
          have e : i64 ((at_ : Int) + (ps[i].length : Int)) = ((at_ + ps[i].length : Nat) : Int) := by rw [i64_id (by omega)]; omega
          rw [hdr, hd, bnd1_mk]
          simp only []
          rw [if_neg (by omega), e, need_pos (by omega), Int.toNat_natCast, show at_ + ps[i].length - at_ = ps[i].length by omega, List.take_left, need_pos (by simp; omega), i64_succ (by omega), List.take_append_getElem hip]
          refine ih (i + 1) q (at_ + ps[i].length) _ (by omega) (by omega) ?_
          rw [← List.take_append_getElem hip, List.flatten_append, List.length_append, ha]
          simp; omega
      obtain ⟨d, hd⟩ := loop (fun x11_j13 x12_j13 x13_j13 => some (x11_j13, x13_j13, i64 (x12_j13 + 1))) ps.length 0 FU 3 0 (by omega) (by omega) (by simp)
      rw [show ((3 : Nat) : Int) = 3 from rfl, show ((0 : Nat) : Int) = 0 from rfl, List.take_zero] at hd
      rw [hd]
      refine ⟨i64 (d + 1), ?_⟩
      rw [prt_comp hc hn' hp (by omega)]
      congr 2
      simp; omega
theorem rOrderS : ∀ (k : Nat) (a b : List UInt8), Sh k a → Sh k b → k ≤ 32 → a.length ≤ 100000000 → b.length ≤ 100000000 → ∀ n, k + 33 ≤ n → (m_ref9_walk_S n).2 a b = some (cmpV k a b)
  | 0, a, b, ha, _, _, _, _, _, _ => absurd ha.pos (by omega)
  | k + 1, a, b, ha, hb, hk, la, lb, n, hn => by
    have hFU := FU_ge
    obtain ⟨n, rfl⟩ : ∃ q, n = q + 1 := ⟨n - 1, by omega⟩
    have h1 := ha.len
    have h2 := hb.len
    rw [m_ref9_walk_S]
    show m_ref9_order_F (m_ref9_walk_S n).1 (m_ref9_walk_S n).2 a b = _
    rw [m_ref9_order_F, cmpV]
    by_cases e : a = b
    · simp [e]
    · rw [if_neg e, if_neg e, need_len (by omega), need_len (by omega)]
      by_cases e1 : gi a 0 = gi b 0
      · rw [if_neg (show ¬ ¬ gi a 0 = gi b 0 from fun h => h e1), if_neg (show ¬ (gi a 0 ≠ gi b 0) from fun h => h e1), need_len (by omega)]
        simp only [toNat1, toNat2, toNat10]
        by_cases e2 : gi a 0 = 1
        · simp only [if_pos e2]
          obtain ⟨l1, d1⟩ := ha.kind1 e2
          obtain ⟨l2, d2⟩ := hb.kind1 (by rw [← e1]; exact e2)
          rw [need_pos (by omega), show Int.toNat 1 = 1 from rfl, rNumber (a.drop 1) (by simp [l1]), bnd1_mk, need_pos (by omega), rNumber (b.drop 1) (by simp [l2]), bnd1_mk, rSignInt, bnd1_mk, List.take_of_length_le (by simp [l1]), List.take_of_length_le (by simp [l2])]
          rfl
        · simp only [if_neg e2, jn_eq]
          rw [need_len (by omega)]
          by_cases e3 : gi a 0 = 2 ∨ gi a 0 = 10
          · rw [if_pos e3]
            by_cases e4 : gi a 0 = 2
            · simp only [if_pos e4, if_true, rSignStr, bnd1_mk]
            · have e5 : gi a 0 = 10 := e3.resolve_left e4
              simp only [if_neg e4, decide_eq_true e5, if_true, rSignStr, bnd1_mk]
              rw [need_len (by omega)]
          · rw [if_neg e3]
            have e4 : ¬ gi a 0 = 2 := fun h => e3 (.inl h)
            have e5 : ¬ gi a 0 = 10 := fun h => e3 (.inr h)
            simp only [if_neg e4, decide_eq_false e5, Bool.false_eq_true, if_false]
            rw [need_len (by omega)]
            obtain ⟨d1, w1⟩ := rWalk0 32 (by omega) a (ha.le hk) n [] (by omega) (by simp; omega)
            obtain ⟨d2, w2⟩ := rWalk0 32 (by omega) b (hb.le hk) n [] (by omega) (by simp; omega)
            rw [List.append_nil] at w1 w2
            rw [show ((32 : Nat) : Int) = 32 from rfl] at w1 w2
            rw [w1, bnd1_mk, w2, bnd1_mk]
            obtain ⟨c, x, y, ps, rfl, hn1, hs, hp, hc1⟩ := ha.kindc e2 e3
            obtain ⟨c', x', y', ps', rfl, hn2, hs', hp', hc2⟩ := hb.kindc (by rw [← e1]; exact e2) (by rw [← e1]; exact e3)
            have f1 : ps.flatten.length ≤ 100000000 := by simp at la ⊢; omega
            have f2 : ps'.flatten.length ≤ 100000000 := by simp at lb ⊢; omega
            have hx : UInt8.toNat x < 256 := UInt8.toNat_lt x
            have hy : UInt8.toNat y < 256 := UInt8.toNat_lt y
            have hx' : UInt8.toNat x' < 256 := UInt8.toNat_lt x'
            have hy' : UInt8.toNat y' < 256 := UInt8.toNat_lt y'
            rw [prt_comp hc1 hn1 hs (by omega), prt_comp hc2 hn2 hs' (by omega), hp, hp']
            have ho : ∀ p ∈ ps, ∀ q ∈ ps', (m_ref9_walk_S n).2 p q = some (cmpV k p q) := fun p hp q hq => rOrderS k p q (hs p hp) (hs' q hq) (by omega) (Nat.le_trans (flat_mem_len hp) f1) (Nat.le_trans (flat_mem_len hq) f2) n (by omega)
            simp only [rSign, bnd1_mk]
            have loop : ∀ (m i q : Nat), i + m = ps.length → m < q → i ≤ ps'.length → m_ref9_order_L2 (m_ref9_walk_S n).2 (((c :: x :: y :: ps.flatten).length : Int), ps, d1) (((c' :: x' :: y' :: ps'.flatten).length : Int), ps', d2) (fun _ => some (if decide ((List.length ps : Int) < (List.length ps' : Int)) = true then -1 else if decide ((List.length ps' : Int) < (List.length ps : Int)) = true then 1 else 0)) q i = some (lexCmp (cmpV k) (ps.drop i) (ps'.drop i)) := by
              intro m
              induction m with
              | zero =>
                intro i q hi hq hib
                obtain ⟨q, rfl⟩ : ∃ k, q = k + 1 := ⟨q - 1, by omega⟩
                rw [m_ref9_order_L2, m_ref9_order_B2, jn_eq]
                simp only []
                rw [if_neg (by omega), if_neg (by simp), List.drop_eq_nil_of_le (show ps.length ≤ i by omega)]
                by_cases h : (List.length ps : Int) < (List.length ps' : Int)
                · rw [if_pos (by simpa using h), List.drop_eq_getElem_cons (show i < ps'.length by omega)]; rfl
                · rw [if_neg (by simpa using h), if_neg (by simp; omega), List.drop_eq_nil_of_le (show ps'.length ≤ i by omega)]; rfl
              | succ m ih =>
                intro i q hi hq hib
                obtain ⟨q, rfl⟩ : ∃ k, q = k + 1 := ⟨q - 1, by omega⟩
                rw [m_ref9_order_L2, m_ref9_order_B2, jn_eq]
                simp only []
                rw [if_pos (by omega), List.drop_eq_getElem_cons (show i < ps.length by omega)]
                by_cases h : i < ps'.length
                · rw [if_pos (decide_eq_true (show (i : Int) < (ps'.length : Int) by omega)), need_pos (by omega), need_pos (by omega), gi_nat (by omega), gi_nat h, ho _ (List.getElem_mem _) _ (List.getElem_mem _), bnd1_mk, List.drop_eq_getElem_cons h, lexCmp, i64_succ (by omega)]
                  by_cases h0 : cmpV k ps[i] ps'[i] = 0
                  · simp only [h0, not_true_eq_false, ne_eq, if_false]
                    exact ih (i + 1) q (by omega) (by omega) (by omega)
                  · rw [if_pos h0, if_pos h0]
                · rw [if_neg (by simp; omega), List.drop_eq_nil_of_le (show ps'.length ≤ i by omega)]
                  rw [if_neg (by simp; omega), if_pos (by simp; omega)]
                  rfl
            have := loop ps.length 0 FU (by omega) (by omega) (by omega)
            rw [List.drop_zero, List.drop_zero] at this
            exact this
      · rw [if_pos (show ¬ gi a 0 = gi b 0 from e1), if_pos (show gi a 0 ≠ gi b 0 from e1), need_len (by omega), need_len (by omega), rSign, bnd1_mk]
        unfold sgnB
        by_cases h : gi a 0 < gi b 0
        · simp [h]
        · have : gi b 0 < gi a 0 := by
            rw [UInt8.lt_iff_toNat_lt] at h ⊢
            have : (gi a 0).toNat ≠ (gi b 0).toNat := fun h => e1 (u8_inj h)
            omega
          simp [h, this]
end Go.Proofs.YtdppkpiagdaigaaGreatDoor
/- Valid values: what the reference calls valid; both agree. -/
namespace Go.Proofs.YtdppkpiagdaigaaGreatDoor
attribute [local irreducible] FU

theorem rAsc1 (w : List UInt8 → Int → Bool → Option (Int × List (List UInt8) × Int)) (o : List UInt8 → List UInt8 → Option Int) (ps : List (List UInt8)) (hl : ps.length ≤ 1000000) (hc : ∀ p ∈ ps, ∀ q ∈ ps, o p q = some (cmpW p q)) : m_ref9_ascending w o ps 1 = some (ascB ps) := by
  have hFU := FU_ge
  unfold m_ref9_ascending
  rw [jn_eq]
  have loop : ∀ (m i n : Nat), i + m = ps.length → 1 ≤ i → m < n → m_ref9_ascending_L2 o ps 1 (fun _ => some true) n i = some (ascB (ps.drop (i - 1))) := by
    intro m
    induction m with
    | zero =>
      intro i n hi h1 hn
      obtain ⟨n, rfl⟩ : ∃ k, n = k + 1 := ⟨n - 1, by omega⟩
      rw [m_ref9_ascending_L2, m_ref9_ascending_B2, if_neg (by omega), List.drop_eq_getElem_cons (show i - 1 < ps.length by omega), List.drop_eq_nil_of_le (by omega)]
      rfl
    | succ m ih =>
      intro i n hi h1 hn
      obtain ⟨n, rfl⟩ : ∃ k, n = k + 1 := ⟨n - 1, by omega⟩
      have hip : i < ps.length := by omega
      have e : ps.drop (i - 1) = ps[i - 1] :: ps[i] :: ps.drop (i + 1) := by
        rw [List.drop_eq_getElem_cons (show i - 1 < ps.length by omega), show i - 1 + 1 = i by omega, List.drop_eq_getElem_cons hip]
      have e2 : ps.drop (i + 1 - 1) = ps[i] :: ps.drop (i + 1) := by rw [show i + 1 - 1 = i by omega, List.drop_eq_getElem_cons hip]
      have e3 : gi ps ((i : Int) - 1) = ps[i - 1] := by rw [show (i : Int) - 1 = ((i - 1 : Nat) : Int) by omega, gi_nat (by omega)]
      rw [m_ref9_ascending_L2, m_ref9_ascending_B2, if_pos (by omega), i64_sub1 (by omega), need_pos (by omega), need_pos (by omega), e3, gi_nat hip, hc _ (List.getElem_mem _) _ (List.getElem_mem _), bnd1_mk, i64_succ (by omega), e, ascB]
      by_cases h : cmpW ps[i - 1] ps[i] < 0
      · rw [if_neg (by omega), ih (i + 1) n (by omega) (by omega) (by omega), e2]; simp [h]
      · rw [if_pos (by omega)]; simp [h]
  match hps : ps with
  | [] =>
    obtain ⟨n, hn⟩ := FU_k 1 (by omega)
    rw [hn, m_ref9_ascending_L2, m_ref9_ascending_B2, if_neg (by simp)]; rfl
  | p :: t =>
    have := loop t.length 1 FU (by simp; omega) (by omega) (by simp at hl; omega)
    rw [show ((1 : Nat) : Int) = 1 from rfl] at this
    rw [this]; rfl
theorem evens_drop2 {α : Type} : ∀ (l : List α), 2 ≤ l.length → ∃ x, l[0]? = some x ∧ evens l = x :: evens (l.drop 2)
  | x :: y :: t, _ => ⟨x, rfl, rfl⟩
theorem rAsc2 (w : List UInt8 → Int → Bool → Option (Int × List (List UInt8) × Int)) (o : List UInt8 → List UInt8 → Option Int) (ps : List (List UInt8)) (hl : ps.length ≤ 1000000) (h2 : ps.length % 2 = 0) (hc : ∀ p ∈ ps, ∀ q ∈ ps, o p q = some (cmpW p q)) : m_ref9_ascending w o ps 2 = some (ascB (evens ps)) := by
  have hFU := FU_ge
  unfold m_ref9_ascending
  rw [jn_eq]
  have loop : ∀ (m i n : Nat), i + 2 * m = ps.length → 2 ≤ i → i % 2 = 0 → m < n → m_ref9_ascending_L2 o ps 2 (fun _ => some true) n i = some (ascB (evens (ps.drop (i - 2)))) := by
    intro m
    induction m with
    | zero =>
      intro i n hi h1 hi2 hn
      obtain ⟨n, rfl⟩ : ∃ k, n = k + 1 := ⟨n - 1, by omega⟩
      rw [m_ref9_ascending_L2, m_ref9_ascending_B2, if_neg (by omega)]
      obtain ⟨x, _, hx⟩ := evens_drop2 (ps.drop (i - 2)) (by simp; omega)
      rw [hx, List.drop_drop, List.drop_eq_nil_of_le (by omega)]
      rfl
    | succ m ih =>
      intro i n hi h1 hi2 hn
      obtain ⟨n, rfl⟩ : ∃ k, n = k + 1 := ⟨n - 1, by omega⟩
      have hip : i < ps.length := by omega
      obtain ⟨x, hx0, hx⟩ := evens_drop2 (ps.drop (i - 2)) (by simp; omega)
      obtain ⟨y, hy0, hy⟩ := evens_drop2 (ps.drop i) (by simp; omega)
      rw [List.getElem?_drop, List.getElem?_eq_getElem (by omega)] at hx0 hy0
      have ex : x = ps[i - 2] := by simpa using (Option.some.inj hx0).symm
      have ey : y = ps[i] := by simpa using (Option.some.inj hy0).symm
      rw [List.drop_drop, show i - 2 + 2 = i by omega] at hx
      have e3 : gi ps ((i : Int) - 2) = ps[i - 2] := by rw [show (i : Int) - 2 = ((i - 2 : Nat) : Int) by omega, gi_nat (by omega)]
      have e4 : i64 ((i : Int) - 2) = (i : Int) - 2 := i64_id (by omega)
      have e5 : i64 ((i : Int) + 2) = ((i + 2 : Nat) : Int) := by rw [i64_id (by omega)]; omega
      rw [m_ref9_ascending_L2, m_ref9_ascending_B2, if_pos (by omega), e4, need_pos (by omega), need_pos (by omega), e3, gi_nat hip, hc _ (List.getElem_mem _) _ (List.getElem_mem _), bnd1_mk, e5, hx, hy, ascB, ex, ey]
      by_cases h : cmpW ps[i - 2] ps[i] < 0
      · rw [if_neg (by omega), ih (i + 2) n (by omega) (by omega) (by omega) (by omega), show i + 2 - 2 = i by omega, hy, ey]; simp [h]
      · rw [if_pos (by omega)]; simp [h]
  by_cases h0 : ps.length = 0
  · have : ps = [] := List.length_eq_zero_iff.1 h0
    subst this
    obtain ⟨n, hn⟩ := FU_k 1 (by omega)
    rw [hn, m_ref9_ascending_L2, m_ref9_ascending_B2, if_neg (by simp)]
    simp [evens, ascB]
  · have := loop ((ps.length - 2) / 2) 2 FU (by omega) (by omega) (by omega) (by omega)
    rw [show ((2 : Nat) : Int) = 2 from rfl] at this
    rw [this]; rfl
theorem rSmall {k : Nat} {v : List UInt8} (h : Sh k v) (lo hi : Int) : m_ref9_small v lo hi = some (betB v lo hi) := by
  have hl := h.len
  unfold m_ref9_small betB
  simp only [jn_eq, toNat1]
  rw [need_len (by omega)]
  by_cases h1 : gi v 0 = 1
  · obtain ⟨l1, _⟩ := h.kind1 h1
    rw [if_pos h1, need_pos (by omega), show Int.toNat 1 = 1 from rfl, rNumber (v.drop 1) (by simp [l1]), bnd1_mk, need_pos (by omega), bnd1_mk, List.take_of_length_le (by simp [l1])]
    have : i64 (beNat (v.drop 1) : Int) = numV v := rfl
    rw [this]
    by_cases h2 : lo ≤ numV v <;> simp [h1, h2]
  · rw [if_neg h1]; simp [h1]
theorem rParted {k : Nat} (w : List UInt8 → Int → Bool → Option (Int × List (List UInt8) × Int)) (o : List UInt8 → List UInt8 → Option Int) (c : UInt8) (ps : List (List UInt8)) (hp : ∀ p ∈ ps, Sh k p) (hl : ps.length ≤ 100000) (hc : ∀ p ∈ ps, ∀ q ∈ ps, o p q = some (cmpW p q)) : m_ref9_parted w o (c.toNat : Int) ps = some (formedB c ps) := by
  have h0 : 1 ≤ ps.length → gi ps 0 ∈ ps := fun h => by
    rw [show (0 : Int) = ((0 : Nat) : Int) from rfl, gi_nat (by omega)]; exact List.getElem_mem _
  unfold m_ref9_parted formedB
  simp only [jn_eq, toNat3, toNat5, toNat6, toNat7, toNat8, toNat9]
  by_cases h3 : c = 3
  · simp only [h3, if_true]
    by_cases h : (2 : Int) ≤ (ps.length : Int)
    · rw [if_pos h]
      by_cases h8 : (ps.length : Int) ≤ 8
      · simp [show 2 ≤ ps.length by omega, show ps.length ≤ 8 by omega, h8]
      · simp [show ¬ ps.length ≤ 8 by omega, h8]
    · rw [if_neg h]; simp; omega
  · simp only [h3, if_false]
    by_cases h5 : c = 5
    · simp only [h5, if_true, rAsc1 w o ps (by omega) hc, bnd1_mk]
    · simp only [h5, if_false]
      by_cases h6 : c = 6
      · simp only [h6, if_true, tmod2]
        by_cases he : ps.length % 2 = 0
        · rw [if_pos he, rAsc2 w o ps (by omega) he hc, bnd1_mk]; simp [he]
        · rw [if_neg he]; simp [he]
      · simp only [h6, if_false]
        by_cases h7 : c = 7
        · simp only [h7, if_true]
          by_cases h1 : (1 : Int) ≤ (ps.length : Int)
          · rw [if_pos h1]
            by_cases h9 : (ps.length : Int) ≤ 9
            · have hm := (hp _ (h0 (by omega))).len
              rw [if_pos h9, need_pos (by omega), need_pos (by omega)]
              simp only [toNat10, show 1 ≤ ps.length by omega, show ps.length ≤ 9 by omega, decide_true, Bool.true_and]
              rfl
            · rw [if_neg h9]; simp; omega
          · rw [if_neg h1]; simp; omega
        · simp only [h7, if_false]
          by_cases h8 : c = 8
          · simp only [h8, if_true]
            by_cases h1 : (1 : Int) ≤ (ps.length : Int)
            · rw [if_pos h1]
              by_cases h9 : (ps.length : Int) ≤ 33
              · rw [if_pos h9, need_pos (by omega), rSmall (hp _ (h0 (by omega))), bnd1_mk]
                simp [show 1 ≤ ps.length by omega, show ps.length ≤ 33 by omega]
              · rw [if_neg h9]; simp; omega
            · rw [if_neg h1]; simp; omega
          · simp only [h8, if_false]
            by_cases h9 : c = 9
            · simp only [h9, if_true]
              by_cases h1 : (1 : Int) ≤ (ps.length : Int)
              · rw [if_pos h1, need_pos (by omega), rSmall (hp _ (h0 (by omega))), bnd1_mk]
                simp [show 1 ≤ ps.length by omega]
              · rw [if_neg h1]; simp; omega
            · simp only [h9, if_false]
/-- At the start of s there is a value, of this length and these parts; or none. -/
def AtR (k : Nat) (s : List UInt8) (o : Option (Int × List (List UInt8) × Int)) : Prop := (∃ v r d, s = v ++ r ∧ IsV k v ∧ o = some ((v.length : Int), prt v, d)) ∨ ((∀ v r, s = v ++ r → ¬ IsV k v) ∧ o = some (0, [], 0))
theorem rWalk : ∀ (k : Nat), k ≤ 32 → ∀ (n : Nat), k + 40 ≤ n → ∀ (s : List UInt8), s.length ≤ 100000000 → AtR k s ((m_ref9_walk_S n).1 s (k : Int) true)
  | 0, _, n, hn, s, hs => by
    obtain ⟨n, rfl⟩ : ∃ q, n = q + 1 := ⟨n - 1, by omega⟩
    refine .inr ⟨fun v r _ hv => by have := hv.sh.pos; omega, ?_⟩
    rw [m_ref9_walk_S]
    show m_ref9_walk_F (m_ref9_walk_S n).1 (m_ref9_walk_S n).2 s ((0 : Nat) : Int) true = _
    rw [m_ref9_walk_F, jn_eq]
    by_cases h : (s.length : Int) < 2
    · rw [if_pos h]; rfl
    · rw [if_neg h]; rfl
  | k + 1, hk, n, hn, s, hs => by
    have hFU := FU_ge
    obtain ⟨n, rfl⟩ : ∃ q, n = q + 1 := ⟨n - 1, by omega⟩
    rw [m_ref9_walk_S]
    show AtR (k + 1) s (m_ref9_walk_F (m_ref9_walk_S n).1 (m_ref9_walk_S n).2 s ((k + 1 : Nat) : Int) true)
    rw [m_ref9_walk_F]
    simp only [jn_eq, decide_eq_true_eq]
    by_cases h0 : (s.length : Int) < 2
    · rw [if_pos h0]
      exact .inr ⟨noV_small (by omega), rfl⟩
    rw [if_neg h0, if_neg (by omega), need_len (by omega)]
    obtain ⟨c, b1, t, rfl⟩ : ∃ c b t, s = c :: b :: t := by
      cases s with
      | nil => simp at h0
      | cons c t => cases t with
        | nil => simp at h0
        | cons b t => exact ⟨c, b, t, rfl⟩
    simp only [toNat1, toNat2, toNat10]
    have g0 : gi (c :: b1 :: t) 0 = c := rfl
    have g1 : gi (c :: b1 :: t) 1 = b1 := rfl
    have hlen : (c :: b1 :: t).length = t.length + 2 := rfl
    rw [hlen] at hs
    have kinds : ∀ v r, c :: b1 :: t = v ++ r → IsV (k + 1) v → (c = 1 ∧ 7 ≤ t.length) ∨ (c = 2 ∧ b1.toNat ≤ 1) ∨ (c = 10 ∧ 1 ≤ t.length) ∨
        (∃ l u ps, (3 ≤ c.toNat ∧ c.toNat ≤ 9) ∧ t = l :: u ∧ Row k (b1.toNat * 256 + l.toNat) u ps r ∧ formedB c ps = true) := by
      intro v r e hv
      cases hv with
      | int k b hb =>
        simp only [List.cons_append, List.cons.injEq] at e
        refine .inl ⟨e.1, ?_⟩
        have := congrArg List.length e.2
        simp at this; omega
      | bool k b hb =>
        simp only [List.cons_append, List.nil_append, List.cons.injEq] at e
        exact .inr (.inl ⟨e.1, by rw [e.2.1]; exact hb⟩)
      | name k h l =>
        simp only [List.cons_append, List.nil_append, List.cons.injEq] at e
        refine .inr (.inr (.inl ⟨e.1, ?_⟩))
        rw [e.2.2]; simp
      | comp k c' h l ps hc hn hp hf =>
        simp only [List.cons_append, List.cons.injEq] at e
        obtain ⟨rfl, rfl, e⟩ := e
        exact .inr (.inr (.inr ⟨l, ps.flatten ++ r, ps, hc, e, ⟨hn, hp, rfl⟩, hf⟩))
    by_cases h1 : c = 1
    · subst h1
      rw [if_pos g0]
      by_cases hl : (((1 : UInt8) :: b1 :: t).length : Int) < 9
      · rw [if_pos hl]
        refine .inr ⟨fun v r e hv => ?_, rfl⟩
        rcases kinds v r e hv with ⟨_, h⟩ | ⟨h, _⟩ | ⟨h, _⟩ | ⟨_, _, _, h, _⟩
        · simp at hl; omega
        · simp at h
        · simp at h
        · simp at h
      · rw [if_neg hl]
        refine .inl ⟨1 :: b1 :: t.take 7, t.drop 7, 1, by simp, .int k (b1 :: t.take 7) (by simp at hl ⊢; omega), ?_⟩
        simp at hl
        simp [prt, gi_0]; omega
    · rw [if_neg (by rw [g0]; exact h1)]
      by_cases h2 : c = 2
      · subst h2
        rw [if_pos g0, need_pos (by omega)]
        by_cases hb : 1 < gi ((2 : UInt8) :: b1 :: t) 1
        · rw [if_pos hb]
          refine .inr ⟨fun v r e hv => ?_, rfl⟩
          rw [g1, UInt8.lt_iff_toNat_lt] at hb
          rcases kinds v r e hv with ⟨h, _⟩ | ⟨_, h⟩ | ⟨h, _⟩ | ⟨_, _, _, h, _⟩
          · simp at h
          · simp at hb; omega
          · simp at h
          · simp at h
        · rw [if_neg hb]
          rw [g1, UInt8.lt_iff_toNat_lt] at hb
          exact .inl ⟨[2, b1], t, 1, rfl, .bool k b1 (by simp at hb; omega), by simp [prt, gi_0]⟩
      · rw [if_neg (by rw [g0]; exact h2)]
        have noK : ¬ c = 10 → ¬ (3 ≤ c.toNat ∧ c.toNat ≤ 9) → ∀ v r, c :: b1 :: t = v ++ r → ¬ IsV (k + 1) v := fun h10 hc v r e hv => by
          rcases kinds v r e hv with ⟨h, _⟩ | ⟨h, _⟩ | ⟨h, _⟩ | ⟨_, _, _, h, _⟩
          · exact h1 h
          · exact h2 h
          · exact h10 h
          · exact hc h
        by_cases hl : ((c :: b1 :: t).length : Int) < 3
        · rw [if_pos hl, if_pos trivial]
          refine .inr ⟨fun v r e hv => ?_, rfl⟩
          rw [hlen] at hl
          rcases kinds v r e hv with ⟨h, _⟩ | ⟨h, _⟩ | ⟨_, h⟩ | ⟨_, _, _, _, h, _⟩
          · exact h1 h
          · exact h2 h
          · omega
          · rw [h] at hl; simp at hl; omega
        · rw [if_neg hl]
          obtain ⟨l, u, rfl⟩ : ∃ l u, t = l :: u := by cases t with | nil => simp at hl | cons l u => exact ⟨l, u, rfl⟩
          by_cases hc3 : (UInt8.toNat (gi (c :: b1 :: l :: u) 0) : Int) < 3
          · rw [if_pos hc3, if_pos trivial]
            rw [g0] at hc3
            exact .inr ⟨noK (fun h => by rw [h] at hc3; simp at hc3) (by omega), rfl⟩
          · rw [if_neg hc3]
            rw [g0] at hc3
            by_cases hc10 : (10 : Int) < (UInt8.toNat (gi (c :: b1 :: l :: u) 0) : Int)
            · rw [if_pos hc10]
              rw [g0] at hc10
              exact .inr ⟨noK (fun h => by rw [h] at hc10; simp at hc10) (by omega), rfl⟩
            · rw [if_neg hc10]
              rw [g0] at hc10
              by_cases h10 : c = 10
              · subst h10
                rw [if_pos g0]
                exact .inl ⟨[10, b1, l], u, 1, rfl, .name k b1 l, by simp [prt, gi_0]⟩
              · rw [if_neg (by rw [g0]; exact h10)]
                have hc : 3 ≤ c.toNat ∧ c.toNat ≤ 9 := by
                  have : c.toNat ≠ 10 := fun h => h10 (u8_inj (by rw [h]; rfl))
                  omega
                have hlen3 : (c :: b1 :: l :: u).length = u.length + 3 := rfl
                have g2 : gi (c :: b1 :: l :: u) 2 = l := rfl
                rw [hlen3, need_pos (by omega), need_pos (by omega)]
                have kc : ∀ v r, c :: b1 :: l :: u = v ++ r → IsV (k + 1) v → ∃ ps, Row k (b1.toNat * 256 + l.toNat) u ps r ∧ formedB c ps = true := by
                  intro v r e hv
                  rcases kinds v r e hv with ⟨h, _⟩ | ⟨h, _⟩ | ⟨h, _⟩ | ⟨l', u', ps, _, h, h'⟩
                  · exact absurd h h1
                  · exact absurd h h2
                  · exact absurd h h10
                  · simp only [List.cons.injEq] at h
                    obtain ⟨rfl, rfl⟩ := h
                    exact ⟨ps, h'⟩
                have hx : UInt8.toNat b1 < 256 := UInt8.toNat_lt b1
                have hy : UInt8.toNat l < 256 := UInt8.toNat_lt l
                have ek : i64 (((k + 1 : Nat) : Int) - 1) = (k : Int) := by rw [i64_id (by omega)]; omega
                have hsl : u.length + 3 ≤ 100000000 := by simpa using hs
                have loop : ∀ (K : Int → Int → List (List UInt8) → Option (Int × List (List UInt8) × Int)) (m i q : Nat) (x12 : Int) (ps' : List (List UInt8)) (u' : List UInt8), i + m = b1.toNat * 256 + l.toNat → m < q → ps'.length = i → (∀ p ∈ ps', IsV k p) → u = ps'.flatten ++ u' →
                    (∃ qs r d, Row k m u' qs r ∧ m_ref9_walk_L2 (m_ref9_walk_S n).1 (c :: b1 :: l :: u) ((k + 1 : Nat) : Int) true K q ((3 + ps'.flatten.length : Nat) : Int) x12 ps' i = K ((3 + (ps' ++ qs).flatten.length : Nat) : Int) d (ps' ++ qs)) ∨
                    ((∀ qs r, ¬ Row k m u' qs r) ∧ m_ref9_walk_L2 (m_ref9_walk_S n).1 (c :: b1 :: l :: u) ((k + 1 : Nat) : Int) true K q ((3 + ps'.flatten.length : Nat) : Int) x12 ps' i = some (0, [], 0)) := by
                  intro K m
                  induction m with
                  | zero =>
                    intro i q x12 ps' u' hi hq hl' hp' hu
                    obtain ⟨q, rfl⟩ : ∃ k, q = k + 1 := ⟨q - 1, by omega⟩
                    refine .inl ⟨[], u', x12, ⟨rfl, by simp, by simp⟩, ?_⟩
                    rw [m_ref9_walk_L2, m_ref9_walk_B2, g1, g2, i64_step, if_neg (by omega), List.append_nil]
                  | succ m ih =>
                    intro i q x12 ps' u' hi hq hl' hp' hu
                    obtain ⟨q, rfl⟩ : ∃ k, q = k + 1 := ⟨q - 1, by omega⟩
                    have hul : u.length = ps'.flatten.length + u'.length := by rw [hu]; simp
                    have hdrop : List.drop (3 + ps'.flatten.length) (c :: b1 :: l :: u) = u' := by
                      rw [show 3 + ps'.flatten.length = ps'.flatten.length + 3 by omega]
                      simp only [List.drop_succ_cons]
                      rw [hu, List.drop_left]
                    rw [m_ref9_walk_L2, m_ref9_walk_B2, g1, g2, i64_step, if_pos (by omega), hlen3, need_pos (by omega), Int.toNat_natCast, hdrop, ek]
                    rcases rWalk k (by omega) n (by omega) u' (by omega) with ⟨v, w, d, hv1, hv2, hv3⟩ | ⟨hno, h0'⟩
                    · have hvl := hv2.sh.len
                      have hw : u'.length = v.length + w.length := by rw [hv1]; simp
                      have e1 : i64 (((3 + ps'.flatten.length : Nat) : Int) + (v.length : Int)) = ((3 + (ps' ++ [v]).flatten.length : Nat) : Int) := by rw [i64_id (by omega)]; simp; omega
                      have e2 : 3 + (ps' ++ [v]).flatten.length = 3 + ps'.flatten.length + v.length := by simp; omega
                      have e3 : List.take v.length u' = v := by rw [hv1, List.take_left]
                      rw [hv3, bnd1_mk]
                      simp only []
                      rw [if_neg (by omega), e1, need_pos (by omega), Int.toNat_natCast, show 3 + (ps' ++ [v]).flatten.length - (3 + ps'.flatten.length) = v.length by omega, e3, need_pos (by simp; omega), i64_succ (by omega)]
                      rcases ih (i + 1) q (max x12 d) (ps' ++ [v]) w (by omega) (by omega) (by simp [hl']) (fun p hp => by
                        rcases List.mem_append.1 hp with h | h
                        · exact hp' p h
                        · rw [List.mem_singleton.1 h]; exact hv2) (by rw [hu, hv1]; simp) with ⟨qs, r, d', hr, he⟩ | ⟨hno, he⟩
                      · refine .inl ⟨v :: qs, r, d', ⟨by simp [hr.1], fun x hx => ?_, by rw [hv1, hr.2.2]; simp⟩, ?_⟩
                        · rcases List.mem_cons.1 hx with rfl | hx
                          · exact hv2
                          · exact hr.2.1 x hx
                        · rw [he]; simp
                      · refine .inr ⟨fun qs r hr => ?_, he⟩
                        obtain ⟨qs', _, hr'⟩ := Row.step hv2 hv1 qs r hr
                        exact hno qs' r hr'
                    · rw [h0', bnd1_mk]
                      simp only [if_true]
                      refine .inr ⟨fun qs r hr => ?_, trivial⟩
                      obtain ⟨h1', h2', h3'⟩ := hr
                      match qs, h1' with
                      | x :: qs', _ => exact hno x (qs'.flatten ++ r) (by rw [h3']; simp) (h2' x (by simp))
                rcases loop _ (b1.toNat * 256 + l.toNat) 0 FU 0 [] u (by omega) (by omega) rfl (by simp) rfl with ⟨qs, r, d, hr, he⟩ | ⟨hno, he⟩
                · rw [show ((3 + ([] : List (List UInt8)).flatten.length : Nat) : Int) = 3 from rfl, show ((0 : Nat) : Int) = 0 from rfl] at he
                  have hql : u.length = qs.flatten.length + r.length := by rw [hr.2.2]; simp
                  have ho : ∀ p ∈ qs, ∀ q ∈ qs, (m_ref9_walk_S n).2 p q = some (cmpW p q) := fun p h q h' => by
                    have f1 := flat_mem_len h
                    have f2 := flat_mem_len h'
                    rw [rOrderS k p q (hr.2.1 p h).sh (hr.2.1 q h').sh (by omega) (by omega) (by omega) n (by omega), cmpW_eq (hr.2.1 p h).sh (hr.2.1 q h').sh (by omega)]
                  rw [he, List.nil_append]
                  simp only [if_true]
                  rw [need_pos (by omega), g0, rParted (k := k) _ _ c qs (fun p hp => (hr.2.1 p hp).sh) (by rw [hr.1]; omega) ho, bnd1_mk]
                  cases hf : formedB c qs with
                  | true =>
                    refine .inl ⟨c :: b1 :: l :: qs.flatten, r, i64 (d + 1), by rw [hr.2.2]; simp, .comp k c b1 l qs hc hr.1 hr.2.1 hf, ?_⟩
                    rw [prt_comp hc hr.1 (fun p hp => (hr.2.1 p hp).sh) (by omega)]
                    simp only [Bool.not_true, Bool.false_eq_true, if_false]
                    congr 2
                    simp only [List.length_cons]; omega
                  | false =>
                    refine .inr ⟨fun v r' e hv => ?_, by simp⟩
                    obtain ⟨ps, hr', hf'⟩ := kc v r' e hv
                    have := (Sh.flat (fun p hp => (hr.2.1 p hp).sh) (fun p hp => (hr'.2.1 p hp).sh) (by rw [hr.1, hr'.1]) (by rw [← hr.2.2]; exact hr'.2.2)).1
                    rw [this, hf'] at hf; cases hf
                · rw [show ((3 + ([] : List (List UInt8)).flatten.length : Nat) : Int) = 3 from rfl, show ((0 : Nat) : Int) = 0 from rfl] at he
                  rw [he]
                  refine .inr ⟨fun v r' e hv => ?_, rfl⟩
                  obtain ⟨ps, hr', _⟩ := kc v r' e hv
                  exact hno ps r' hr'
end Go.Proofs.YtdppkpiagdaigaaGreatDoor
/- Values: valid, compared, sorted: program and reference agree. -/
namespace Go.Proofs.YtdppkpiagdaigaaGreatDoor
attribute [local irreducible] FU

/-- Valid values. -/
def Vd (v : List UInt8) : Prop := IsV 32 v ∧ v.length ≤ 131072
noncomputable def vldB (v : List UInt8) : Bool := by classical exact decide (Vd v)
theorem vldB_iff {v : List UInt8} : vldB v = true ↔ Vd v := by unfold vldB; simp
theorem vldB_no {v : List UInt8} (h : ¬ Vd v) : vldB v = false := by cases e : vldB v with | true => exact absurd (vldB_iff.1 e) h | false => rfl
theorem Vd.ne {v : List UInt8} (h : Vd v) : v ≠ [] := fun e => by have := h.1.sh.len; rw [e] at this; simp at this
theorem vValid (v : List UInt8) : m_value_Valid v = some (vldB v) := by
  have hFU := FU_ge
  unfold m_value_Valid
  rw [jn_eq]
  by_cases h0 : v = []
  · rw [if_neg (fun h => h h0), vldB_no (fun h => h.ne h0)]
  rw [if_pos h0]
  by_cases hl : (v.length : Int) ≤ 131072
  · rw [if_pos hl]
    have h := vLength 32 (Nat.le_refl _) FU (by omega) v (by omega)
    rw [show (33 : Int) - ((32 : Nat) : Int) = 1 from rfl] at h
    unfold m_value_length
    rcases h with ⟨w, r, e, hv, h⟩ | ⟨hno, h⟩
    · rw [h, bnd1_mk]
      congr 1
      by_cases hr : r = []
      · subst hr
        rw [List.append_nil] at e
        subst e
        rw [vldB_iff.2 ⟨hv, by omega⟩]; simp
      · have : ¬ Vd v := fun hh => by
          have := (hv.sh.uniq hh.1.sh r [] (by rw [List.append_nil, ← e])).2
          exact hr this
        rw [vldB_no this]
        have hlr : 0 < r.length := List.length_pos_iff.2 hr
        rw [e]; simp; omega
    · rw [h, bnd1_mk, vldB_no (fun hh => hno v [] (by simp) hh.1)]
      congr 1
      have : 0 < v.length := List.length_pos_iff.2 h0
      simp; omega
  · rw [if_neg hl, vldB_no (fun h => hl (by have := h.2; omega))]
theorem rValid (v : List UInt8) : m_ref9_Valid v = some (vldB v) := by
  have hFU := FU_ge
  unfold m_ref9_Valid
  by_cases hl : (131072 : Int) < v.length
  · rw [if_pos hl, vldB_no (fun h => by have := h.2; omega)]
  · rw [if_neg hl]
    unfold m_ref9_read m_ref9_walk
    have h := rWalk 32 (Nat.le_refl _) FU (by omega) v (by omega)
    rw [show ((32 : Nat) : Int) = 32 from rfl] at h
    rcases h with ⟨w, r, d, e, hv, h⟩ | ⟨hno, h⟩
    · rw [h, bnd1_mk, bnd1_mk, jn_eq]
      simp only []
      have hw := hv.sh.len
      rw [if_pos (by omega)]
      congr 1
      by_cases hr : r = []
      · subst hr
        rw [List.append_nil] at e
        subst e
        rw [vldB_iff.2 ⟨hv, by omega⟩]; simp
      · have : ¬ Vd v := fun hh => hr (hv.sh.uniq hh.1.sh r [] (by rw [List.append_nil, ← e])).2
        rw [vldB_no this]
        have hlr : 0 < r.length := List.length_pos_iff.2 hr
        rw [e]; simp; omega
    · rw [h, bnd1_mk, bnd1_mk, jn_eq, vldB_no (fun hh => hno v [] (by simp) hh.1)]
      simp only []
      rw [if_neg (by omega)]
noncomputable def kindW (v : List UInt8) : Int := if vldB v = true then ((gi v 0).toNat : Int) else 0
theorem vKind (v : List UInt8) : m_value_Kind v = some (kindW v) := by
  unfold m_value_Kind kindW
  rw [vValid, bnd1_mk]
  cases h : vldB v with
  | true => have := (vldB_iff.1 h).1.sh.len; rw [if_neg (by simp), if_pos rfl, need_len (by omega)]
  | false => rfl
theorem rKind (v : List UInt8) : m_ref9_Kind v = some (kindW v) := by
  unfold m_ref9_Kind kindW
  rw [rValid, bnd1_mk]
  cases h : vldB v with
  | true => have := (vldB_iff.1 h).1.sh.len; rw [if_neg (by simp), if_pos rfl, need_len (by omega)]
  | false => rfl
noncomputable def prtW (v : List UInt8) : List (List UInt8) := if vldB v = true then prt v else []
theorem vPartsW (v : List UInt8) : m_value_Parts v = some (prtW v) := by
  unfold m_value_Parts prtW
  rw [vKind, bnd1_mk]
  unfold kindW
  cases h : vldB v with
  | false =>
    simp only [Bool.false_eq_true, if_false]
    have := vSimple 0
    rw [show ((0 : UInt8).toNat : Int) = 0 from rfl] at this
    rw [this, bnd1_mk]; rfl
  | true =>
    obtain ⟨hv, hl⟩ := vldB_iff.1 h
    simp only [if_true, vSimple, bnd1_mk]
    by_cases hs : gi v 0 = 1 ∨ gi v 0 = 2 ∨ gi v 0 = 10
    · rw [if_pos (decide_eq_true (.inr hs))]; unfold prt; rw [if_pos hs]
    · have h1 : ¬ gi v 0 = 1 := fun h => hs (.inl h)
      have h2 : ¬ (gi v 0 = 2 ∨ gi v 0 = 10) := fun h => hs (.inr h)
      obtain ⟨c, x, y, ps, rfl, hn, hp, _, hc⟩ := hv.sh.kindc h1 h2
      have h0 : ¬ gi (c :: x :: y :: ps.flatten) 0 = 0 := by rw [gi_0]; rintro rfl; simp at hc
      rw [if_neg (fun h => (of_decide_eq_true h).elim h0 hs), vParts hp (by omega) (by simp at hl ⊢; omega), bnd1_mk, prt_comp hc hn hp (by omega)]
theorem rPartsW (v : List UInt8) : m_ref9_Parts v = some (prtW v) := by
  have hFU := FU_ge
  unfold m_ref9_Parts prtW
  rw [rValid, bnd1_mk]
  cases h : vldB v with
  | false => rfl
  | true =>
    obtain ⟨hv, hl⟩ := vldB_iff.1 h
    obtain ⟨d, hd⟩ := rWalk0 32 (by omega) v hv.sh FU [] (by omega) (by simp; omega)
    rw [List.append_nil, show ((32 : Nat) : Int) = 32 from rfl] at hd
    unfold m_ref9_walk
    simp only [Bool.not_true, Bool.false_eq_true, if_false, if_true, hd, bnd1_mk]

/-! ### Comparing -/
noncomputable def cmpC (a b : List UInt8) : Int := if vldB a = true ∧ vldB b = true then cmpW a b else if vldB a = true then 1 else if vldB b = true then -1 else strCmp a b
theorem vCompareW (a b : List UInt8) : m_value_Compare a b = some (cmpC a b) := by
  unfold m_value_Compare cmpC
  rw [vValid, bnd1_mk, vValid, bnd1_mk, jn_eq]
  cases ha : vldB a <;> cases hb : vldB b
  · simp [cStr, bnd1_mk]
  · simp
  · simp
  · obtain ⟨h1, l1⟩ := vldB_iff.1 ha
    obtain ⟨h2, l2⟩ := vldB_iff.1 hb
    simp only [if_true, and_self]
    rw [vCompare h1.sh h2.sh (by omega) (by omega) (by omega), bnd1_mk]; rfl
theorem rCompareW (a b : List UInt8) : m_ref9_Compare a b = some (cmpC a b) := by
  have hFU := FU_ge
  unfold m_ref9_Compare cmpC
  rw [rValid, bnd1_mk, rValid, bnd1_mk, jn_eq]
  cases ha : vldB a <;> cases hb : vldB b
  · simp only [Bool.false_eq_true, if_false, and_self, not_true_eq_false, rSignStr, bnd1_mk]
  · simp [rSign, bnd1_mk]
  · simp [rSign, bnd1_mk]
  · obtain ⟨h1, l1⟩ := vldB_iff.1 ha
    obtain ⟨h2, l2⟩ := vldB_iff.1 hb
    simp only [if_true, and_self]
    unfold m_ref9_order
    rw [rOrderS 32 a b h1.sh h2.sh (by omega) (by omega) (by omega) FU (by omega), bnd1_mk]; rfl
theorem cmpW_TO : TO (Sh 32) cmpW := cmpV_TO 32
theorem cmpC_TO : TO (fun _ => True) cmpC := by
  have hk : TO (fun _ : Bool => True) (fun a b : Bool => if a = b then 0 else if a = true then 1 else -1) := by
    refine ⟨fun a b _ _ => ?_, fun a b _ _ => ?_, fun a b d _ _ _ => ?_, fun a b _ _ => ?_⟩
    · cases a <;> cases b <;> simp
    · cases a <;> cases b <;> simp
    · cases a <;> cases b <;> cases d <;> simp
    · cases a <;> cases b <;> simp
  refine TO.byKey vldB hk (fun K => ?_) (fun a b _ _ hne => ?_)
  · cases K with
    | true => exact (cmpW_TO.sub (Q := fun v => True ∧ vldB v = true) (fun v hv => (vldB_iff.1 hv.2).1.sh)).congr (fun a b ha hb => by unfold cmpC; rw [if_pos ⟨ha.2, hb.2⟩])
    | false => exact (TO_str.sub (Q := fun v => True ∧ vldB v = false) (fun _ _ => trivial)).congr (fun a b ha hb => by unfold cmpC; simp [ha.2, hb.2])
  · unfold cmpC
    cases ha : vldB a <;> cases hb : vldB b
    · rw [ha, hb] at hne; exact absurd rfl hne
    · simp
    · simp
    · rw [ha, hb] at hne; exact absurd rfl hne
theorem cmpC_self (a : List UInt8) : cmpC a a = 0 := cmpC_TO.self a trivial
theorem cmpC_trans {a b c : List UInt8} (h : cmpC a b < 0) (h' : cmpC b c < 0) : cmpC a c < 0 := cmpC_TO.trans a b c trivial trivial trivial h h'
theorem cmpC_anti (a b : List UInt8) : cmpC b a = - cmpC a b := cmpC_TO.anti a b trivial trivial
theorem cmpC_eq {a b : List UInt8} : cmpC a b = 0 ↔ a = b := cmpC_TO.eq a b trivial trivial
noncomputable def cmpS (a b : List UInt8) : Option Int := some (cmpC a b)
theorem cmpC_ok : CmpOk cmpS := by
  have e : ∀ x y, ltC cmpS x y = decide (cmpC x y < 0) := fun x y => rfl
  refine ⟨fun x y => ⟨_, rfl⟩, fun x => ?_, fun x y z => ?_, fun x y z => ?_, fun x y => ?_⟩
  · rw [e, cmpC_self]; rfl
  · simp only [e, decide_eq_true_eq]; exact cmpC_trans
  · simp only [e, decide_eq_false_iff_not]
    intro h1 h2 h3
    have a1 := cmpC_anti x y
    have a2 := cmpC_anti y z
    by_cases e1 : cmpC x y = 0
    · rw [cmpC_eq] at e1; subst e1; exact h2 h3
    · have := cmpC_trans (a := y) (b := x) (c := z) (by omega) h3
      exact h2 this
  · simp only [e, decide_eq_false_iff_not]
    intro h1 h2
    have a1 := cmpC_anti x y
    exact cmpC_eq.1 (by omega)
abbrev SLC (l : List (List UInt8)) : Prop := l.Pairwise (fun a b => cmpC a b < 0)
theorem slc_ext {a b : List (List UInt8)} (ha : SLC a) (hb : SLC b) (h : ∀ x, x ∈ a ↔ x ∈ b) : a = b :=
  SL_ext (lt := fun a b => cmpC a b < 0) (fun a => by rw [cmpC_self]; omega) (fun h h' => cmpC_trans h h') ha hb h
noncomputable def sortW (l : List (List UInt8)) : List (List UInt8) := compactL (sortC cmpS l)
theorem sortW_spec (l : List (List UInt8)) : SLC (sortW l) ∧ (∀ x, x ∈ sortW l ↔ x ∈ l) ∧ (sortW l).length ≤ l.length := by
  have e : ∀ x y, ltC cmpS x y = decide (cmpC x y < 0) := fun x y => rfl
  unfold sortW sortC
  refine ⟨compactL_sorted (lt := fun a b => cmpC a b < 0) (fun a => by rw [cmpC_self]; omega) (fun h h' => cmpC_trans h h') _ ?_, fun x => by rw [compactL_mem]; exact List.mem_mergeSort, Nat.le_trans (compactL_len _) (by rw [List.length_mergeSort]; exact Nat.le_refl _)⟩
  have h := List.pairwise_mergeSort (le := fun x y : List UInt8 => !ltC cmpS y x) (fun a b c h1 h2 => by
    simp only [Bool.not_eq_true'] at h1 h2 ⊢
    exact cmpC_ok.ntrans c b a h2 h1) (fun a b => by
    simp only [Bool.or_eq_true, Bool.not_eq_true', e, decide_eq_false_iff_not]
    have := cmpC_anti a b
    omega) l
  refine h.imp fun {a b} hab => ?_
  simp only [Bool.not_eq_true', e, decide_eq_false_iff_not] at hab
  have := cmpC_anti a b
  by_cases h0 : cmpC a b = 0
  · exact .inl (cmpC_eq.1 h0)
  · exact .inr (by omega)
end Go.Proofs.YtdppkpiagdaigaaGreatDoor
/- Sorting values: program and reference agree. -/
namespace Go.Proofs.YtdppkpiagdaigaaGreatDoor
attribute [local irreducible] FU
theorem m_slices_Compact_L_api_Value_api_Value_in (l : List (List UInt8)) (hl : l.length ≤ 1099511627776) (i : Nat) (K : List (List UInt8) → Int → Option (List (List UInt8))) : ∀ (m j n : Nat) (x0 : List (List UInt8)) (x3 : Nat), i + j + m = l.length → 1 ≤ j → m < n → x0.length = l.length → x3 + 1 ≤ i + j → x0.take x3 = compactL (l.take (i + j)) → x3 = (compactL (l.take (i + j))).length → (∀ q, i + j ≤ q + 1 → x0[q]? = l[q]?) →
    ∃ (x0' : List (List UInt8)) (x3' : Nat), m_slices_Compact_L_api_Value_api_Value_L26 l i K n x0 x3 j = K x0' x3' ∧ x0'.length = l.length ∧ x3' ≤ l.length ∧ x0'.take x3' = compactL l := by
  intro m
  induction m with
  | zero =>
    intro j n x0 x3 hi hj hn hx h3 ht h3' hq
    obtain ⟨n, rfl⟩ : ∃ k, n = k + 1 := ⟨n - 1, by omega⟩
    refine ⟨x0, x3, ?_, hx, by omega, ?_⟩
    · rw [m_slices_Compact_L_api_Value_api_Value_L26, m_slices_Compact_L_api_Value_api_Value_B26, if_neg (by omega)]
    · rw [ht, show i + j = l.length by omega, List.take_length]
  | succ m ih =>
    intro j n x0 x3 hi hj hn hx h3 ht h3' hq
    obtain ⟨n, rfl⟩ : ∃ k, n = k + 1 := ⟨n - 1, by omega⟩
    have hlt : i + j < l.length := by omega
    have g1 : gi x0 ((i : Int) + (j : Int)) = l[i + j] := by
      rw [show (i : Int) + (j : Int) = ((i + j : Nat) : Int) by omega, gi_nat (by omega)]
      have := hq (i + j) (by omega)
      rw [List.getElem?_eq_getElem (by omega), List.getElem?_eq_getElem hlt] at this
      exact Option.some.inj this
    have g2 : gi x0 ((i : Int) + ((j : Int) - 1)) = l[i + j - 1] := by
      rw [show (i : Int) + ((j : Int) - 1) = ((i + j - 1 : Nat) : Int) by omega, gi_nat (by omega)]
      have := hq (i + j - 1) (by omega)
      rw [List.getElem?_eq_getElem (by omega), List.getElem?_eq_getElem (by omega)] at this
      exact Option.some.inj this
    have hsn : compactL (l.take (i + (j + 1))) = cstep (compactL (l.take (i + j))) l[i + j] := by
      rw [show i + (j + 1) = (i + j) + 1 by omega, ← List.take_append_getElem hlt, compactL_snoc]
    have hla : (compactL (l.take (i + j))).getLast? = some l[i + j - 1] := by
      rw [compactL_last, List.getLast?_eq_getElem?]
      simp only [List.length_take]
      rw [show min (i + j) l.length - 1 = i + j - 1 by omega, List.getElem?_take_of_lt (by omega), List.getElem?_eq_getElem (by omega)]
    rw [m_slices_Compact_L_api_Value_api_Value_L26, m_slices_Compact_L_api_Value_api_Value_B26]
    simp (disch := omega) only [if_pos, jn_eq, need_pos, i64_sub1, i64_succ, g1, g2]
    by_cases he : l[i + j] = l[i + j - 1]
    · rw [if_neg (by simp [he])]
      refine ih (j + 1) n x0 x3 (by omega) (by omega) (by omega) hx (by omega) ?_ ?_ (fun q h => hq q (by omega))
      · rw [ht, hsn, cstep, if_pos (by rw [hla, he])]
      · rw [hsn, cstep, if_pos (by rw [hla, he])]; exact h3'
    · rw [if_pos he]
      simp (disch := omega) only [need_pos, Int.toNat_natCast, i64_succ]
      have hc : cstep (compactL (l.take (i + j))) l[i + j] = compactL (l.take (i + j)) ++ [l[i + j]] := by
        rw [cstep, if_neg]
        rw [hla]; exact fun e => he (Option.some.inj e).symm
      refine ih (j + 1) n _ (x3 + 1) (by omega) (by omega) (by omega) (by simp [hx]) (by omega) ?_ ?_ (fun q h => ?_)
      · rw [hsn, hc, ← ht]
        rw [List.take_succ_eq_append_getElem (by simp; omega)]
        congr 1
        · rw [List.take_set_of_le (by omega)]
        · simp
      · rw [hsn, hc]; simp; omega
      · rw [List.getElem?_set_ne (by omega)]
        exact hq q (by omega)
theorem m_slices_Compact_L_api_Value_api_Value_out (l : List (List UInt8)) (hl : l.length ≤ 1099511627776) : ∀ (m i n : Nat), i + m = l.length → 1 ≤ i → m < n → compactL (l.take i) = l.take i →
    m_slices_Compact_L_api_Value_api_Value_L14 l (fun _ => some l) n i = some (compactL l) := by
  intro m
  induction m with
  | zero =>
    intro i n hi h1 hn hc
    obtain ⟨n, rfl⟩ : ∃ k, n = k + 1 := ⟨n - 1, by omega⟩
    rw [m_slices_Compact_L_api_Value_api_Value_L14, m_slices_Compact_L_api_Value_api_Value_B14, if_neg (by omega)]
    rw [show i = l.length by omega, List.take_length] at hc
    rw [hc]
  | succ m ih =>
    intro i n hi h1 hn hc
    obtain ⟨n, rfl⟩ : ∃ k, n = k + 1 := ⟨n - 1, by omega⟩
    have hlt : i < l.length := by omega
    have g2 : gi l ((i : Int) - 1) = l[i - 1] := by
      rw [show (i : Int) - 1 = ((i - 1 : Nat) : Int) by omega, gi_nat (by omega)]
    have hla : (l.take i).getLast? = some l[i - 1] := by
      rw [List.getLast?_eq_getElem?]
      simp only [List.length_take]
      rw [show min i l.length - 1 = i - 1 by omega, List.getElem?_take_of_lt (by omega), List.getElem?_eq_getElem (by omega)]
    have hsn : compactL (l.take (i + 1)) = cstep (l.take i) l[i] := by
      rw [← List.take_append_getElem hlt, compactL_snoc, hc]
    rw [m_slices_Compact_L_api_Value_api_Value_L14, m_slices_Compact_L_api_Value_api_Value_B14]
    simp (disch := omega) only [if_pos, jn_eq, need_pos, i64_sub1, i64_succ, g2, gi_nat]
    by_cases he : l[i] = l[i - 1]
    · rw [if_pos he]
      have hct : compactL (l.take (i + 1)) = l.take i := by rw [hsn, cstep, if_pos (by rw [hla, he])]
      have hFU := FU_ge
      obtain ⟨x0', x3', e1, e2, e3, e4⟩ := m_slices_Compact_L_api_Value_api_Value_in l hl i (fun x0_j694 x3_j694 => need ((0 : Int) ≤ x3_j694 ∧ x3_j694 ≤ (List.length x0_j694 : Int) ∧ (List.length x0_j694 : Int) ≤ (List.length x0_j694 : Int)) (need (0 ≤ x3_j694 ∧ x3_j694 ≤ (List.length (List.take (Int.toNat x3_j694) x0_j694 ++ List.replicate (Int.toNat (List.length x0_j694 : Int) - Int.toNat x3_j694) ([] : (List UInt8)) ++ List.drop (Int.toNat x3_j694 + (Int.toNat (List.length x0_j694 : Int) - Int.toNat x3_j694)) x0_j694) : Int)) (some (List.take (Int.toNat x3_j694) (List.take (Int.toNat x3_j694) x0_j694 ++ List.replicate (Int.toNat (List.length x0_j694 : Int) - Int.toNat x3_j694) ([] : (List UInt8)) ++ List.drop (Int.toNat x3_j694 + (Int.toNat (List.length x0_j694 : Int) - Int.toNat x3_j694)) x0_j694)))))
        (l.length - i - 1) 1 FU l i (by omega) (by omega) (by omega) rfl (by omega) hct.symm (by rw [hct]; simp; omega) (fun q _ => rfl)
      rw [show ((1 : Nat) : Int) = 1 from rfl] at e1
      rw [e1]
      have hlen : (List.take x3' x0' ++ List.replicate (x0'.length - x3') ([] : (List UInt8)) ++ List.drop (x3' + (x0'.length - x3')) x0').length = x0'.length := by simp; omega
      simp only [Int.toNat_natCast, hlen]
      rw [need_pos (by omega), need_pos (by omega), List.append_assoc, List.take_append_of_le_length (by simp; omega), List.take_take, Nat.min_self, e4]
    · rw [if_neg he]
      refine ih (i + 1) n (by omega) (by omega) (by omega) ?_
      rw [hsn, cstep, if_neg, List.take_append_getElem hlt]
      rw [hla]; exact fun e => he (Option.some.inj e).symm
theorem m_slices_Compact_L_api_Value_api_Value_eq (l : List (List UInt8)) (hl : l.length ≤ 1099511627776) : m_slices_Compact_L_api_Value_api_Value l = some (compactL l) := by
  unfold m_slices_Compact_L_api_Value_api_Value
  have hFU := FU_ge
  by_cases h : (List.length l : Int) < 2
  · rw [if_pos h]
    congr 1
    match l, h with
    | [], _ => rfl
    | [x], _ => simp [compactL, cstep]
    | x :: y :: t, h => simp at h; omega
  · rw [if_neg h, jn_eq]
    have h1 : compactL (l.take 1) = l.take 1 := by
      match l with
      | [] => rfl
      | x :: t => simp [compactL, cstep]
    exact m_slices_Compact_L_api_Value_api_Value_out l hl (l.length - 1) 1 FU (by omega) (by omega) (by omega) h1


theorem vClone (l : List (List UInt8)) (hl : l.length ≤ 100000000) : m_slices_Clone_L_api_Value_api_Value l = some l := by
  unfold m_slices_Clone_L_api_Value_api_Value
  rw [nilc_eq (fun h => by subst h; simp [need]), need_pos (by simp; omega)]
  simp
theorem vSort (l : List (List UInt8)) (hl : l.length ≤ 100000000) : m_value_Sort l = some (sortW l) := by
  unfold m_value_Sort
  have hc : m_value_Compare = cmpS := funext fun a => funext fun b => vCompareW a b
  have hs := m_sortby_eq (c := cmpS) (xs := l) (by omega) cmpC_ok
  have hlen : (sortC cmpS l).length = l.length := List.length_mergeSort _
  rw [vClone l hl, bnd1_mk, hc, hs, bnd1_mk, m_slices_Compact_L_api_Value_api_Value_eq _ (by rw [hlen]; omega), bnd1_mk, vClip, bnd1_mk]
  rfl
/-- Moving up and storing is inserting. -/
theorem ins_eq {α : Type} (out : List α) (j : Nat) (hj : j ≤ out.length) (z x : α) :
    (List.take (j + 1) (out ++ [z]) ++ List.take (Nat.min ((out ++ [z]).length - j) ((out ++ [z]).length - (j + 1))) (List.drop j (out ++ [z])) ++ List.drop (j + 1 + Nat.min ((out ++ [z]).length - j) ((out ++ [z]).length - (j + 1))) (out ++ [z])).length = out.length + 1 ∧
    List.set (List.take (j + 1) (out ++ [z]) ++ List.take (Nat.min ((out ++ [z]).length - j) ((out ++ [z]).length - (j + 1))) (List.drop j (out ++ [z])) ++ List.drop (j + 1 + Nat.min ((out ++ [z]).length - j) ((out ++ [z]).length - (j + 1))) (out ++ [z])) j x = out.take j ++ [x] ++ out.drop j := by
  have hm : Nat.min ((out ++ [z]).length - j) ((out ++ [z]).length - (j + 1)) = out.length - j := by
    have : Nat.min ((out ++ [z]).length - j) ((out ++ [z]).length - (j + 1)) = min ((out ++ [z]).length - j) ((out ++ [z]).length - (j + 1)) := rfl
    rw [this]; simp; omega
  rw [hm]
  have h1 : List.drop (j + 1 + (out.length - j)) (out ++ [z]) = [] := List.drop_eq_nil_of_le (by simp; omega)
  have h2 : List.take (out.length - j) (List.drop j (out ++ [z])) = out.drop j := by
    rw [List.drop_append_of_le_length hj, List.take_left' (by simp)]
  rw [h1, h2, List.append_nil]
  refine ⟨by simp; omega, ?_⟩
  obtain ⟨y, hy⟩ : ∃ y, List.take (j + 1) (out ++ [z]) = out.take j ++ [y] := by
    by_cases h : j < out.length
    · exact ⟨out[j], by rw [List.take_append_of_le_length (by omega), List.take_append_getElem h]⟩
    · have : j = out.length := by omega
      subst this
      exact ⟨z, by rw [List.take_of_length_le (by simp), List.take_length]⟩
  rw [hy, List.append_assoc, List.append_assoc, List.set_append_right _ _ (by simp; omega)]
  congr 1
  have : j - (out.take j).length = 0 := by simp; omega
  rw [this]; rfl
/-- The place at which x belongs. -/
theorem rSort_place (l : List (List UInt8)) (out : List (List UInt8)) (i : Nat) (hi : i < l.length) (hl : l.length ≤ 100000000000) (ho : out.length ≤ 100000000000) (K : Int → Option (List (List UInt8))) : ∀ (k n : Nat), k ≤ out.length → k < n →
    ∃ j : Nat, j ≤ k ∧ m_ref9_Sort_L26 l out i K n k = K j ∧ (∀ q (h : q < out.length), j ≤ q → q < k → 0 < cmpC out[q] l[i]) ∧ (∀ h : j - 1 < out.length, 0 < j → ¬ 0 < cmpC out[j - 1] l[i]) := by
  intro k
  induction k with
  | zero =>
    intro n h1 h2
    obtain ⟨n, rfl⟩ : ∃ q, n = q + 1 := ⟨n - 1, by omega⟩
    refine ⟨0, Nat.le_refl _, ?_, fun q h h' h'' => by omega, fun h h' => by omega⟩
    rw [m_ref9_Sort_L26, m_ref9_Sort_B26]
    simp only [jn_eq]
    rw [if_neg (by simp), if_neg (by simp)]
  | succ k ih =>
    intro n h1 h2
    obtain ⟨n, rfl⟩ : ∃ q, n = q + 1 := ⟨n - 1, by omega⟩
    have e1 : i64 (((k + 1 : Nat) : Int) - 1) = (k : Int) := by rw [i64_id (by omega)]; omega
    rw [m_ref9_Sort_L26, m_ref9_Sort_B26]
    simp only [jn_eq]
    rw [if_pos (by omega), need_pos (by omega), e1, need_pos (by omega), gi_nat (by omega), gi_nat hi, rCompareW, bnd1_mk]
    by_cases hc : 0 < cmpC out[k] l[i]
    · rw [if_pos (decide_eq_true hc)]
      obtain ⟨j, j1, j2, j3, j4⟩ := ih n (by omega) (by omega)
      refine ⟨j, by omega, j2, fun q h h' h'' => ?_, j4⟩
      by_cases hq : q = k
      · subst hq; exact hc
      · exact j3 q h h' (by omega)
    · rw [if_neg (fun h => hc (of_decide_eq_true h))]
      exact ⟨k + 1, Nat.le_refl _, rfl, fun q h h' h'' => by omega, fun h h' => by simpa using hc⟩
theorem rSort_loop (l : List (List UInt8)) (hl : l.length ≤ 10000000000) : ∀ (m i n : Nat) (out : List (List UInt8)), i + m = l.length → m < n → SLC out → out.length ≤ i → (∀ x, x ∈ out ↔ x ∈ l.take i) →
    ∃ s, m_ref9_Sort_L14 l (fun x => some x) n out i = some s ∧ SLC s ∧ (∀ x, x ∈ s ↔ x ∈ l) := by
  have hFU := FU_ge
  intro m
  induction m with
  | zero =>
    intro i n out hi hn hs ho hm
    obtain ⟨n, rfl⟩ : ∃ q, n = q + 1 := ⟨n - 1, by omega⟩
    refine ⟨out, by rw [m_ref9_Sort_L14, m_ref9_Sort_B14, if_neg (by omega)], hs, fun x => ?_⟩
    rw [hm, show i = l.length by omega, List.take_length]
  | succ m ih =>
    intro i n out hi hn hs ho hm
    obtain ⟨n, rfl⟩ : ∃ q, n = q + 1 := ⟨n - 1, by omega⟩
    have hil : i < l.length := by omega
    have hmem : ∀ x, x ∈ l.take (i + 1) ↔ x ∈ l.take i ∨ x = l[i] := fun x => by
      rw [← List.take_append_getElem hil]; simp only [List.mem_append, List.mem_singleton]
    rw [m_ref9_Sort_L14, m_ref9_Sort_B14, if_pos (by omega)]
    simp only [jn_eq]
    obtain ⟨j, j1, j2, j3, j4⟩ := rSort_place l out i hil (by omega) (by omega) _ out.length FU (Nat.le_refl _) (by omega)
    rw [j2]
    have hpw := List.pairwise_iff_getElem.1 hs
    have go : (∀ a ∈ out.take j, cmpC a l[i] < 0) → ∃ s, need (List.length out + List.length [([] : List UInt8)] ≤ 137438953472) (need ((0 : Int) ≤ i64 ((j : Int) + 1) ∧ (i64 ((j : Int) + 1)) ≤ (List.length (out ++ ([([] : List UInt8)])) : Int) ∧ (List.length (out ++ ([([] : List UInt8)])) : Int) ≤ (List.length (out ++ ([([] : List UInt8)])) : Int)) (need ((0 : Int) ≤ (j : Int) ∧ (j : Int) ≤ (List.length (out ++ ([([] : List UInt8)])) : Int) ∧ (List.length (out ++ ([([] : List UInt8)])) : Int) ≤ (List.length (out ++ ([([] : List UInt8)])) : Int)) (need ((0 : Int) ≤ (i : Int) ∧ (i : Int) < (List.length l : Int)) (need ((0 : Int) ≤ (j : Int) ∧ (j : Int) < (List.length (List.take (Int.toNat (i64 ((j : Int) + 1))) (out ++ ([([] : List UInt8)])) ++ List.take (Nat.min (Int.toNat (List.length (out ++ ([([] : List UInt8)])) : Int) - Int.toNat (j : Int)) (Int.toNat (List.length (out ++ ([([] : List UInt8)])) : Int) - Int.toNat (i64 ((j : Int) + 1)))) (List.drop (Int.toNat (j : Int)) (out ++ ([([] : List UInt8)]))) ++ List.drop (Int.toNat (i64 ((j : Int) + 1)) + (Nat.min (Int.toNat (List.length (out ++ ([([] : List UInt8)])) : Int) - Int.toNat (j : Int)) (Int.toNat (List.length (out ++ ([([] : List UInt8)])) : Int) - Int.toNat (i64 ((j : Int) + 1))))) (out ++ ([([] : List UInt8)]))) : Int)) (m_ref9_Sort_L14 l (fun x => some x) n (List.set (List.take (Int.toNat (i64 ((j : Int) + 1))) (out ++ ([([] : List UInt8)])) ++ List.take (Nat.min (Int.toNat (List.length (out ++ ([([] : List UInt8)])) : Int) - Int.toNat (j : Int)) (Int.toNat (List.length (out ++ ([([] : List UInt8)])) : Int) - Int.toNat (i64 ((j : Int) + 1)))) (List.drop (Int.toNat (j : Int)) (out ++ ([([] : List UInt8)]))) ++ List.drop (Int.toNat (i64 ((j : Int) + 1)) + (Nat.min (Int.toNat (List.length (out ++ ([([] : List UInt8)])) : Int) - Int.toNat (j : Int)) (Int.toNat (List.length (out ++ ([([] : List UInt8)])) : Int) - Int.toNat (i64 ((j : Int) + 1))))) (out ++ ([([] : List UInt8)]))) (Int.toNat (j : Int)) l[i]) (i64 ((i : Int) + 1))))))) = some s ∧ SLC s ∧ (∀ x, x ∈ s ↔ x ∈ l) := by
      intro hA
      have e2 : i64 ((j : Int) + 1) = ((j + 1 : Nat) : Int) := by rw [i64_id (by omega)]; omega
      obtain ⟨q1, q2⟩ := ins_eq out j j1 ([] : List UInt8) l[i]
      have hlo : (out ++ [([] : List UInt8)]).length = out.length + 1 := by simp
      rw [need_pos (by simp; omega)]
      simp only [e2, Int.toNat_natCast]
      rw [need_pos (by rw [hlo]; omega), need_pos (by rw [hlo]; omega), need_pos (by omega), need_pos (by rw [q1]; omega), q2, i64_succ (by omega)]
      refine ih (i + 1) n _ (by omega) (by omega) ?_ (by simp; omega) (fun x => ?_)
      · have hsp : SLC (out.take j ++ out.drop j) := by rw [List.take_append_drop]; exact hs
        obtain ⟨p1, p2, p3⟩ := List.pairwise_append.1 hsp
        rw [SLC, List.append_assoc, List.pairwise_append]
        refine ⟨p1, ?_, fun a ha b hb => ?_⟩
        · simp only [List.singleton_append, List.pairwise_cons]
          refine ⟨fun b hb => ?_, p2⟩
          obtain ⟨q, hq, rfl⟩ := List.getElem_of_mem hb
          rw [List.getElem_drop]
          simp only [List.length_drop] at hq
          have := j3 (j + q) (by omega) (by omega) (by omega)
          rw [cmpC_anti out[j + q] l[i]]; omega
        · simp only [List.singleton_append, List.mem_cons] at hb
          rcases hb with rfl | hb
          · exact hA a ha
          · exact p3 a ha b hb
      · rw [hmem, ← hm]
        have : x ∈ out ↔ x ∈ out.take j ∨ x ∈ out.drop j := by rw [← List.mem_append, List.take_append_drop]
        rw [this]
        simp only [List.append_assoc, List.mem_append, List.mem_singleton]
        constructor
        · rintro (h | h | h) <;> simp [h]
        · rintro ((h | h) | h) <;> simp [h]
    by_cases h0 : 0 < j
    · have hj1 : j - 1 < out.length := by omega
      have e1 : i64 ((j : Int) - 1) = ((j - 1 : Nat) : Int) := by rw [i64_id (by omega)]; omega
      rw [if_pos (by omega), need_pos (by omega), e1, need_pos (by omega), gi_nat hj1, gi_nat hil]
      by_cases he : out[j - 1] = l[i]
      · rw [if_pos (decide_eq_true he), i64_succ (by omega)]
        refine ih (i + 1) n out (by omega) (by omega) hs (by omega) (fun x => ?_)
        rw [hmem, ← hm]
        exact ⟨Or.inl, fun h => h.elim id (fun h => by rw [h, ← he]; exact List.getElem_mem _)⟩
      · rw [if_neg (fun h => he (of_decide_eq_true h))]
        have hlt : cmpC out[j - 1] l[i] < 0 := by
          have h1 := j4 hj1 h0
          have h2 : cmpC out[j - 1] l[i] ≠ 0 := fun h => he (cmpC_eq.1 h)
          omega
        refine go (fun a ha => ?_)
        obtain ⟨q, hq, rfl⟩ := List.getElem_of_mem ha
        simp only [List.length_take] at hq
        rw [List.getElem_take]
        by_cases e : q = j - 1
        · subst e; exact hlt
        · exact cmpC_trans (hpw q (j - 1) (by omega) hj1 (by omega)) hlt
    · rw [if_neg (by omega), if_neg (by simp), gi_nat hil]
      exact go (fun a ha => by rw [show j = 0 by omega] at ha; simp at ha)
theorem rSort (l : List (List UInt8)) (hl : l.length ≤ 10000000000) : m_ref9_Sort l = some (sortW l) := by
  have hFU := FU_ge
  unfold m_ref9_Sort
  rw [jn_eq]
  obtain ⟨s, s1, s2, s3⟩ := rSort_loop l hl l.length 0 FU [] (by omega) (by omega) List.Pairwise.nil (by simp) (by simp)
  rw [Int.natCast_zero] at s1
  rw [s1]
  obtain ⟨t1, t2, _⟩ := sortW_spec l
  rw [slc_ext s2 t1 (fun x => by rw [s3, t2])]
end Go.Proofs.YtdppkpiagdaigaaGreatDoor
