/- Models, by program: what the functions compute. -/
import Derived.Test.YtdfdjgolijckfaaDoorQx0
namespace Go.Proofs.YtdfdjgolijckfaaDoor

/- cspcheck.cspcheckgen.New -/
noncomputable def m_gen_New (a0 : List Int) : Option ((List Int) × Int) :=
  some ((a0, 0).1, (a0, 0).2)
/- cspcheck.cspcheckhelp.Mod -/
noncomputable def m_help_Mod (a0 : Int) (a1 : Int) : Option Int :=
  need ((IntKind.u64.wrap (a1)) ≠ 0) (some (i64 (Int.tmod (IntKind.u64.wrap (a0)) (IntKind.u64.wrap (a1)))))
/- (*cspcheck.cspcheckgen.Choices).Next -/
noncomputable def m_gen_Choices_Next (a0 : (List Int) × Int) (a1 : Int) : Option (Int × ((List Int) × Int)) :=
  if (List.length a0.1 : Int) ≤ a0.2 then (some (0, (a0.1, a0.2))) else (need ((0 : Int) ≤ i64 ((i64 (a0.2 + 1)) - 1) ∧ (i64 ((i64 (a0.2 + 1)) - 1)) < (List.length a0.1 : Int)) (bnd1 (m_help_Mod (gi a0.1 (i64 ((i64 (a0.2 + 1)) - 1))) a1) (fun y2 => some (y2, (a0.1, i64 (a0.2 + 1))))))
/- cspcheck.cspcheckref6.Make -/
noncomputable def m_ref6_Make_B2 (a2 : List (List (Int × Int × Int))) (k2 : (List (Int × Int × Int)) → Option (List (Int × Int × Int))) (rec2 : (List (Int × Int × Int)) → Int → Option (List (Int × Int × Int))) (x7_l2 : List (Int × Int × Int)) (x8_l2 : Int) : Option (List (Int × Int × Int)) :=
  if x8_l2 < (List.length a2 : Int) then (need ((0 : Int) ≤ x8_l2 ∧ x8_l2 < (List.length a2 : Int)) (need (List.length x7_l2 + List.length (gi a2 x8_l2) ≤ 137438953472) (rec2 (x7_l2 ++ (gi a2 x8_l2)) (i64 (x8_l2 + 1))))) else (k2 x7_l2)
noncomputable def m_ref6_Make_L2 (a2 : List (List (Int × Int × Int))) (k2 : (List (Int × Int × Int)) → Option (List (Int × Int × Int))) : Nat → (List (Int × Int × Int)) → Int → Option (List (Int × Int × Int))
  | 0, _, _ => none
  | n + 1, x7_l2, x8_l2 => m_ref6_Make_B2 a2 k2 (m_ref6_Make_L2 a2 k2 n) x7_l2 x8_l2
noncomputable def m_ref6_Make (a0 : Int) (a1 : Int) (a2 : List (List (Int × Int × Int))) : Option (List (Int × Int × Int)) :=
  jn (fun (x7_j2 : List (Int × Int × Int)) => some x7_j2) (fun k2 => m_ref6_Make_L2 a2 k2 FU [(a0, a1, (List.length a2 : Int))] 0)
/- cspcheck.cspchecklaw7.typ -/
noncomputable def m_law7_typ_F (self_law7_typ : ((List Int) × Int) → Int → Int → Option ((List (Int × Int × Int)) × ((List Int) × Int))) (a0 : (List Int) × Int) (a1 : Int) (a2 : Int) : Option ((List (Int × Int × Int)) × ((List Int) × Int)) :=
  bnd1 (m_gen_Choices_Next (a0.1, a0.2) 14) (fun y1 => jn (fun (x7_j2 : Int) => jn (fun (x18_j52 : Bool) => if x18_j52 then (if 0 < a2 then (bnd1 (m_gen_Choices_Next (y1.2.1, y1.2.2) a2) (fun y53 => bnd1 (m_ref6_Make 1 y53.1 ([] : List (List (Int × Int × Int)))) (fun y54 => some (y54, (y53.2.1, y53.2.2))))) else (bnd1 (m_ref6_Make 2 0 ([] : List (List (Int × Int × Int)))) (fun y56 => some (y56, (y1.2.1, y1.2.2))))) else (if x7_j2 = 2 then (bnd1 (m_ref6_Make 3 0 ([] : List (List (Int × Int × Int)))) (fun y58 => some (y58, (y1.2.1, y1.2.2)))) else (if x7_j2 = 3 then (bnd1 (m_gen_Choices_Next (y1.2.1, y1.2.2) 2) (fun y60 => need ((0 : Int) ≤ y60.1 ∧ y60.1 < (List.length [4, 5] : Int)) (bnd1 (m_ref6_Make (gi [4, 5] y60.1) 0 ([] : List (List (Int × Int × Int)))) (fun y62 => some (y62, (y60.2.1, y60.2.2)))))) else (if x7_j2 = 4 then (bnd1 (m_gen_Choices_Next (y1.2.1, y1.2.2) 3) (fun y64 => bnd1 (m_ref6_Make 6 y64.1 ([] : List (List (Int × Int × Int)))) (fun y65 => some (y65, (y64.2.1, y64.2.2))))) else (jn (fun (x44_j67 : Bool) => if x44_j67 then (bnd1 (m_gen_Choices_Next (y1.2.1, y1.2.2) 2) (fun y68 => need ((0 : Int) ≤ y68.1 ∧ y68.1 < (List.length [7, 8] : Int)) (bnd1 (self_law7_typ (y68.2.1, y68.2.2) (i64 (a1 - 1)) a2) (fun y70 => bnd1 (m_ref6_Make (gi [7, 8] y68.1) 0 [y70.1]) (fun y72 => some (y72, (y70.2.1, y70.2.2))))))) else (if x7_j2 = 8 then (bnd1 (m_gen_Choices_Next (y1.2.1, y1.2.2) 3) (fun y74 => need ((0 : Int) ≤ y74.1 ∧ y74.1 < (List.length [9, 12, 13] : Int)) (bnd1 (self_law7_typ (y74.2.1, y74.2.2) (i64 (a1 - 1)) a2) (fun y76 => bnd1 (self_law7_typ (y76.2.1, y76.2.2) (i64 (a1 - 1)) a2) (fun y78 => bnd1 (m_ref6_Make (gi [9, 12, 13] y74.1) 0 [y76.1, y78.1]) (fun y80 => some (y80, (y78.2.1, y78.2.2)))))))) else (jn (fun (x75_j82 : Bool) => if x75_j82 then (bnd1 (self_law7_typ (y1.2.1, y1.2.2) (i64 (a1 - 1)) a2) (fun y83 => bnd1 (self_law7_typ (y83.2.1, y83.2.2) (i64 (a1 - 1)) a2) (fun y85 => bnd1 (m_ref6_Make 10 0 [y83.1, y85.1]) (fun y87 => some (y87, (y85.2.1, y85.2.2)))))) else (jn (fun (x88_j89 : Bool) => if x88_j89 then (bnd1 (self_law7_typ (y1.2.1, y1.2.2) (i64 (a1 - 1)) a2) (fun y90 => bnd1 (self_law7_typ (y90.2.1, y90.2.2) (i64 (a1 - 1)) a2) (fun y92 => bnd1 (m_ref6_Make 11 0 [y90.1, y92.1]) (fun y94 => some (y94, (y92.2.1, y92.2.2)))))) else (if x7_j2 = 13 then (bnd1 (self_law7_typ (y1.2.1, y1.2.2) (i64 (a1 - 1)) a2) (fun y96 => bnd1 (m_ref6_Make 11 0 [y96.1]) (fun y98 => some (y98, (y96.2.1, y96.2.2))))) else (bnd1 (m_ref6_Make 2 0 ([] : List (List (Int × Int × Int)))) (fun y100 => some (y100, (y1.2.1, y1.2.2)))))) (fun k89 => if x7_j2 = 11 then (k89 (decide (x7_j2 = 11))) else (k89 (decide (x7_j2 = 12)))))) (fun k82 => if x7_j2 = 9 then (k82 (decide (x7_j2 = 9))) else (k82 (decide (x7_j2 = 10))))))) (fun k67 => if x7_j2 = 6 then (k67 (decide (x7_j2 = 6))) else (k67 (decide (x7_j2 = 7))))))))) (fun k52 => if x7_j2 = 0 then (k52 (decide (x7_j2 = 0))) else (k52 (decide (x7_j2 = 1))))) (fun k2 => if a1 ≤ 1 then (k2 (Int.tmod y1.1 6)) else (k2 y1.1)))
/- cspcheck.cspchecklaw7.typ -/
noncomputable def m_law7_typ_S : Nat → (((List Int) × Int) → Int → Int → Option ((List (Int × Int × Int)) × ((List Int) × Int)))
  | 0 => (fun _ _ _ => none)
  | n + 1 => m_law7_typ_F (m_law7_typ_S n)
noncomputable def m_law7_typ (a0 : (List Int) × Int) (a1 : Int) (a2 : Int) : Option ((List (Int × Int × Int)) × ((List Int) × Int)) := m_law7_typ_S FU a0 a1 a2
/- cspcheck.types.formed -/
noncomputable def m_types_formed (a0 : Int × Int × Int) : Option Bool :=
  jn (fun (x3_j1 : Int) (x4_j1 : Int) => jn (fun (x2_j12 : Bool) => some x2_j12) (fun k12 => if a0.2.1 = 0 then (if x3_j1 ≤ a0.2.2 then (k12 (decide (a0.2.2 ≤ x4_j1))) else (k12 false)) else (k12 false))) (fun k1 => jn (fun (x7_j7 : Bool) => if x7_j7 then (jn (fun (x2_j8 : Bool) => some x2_j8) (fun k8 => if a0.2.2 = 0 then (if 0 ≤ a0.2.1 then (k8 (decide (a0.2.1 ≤ 1073741824))) else (k8 false)) else (k8 false))) else (jn (fun (x23_j9 : Bool) => if x23_j9 then (k1 0 0) else (jn (fun (x28_j10 : Bool) => if x28_j10 then (k1 1 1) else (jn (fun (x31_j11 : Bool) => if x31_j11 then (k1 2 2) else (if a0.1 = 10 then (k1 2 8) else (if a0.1 = 11 then (k1 1 9) else (some false)))) (fun k11 => if a0.1 = 9 then (k11 (decide (a0.1 = 9))) else (if a0.1 = 12 then (k11 (decide (a0.1 = 12))) else (k11 (decide (a0.1 = 13))))))) (fun k10 => if a0.1 = 7 then (k10 (decide (a0.1 = 7))) else (k10 (decide (a0.1 = 8)))))) (fun k9 => if a0.1 = 2 then (k9 (decide (a0.1 = 2))) else (if a0.1 = 3 then (k9 (decide (a0.1 = 3))) else (if a0.1 = 4 then (k9 (decide (a0.1 = 4))) else (k9 (decide (a0.1 = 5)))))))) (fun k7 => if a0.1 = 1 then (k7 (decide (a0.1 = 1))) else (k7 (decide (a0.1 = 6)))))
/- cspcheck.types.after -/
noncomputable def m_types_after_B2 (self_types_after : (List (Int × Int × Int)) → Int → Int → Option Int) (a0 : List (Int × Int × Int)) (a1 : Int) (a2 : Int) (k12 : Int → Option Int) (rec2 : Int → Int → Option Int) (x7_l2 : Int) (x31_l2 : Int) : Option Int :=
  if x31_l2 < ((gi a0 a1).2.2) then (bnd1 (self_types_after a0 x7_l2 (i64 (a2 + 1))) (fun y21 => if y21 = 0 then (some 0) else (rec2 y21 (i64 (x31_l2 + 1))))) else (k12 x7_l2)
noncomputable def m_types_after_L2 (self_types_after : (List (Int × Int × Int)) → Int → Int → Option Int) (a0 : List (Int × Int × Int)) (a1 : Int) (a2 : Int) (k12 : Int → Option Int) : Nat → Int → Int → Option Int
  | 0, _, _ => none
  | n + 1, x7_l2, x31_l2 => m_types_after_B2 self_types_after a0 a1 a2 k12 (m_types_after_L2 self_types_after a0 a1 a2 k12 n) x7_l2 x31_l2
noncomputable def m_types_after_F (self_types_after : (List (Int × Int × Int)) → Int → Int → Option Int) (a0 : List (Int × Int × Int)) (a1 : Int) (a2 : Int) : Option Int :=
  jn (fun (x23_j7 : Bool) => if x23_j7 then (some 0) else (jn (fun (x7_j12 : Int) => some x7_j12) (fun k12 => need ((0 : Int) ≤ a1 ∧ a1 < (List.length a0 : Int)) (m_types_after_L2 self_types_after a0 a1 a2 k12 FU (i64 (a1 + 1)) 0)))) (fun k7 => if (List.length a0 : Int) ≤ a1 then (k7 true) else (if 64 < a2 then (k7 true) else (need ((0 : Int) ≤ a1 ∧ a1 < (List.length a0 : Int)) (bnd1 (m_types_formed (gi a0 a1)) (fun y11 => k7 (!y11))))))
/- cspcheck.types.after -/
noncomputable def m_types_after_S : Nat → ((List (Int × Int × Int)) → Int → Int → Option Int)
  | 0 => (fun _ _ _ => none)
  | n + 1 => m_types_after_F (m_types_after_S n)
noncomputable def m_types_after (a0 : List (Int × Int × Int)) (a1 : Int) (a2 : Int) : Option Int := m_types_after_S FU a0 a1 a2
/- cspcheck.types.Valid -/
noncomputable def m_types_Valid (a0 : List (Int × Int × Int)) : Option Bool :=
  jn (fun (x2_j1 : Bool) => some x2_j1) (fun k1 => if 0 < (List.length a0 : Int) then (if (List.length a0 : Int) ≤ 512 then (bnd1 (m_types_after a0 0 1) (fun y3 => k1 (decide (y3 = (List.length a0 : Int))))) else (k1 false)) else (k1 false))
/- cspcheck.types.belongs -/
/- cspcheck.types.Needs$1 -/
/- slices.Clip(()cspcheck.api.Need,cspcheck.api.Need) -/
/- cspcheck.types.Needs -/
/- cspcheck.cspcheckref6.arity -/
noncomputable def m_ref6_arity (a0 : Int × Int × Int) : Option Bool :=
  jn (fun (x9_j12 : Bool) => if x9_j12 then (jn (fun (x2_j13 : Bool) => some x2_j13) (fun k13 => if a0.2.2 = 0 then (if 0 ≤ a0.2.1 then (k13 (decide (a0.2.1 ≤ 1073741824))) else (k13 false)) else (k13 false))) else (jn (fun (x25_j14 : Bool) => if x25_j14 then (jn (fun (x2_j15 : Bool) => some x2_j15) (fun k15 => if a0.2.1 = 0 then (k15 (decide (a0.2.2 = 0))) else (k15 false))) else (jn (fun (x36_j16 : Bool) => if x36_j16 then (jn (fun (x2_j17 : Bool) => some x2_j17) (fun k17 => if a0.2.1 = 0 then (k17 (decide (a0.2.2 = 1))) else (k17 false))) else (jn (fun (x45_j18 : Bool) => if x45_j18 then (jn (fun (x2_j19 : Bool) => some x2_j19) (fun k19 => if a0.2.1 = 0 then (k19 (decide (a0.2.2 = 2))) else (k19 false))) else (if a0.1 = 10 then (jn (fun (x2_j20 : Bool) => some x2_j20) (fun k20 => if a0.2.1 = 0 then (if 2 ≤ a0.2.2 then (k20 (decide (a0.2.2 ≤ 8))) else (k20 false)) else (k20 false))) else (if a0.1 = 11 then (jn (fun (x2_j21 : Bool) => some x2_j21) (fun k21 => if a0.2.1 = 0 then (if 1 ≤ a0.2.2 then (k21 (decide (a0.2.2 ≤ 9))) else (k21 false)) else (k21 false))) else (some false)))) (fun k18 => if a0.1 = 9 then (k18 (decide (a0.1 = 9))) else (if a0.1 = 12 then (k18 (decide (a0.1 = 12))) else (k18 (decide (a0.1 = 13))))))) (fun k16 => if a0.1 = 7 then (k16 (decide (a0.1 = 7))) else (k16 (decide (a0.1 = 8)))))) (fun k14 => if a0.1 = 2 then (k14 (decide (a0.1 = 2))) else (if a0.1 = 3 then (k14 (decide (a0.1 = 3))) else (if a0.1 = 4 then (k14 (decide (a0.1 = 4))) else (k14 (decide (a0.1 = 5)))))))) (fun k12 => if a0.1 = 1 then (k12 (decide (a0.1 = 1))) else (k12 (decide (a0.1 = 6))))
/- cspcheck.cspcheckref6.walk -/
noncomputable def m_ref6_walk_B2 (self_ref6_walk : (List (Int × Int × Int)) → Int → Int → Option Int) (a0 : List (Int × Int × Int)) (a1 : Int) (a2 : Int) (k13 : Int → Option Int) (rec2 : Int → Int → Option Int) (x1_l2 : Int) (x8_l2 : Int) : Option Int :=
  if x8_l2 < ((gi a0 a1).2.2) then (bnd1 (self_ref6_walk a0 x1_l2 (i64 (a2 + 1))) (fun y20 => if y20 < 0 then (some (-1)) else (rec2 y20 (i64 (x8_l2 + 1))))) else (k13 x1_l2)
noncomputable def m_ref6_walk_L2 (self_ref6_walk : (List (Int × Int × Int)) → Int → Int → Option Int) (a0 : List (Int × Int × Int)) (a1 : Int) (a2 : Int) (k13 : Int → Option Int) : Nat → Int → Int → Option Int
  | 0, _, _ => none
  | n + 1, x1_l2, x8_l2 => m_ref6_walk_B2 self_ref6_walk a0 a1 a2 k13 (m_ref6_walk_L2 self_ref6_walk a0 a1 a2 k13 n) x1_l2 x8_l2
noncomputable def m_ref6_walk_F (self_ref6_walk : (List (Int × Int × Int)) → Int → Int → Option Int) (a0 : List (Int × Int × Int)) (a1 : Int) (a2 : Int) : Option Int :=
  jn (fun (x24_j7 : Bool) => if x24_j7 then (some (-1)) else (need ((0 : Int) ≤ a1 ∧ a1 < (List.length a0 : Int)) (jn (fun (x1_j13 : Int) => some x1_j13) (fun k13 => m_ref6_walk_L2 self_ref6_walk a0 a1 a2 k13 FU (i64 (a1 + 1)) 0)))) (fun k7 => if (List.length a0 : Int) ≤ a1 then (k7 true) else (if 64 < a2 then (k7 true) else (need ((0 : Int) ≤ a1 ∧ a1 < (List.length a0 : Int)) (bnd1 (m_ref6_arity (gi a0 a1)) (fun y11 => k7 (!y11))))))
/- cspcheck.cspcheckref6.walk -/
noncomputable def m_ref6_walk_S : Nat → ((List (Int × Int × Int)) → Int → Int → Option Int)
  | 0 => (fun _ _ _ => none)
  | n + 1 => m_ref6_walk_F (m_ref6_walk_S n)
noncomputable def m_ref6_walk (a0 : List (Int × Int × Int)) (a1 : Int) (a2 : Int) : Option Int := m_ref6_walk_S FU a0 a1 a2
/- cspcheck.cspcheckref6.ValidType -/
noncomputable def m_ref6_ValidType (a0 : List (Int × Int × Int)) : Option Bool :=
  jn (fun (x2_j1 : Bool) => some x2_j1) (fun k1 => if (List.length a0 : Int) ≤ 512 then (bnd1 (m_ref6_walk a0 0 1) (fun y3 => k1 (decide (y3 = (List.length a0 : Int))))) else (k1 false))
/- cspcheck.cspcheckref6.class -/
/- cspcheck.cspcheckref6.Need -/
/- cspcheck.cspcheckref6.Needs -/
/- (*cspcheck.terms.Term).Find -/
noncomputable def m_terms_Term_Find_B2 (a1 : List (Int × Int × (List Int) × Int)) (k1 : Int → Option (Int × (List (Int × Int × (List Int) × Int)))) (rec2 : Int → Option (Int × (List (Int × Int × (List Int) × Int)))) (x0_l2 : Int) : Option (Int × (List (Int × Int × (List Int) × Int))) :=
  need (¬ x0_l2 = -1) (if ¬ ((gi a1 x0_l2).2.2.2) = -1 then (need (¬ x0_l2 = -1) (rec2 ((gi a1 x0_l2).2.2.2))) else (k1 x0_l2))
noncomputable def m_terms_Term_Find_L2 (a1 : List (Int × Int × (List Int) × Int)) (k1 : Int → Option (Int × (List (Int × Int × (List Int) × Int)))) : Nat → Int → Option (Int × (List (Int × Int × (List Int) × Int)))
  | 0, _ => none
  | n + 1, x0_l2 => m_terms_Term_Find_B2 a1 k1 (m_terms_Term_Find_L2 a1 k1 n) x0_l2
noncomputable def m_terms_Term_Find (a0 : Int) (a1 : List (Int × Int × (List Int) × Int)) : Option (Int × (List (Int × Int × (List Int) × Int))) :=
  jn (fun (x0_j1 : Int) => some (x0_j1, a1)) (fun k1 => m_terms_Term_Find_L2 a1 k1 FU a0)
/- (cspcheck.terms.Unifier).Unify -/
noncomputable def m_terms_Unifier_Unify_B2 (self_terms_Unifier_Unify : (List ((Int × Int) × Bool)) → Int → Int → (List (Int × Int × (List Int) × Int)) → Option (Int × (List ((Int × Int) × Bool)) × (List (Int × Int × (List Int) × Int)))) (y2 : Int × (List (Int × Int × (List Int) × Int))) (x1_j33 : Int) (x2_j33 : Int) (k67 : (List (Int × Int × (List Int) × Int)) → (List ((Int × Int) × Bool)) → Option (Int × (List ((Int × Int) × Bool)) × (List (Int × Int × (List Int) × Int)))) (rec2 : (List (Int × Int × (List Int) × Int)) → (List ((Int × Int) × Bool)) → Int → Option (Int × (List ((Int × Int) × Bool)) × (List (Int × Int × (List Int) × Int)))) (xH_l2 : List (Int × Int × (List Int) × Int)) (x0_l2 : List ((Int × Int) × Bool)) (x108_l2 : Int) : Option (Int × (List ((Int × Int) × Bool)) × (List (Int × Int × (List Int) × Int))) :=
  if x108_l2 < (List.length ((gi y2.2 x1_j33).2.2.1) : Int) then (need (¬ x1_j33 = -1) (need (¬ x2_j33 = -1) (need ((0 : Int) ≤ x108_l2 ∧ x108_l2 < (List.length ((gi xH_l2 x1_j33).2.2.1) : Int)) (need ((0 : Int) ≤ x108_l2 ∧ x108_l2 < (List.length ((gi xH_l2 x2_j33).2.2.1) : Int)) (bnd1 (self_terms_Unifier_Unify x0_l2 (gi ((gi xH_l2 x1_j33).2.2.1) x108_l2) (gi ((gi xH_l2 x2_j33).2.2.1) x108_l2) xH_l2) (fun y100 => if ¬ y100.1 = 0 then (some (y100.1, y100.2.1, y100.2.2)) else (rec2 y100.2.2 y100.2.1 (i64 (x108_l2 + 1))))))))) else (k67 xH_l2 x0_l2)
noncomputable def m_terms_Unifier_Unify_L2 (self_terms_Unifier_Unify : (List ((Int × Int) × Bool)) → Int → Int → (List (Int × Int × (List Int) × Int)) → Option (Int × (List ((Int × Int) × Bool)) × (List (Int × Int × (List Int) × Int)))) (y2 : Int × (List (Int × Int × (List Int) × Int))) (x1_j33 : Int) (x2_j33 : Int) (k67 : (List (Int × Int × (List Int) × Int)) → (List ((Int × Int) × Bool)) → Option (Int × (List ((Int × Int) × Bool)) × (List (Int × Int × (List Int) × Int)))) : Nat → (List (Int × Int × (List Int) × Int)) → (List ((Int × Int) × Bool)) → Int → Option (Int × (List ((Int × Int) × Bool)) × (List (Int × Int × (List Int) × Int)))
  | 0, _, _, _ => none
  | n + 1, xH_l2, x0_l2, x108_l2 => m_terms_Unifier_Unify_B2 self_terms_Unifier_Unify y2 x1_j33 x2_j33 k67 (m_terms_Unifier_Unify_L2 self_terms_Unifier_Unify y2 x1_j33 x2_j33 k67 n) xH_l2 x0_l2 x108_l2
noncomputable def m_terms_Unifier_Unify_F (self_terms_Unifier_Unify : (List ((Int × Int) × Bool)) → Int → Int → (List (Int × Int × (List Int) × Int)) → Option (Int × (List ((Int × Int) × Bool)) × (List (Int × Int × (List Int) × Int)))) (a0 : List ((Int × Int) × Bool)) (a1 : Int) (a2 : Int) (a3 : List (Int × Int × (List Int) × Int)) : Option (Int × (List ((Int × Int) × Bool)) × (List (Int × Int × (List Int) × Int))) :=
  bnd1 (m_terms_Term_Find a1 a3) (fun y1 => bnd1 (m_terms_Term_Find a2 y1.2) (fun y2 => jn (fun (x22_j7 : Bool) => if x22_j7 then (some (0, a0, y2.2)) else (jn (fun (x34_j22 : Bool) => if x34_j22 then (jn (fun (x1_j27 : Int) (x2_j27 : Int) => need (¬ x1_j27 = -1) (some (0, a0, (List.set y2.2 (Int.toNat x1_j27) ((gi y2.2 x1_j27).1, (gi y2.2 x1_j27).2.1, (gi y2.2 x1_j27).2.2.1, x2_j27))))) (fun k27 => need (¬ y1.1 = -1) (need (¬ y2.1 = -1) (if ((gi y2.2 y1.1).2.1) < ((gi y2.2 y2.1).2.1) then (k27 y2.1 y1.1) else (k27 y1.1 y2.1))))) else (jn (fun (x1_j33 : Int) (x2_j33 : Int) => need (¬ x1_j33 = -1) (if ((gi y2.2 x1_j33).1) = 1 then (bnd1 (m_occ m_terms_Term_Find x1_j33 x2_j33 ([] : List (Int × Bool)) y2.2) (fun y38 => if y38.1 then (some (8, a0, y38.2.2)) else (need (¬ x1_j33 = -1) (some (0, a0, (List.set y38.2.2 (Int.toNat x1_j33) ((gi y38.2.2 x1_j33).1, (gi y38.2.2 x1_j33).2.1, (gi y38.2.2 x1_j33).2.2.1, x2_j33))))))) else (jn (fun (x102_j54 : Bool) => if x102_j54 then (some (6, a0, y2.2)) else (jn (fun (xH_j67 : List (Int × Int × (List Int) × Int)) (x0_j67 : List ((Int × Int) × Bool)) => need (¬ ((x1_j33, x2_j33).1) = -1 ∧ ¬ ((x1_j33, x2_j33).2) = -1) (some (0, (putL x0_j67 (x1_j33, x2_j33) true), xH_j67))) (fun k67 => need (¬ x1_j33 = -1) (m_terms_Unifier_Unify_L2 self_terms_Unifier_Unify y2 x1_j33 x2_j33 k67 FU y2.2 a0 0)))) (fun k54 => need (¬ x1_j33 = -1) (need (¬ x2_j33 = -1) (if ¬ ((gi y2.2 x1_j33).1) = ((gi y2.2 x2_j33).1) then (k54 true) else (need (¬ x1_j33 = -1) (need (¬ x2_j33 = -1) (if ¬ ((gi y2.2 x1_j33).2.1) = ((gi y2.2 x2_j33).2.1) then (k54 true) else (need (¬ x1_j33 = -1) (need (¬ x2_j33 = -1) (k54 (decide (¬ (List.length ((gi y2.2 x1_j33).2.2.1) : Int) = (List.length ((gi y2.2 x2_j33).2.2.1) : Int))))))))))))))) (fun k33 => need (¬ y2.1 = -1) (if ((gi y2.2 y2.1).1) = 1 then (k33 y2.1 y1.1) else (k33 y1.1 y2.1))))) (fun k22 => need (¬ y1.1 = -1) (if ((gi y2.2 y1.1).1) = 1 then (need (¬ y2.1 = -1) (k22 (decide (((gi y2.2 y2.1).1) = 1)))) else (k22 false))))) (fun k7 => if y1.1 = y2.1 then (k7 true) else (need (¬ ((y1.1, y2.1).1) = -1 ∧ ¬ ((y1.1, y2.1).2) = -1) (k7 (Option.getD (lookL a0 (y1.1, y2.1)) false))))))
/- (cspcheck.terms.Unifier).Unify -/
noncomputable def m_terms_Unifier_Unify_S : Nat → ((List ((Int × Int) × Bool)) → Int → Int → (List (Int × Int × (List Int) × Int)) → Option (Int × (List ((Int × Int) × Bool)) × (List (Int × Int × (List Int) × Int))))
  | 0 => (fun _ _ _ _ => none)
  | n + 1 => m_terms_Unifier_Unify_F (m_terms_Unifier_Unify_S n)
noncomputable def m_terms_Unifier_Unify (a0 : List ((Int × Int) × Bool)) (a1 : Int) (a2 : Int) (a3 : List (Int × Int × (List Int) × Int)) : Option (Int × (List ((Int × Int) × Bool)) × (List (Int × Int × (List Int) × Int))) := m_terms_Unifier_Unify_S FU a0 a1 a2 a3
/- cspcheck.terms.Measure -/
noncomputable def m_terms_Measure_B2 (self_terms_Measure : Int → (List (Int × (Int × Int))) → (List (Int × Int × (List Int) × Int)) → Option ((Int × Int) × (List (Int × (Int × Int))) × (List (Int × Int × (List Int) × Int)))) (y2 : Int × (List (Int × Int × (List Int) × Int))) (k6 : (List (Int × Int × (List Int) × Int)) → (List (Int × (Int × Int))) → Int → Int → Option ((Int × Int) × (List (Int × (Int × Int))) × (List (Int × Int × (List Int) × Int)))) (rec2 : (List (Int × Int × (List Int) × Int)) → (List (Int × (Int × Int))) → Int → Int → Int → Option ((Int × Int) × (List (Int × (Int × Int))) × (List (Int × Int × (List Int) × Int)))) (xH_l2 : List (Int × Int × (List Int) × Int)) (x1_l2 : List (Int × (Int × Int))) (x7_0_l2 : Int) (x7_1_l2 : Int) (x27_l2 : Int) : Option ((Int × Int) × (List (Int × (Int × Int))) × (List (Int × Int × (List Int) × Int))) :=
  if x27_l2 < (List.length ((gi y2.2 y2.1).2.2.1) : Int) then (need ((0 : Int) ≤ x27_l2 ∧ x27_l2 < (List.length ((gi y2.2 y2.1).2.2.1) : Int)) (bnd1 (self_terms_Measure (gi ((gi y2.2 y2.1).2.2.1) x27_l2) x1_l2 xH_l2) (fun y26 => rec2 y26.2.2 y26.2.1 (min (i64 (x7_0_l2 + y26.1.1)) 513) (max x7_1_l2 y26.1.2) (i64 (x27_l2 + 1))))) else (k6 xH_l2 x1_l2 x7_0_l2 x7_1_l2)
noncomputable def m_terms_Measure_L2 (self_terms_Measure : Int → (List (Int × (Int × Int))) → (List (Int × Int × (List Int) × Int)) → Option ((Int × Int) × (List (Int × (Int × Int))) × (List (Int × Int × (List Int) × Int)))) (y2 : Int × (List (Int × Int × (List Int) × Int))) (k6 : (List (Int × Int × (List Int) × Int)) → (List (Int × (Int × Int))) → Int → Int → Option ((Int × Int) × (List (Int × (Int × Int))) × (List (Int × Int × (List Int) × Int)))) : Nat → (List (Int × Int × (List Int) × Int)) → (List (Int × (Int × Int))) → Int → Int → Int → Option ((Int × Int) × (List (Int × (Int × Int))) × (List (Int × Int × (List Int) × Int)))
  | 0, _, _, _, _, _ => none
  | n + 1, xH_l2, x1_l2, x7_0_l2, x7_1_l2, x27_l2 => m_terms_Measure_B2 self_terms_Measure y2 k6 (m_terms_Measure_L2 self_terms_Measure y2 k6 n) xH_l2 x1_l2 x7_0_l2 x7_1_l2 x27_l2
noncomputable def m_terms_Measure_F (self_terms_Measure : Int → (List (Int × (Int × Int))) → (List (Int × Int × (List Int) × Int)) → Option ((Int × Int) × (List (Int × (Int × Int))) × (List (Int × Int × (List Int) × Int)))) (a0 : Int) (a1 : List (Int × (Int × Int))) (a2 : List (Int × Int × (List Int) × Int)) : Option ((Int × Int) × (List (Int × (Int × Int))) × (List (Int × Int × (List Int) × Int))) :=
  bnd1 (m_terms_Term_Find a0 a2) (fun y2 => need (¬ y2.1 = -1) (if (Option.isSome (lookL a1 y2.1)) then (some ((((Option.getD (lookL a1 y2.1) (0, 0)).1, (Option.getD (lookL a1 y2.1) (0, 0)).2).1, ((Option.getD (lookL a1 y2.1) (0, 0)).1, (Option.getD (lookL a1 y2.1) (0, 0)).2).2), a1, y2.2)) else (jn (fun (xH_j6 : List (Int × Int × (List Int) × Int)) (x1_j6 : List (Int × (Int × Int))) (x7_0_j6 : Int) (x7_1_j6 : Int) => need (¬ y2.1 = -1) (some (((x7_0_j6, i64 (x7_1_j6 + 1)).1, (x7_0_j6, i64 (x7_1_j6 + 1)).2), (putL x1_j6 y2.1 (x7_0_j6, i64 (x7_1_j6 + 1))), xH_j6))) (fun k6 => need (¬ y2.1 = -1) (m_terms_Measure_L2 self_terms_Measure y2 k6 FU y2.2 a1 ((1, 0).1) ((1, 0).2) 0)))))
/- cspcheck.terms.Measure -/
noncomputable def m_terms_Measure_S : Nat → (Int → (List (Int × (Int × Int))) → (List (Int × Int × (List Int) × Int)) → Option ((Int × Int) × (List (Int × (Int × Int))) × (List (Int × Int × (List Int) × Int))))
  | 0 => (fun _ _ _ => none)
  | n + 1 => m_terms_Measure_F (m_terms_Measure_S n)
noncomputable def m_terms_Measure (a0 : Int) (a1 : List (Int × (Int × Int))) (a2 : List (Int × Int × (List Int) × Int)) : Option ((Int × Int) × (List (Int × (Int × Int))) × (List (Int × Int × (List Int) × Int))) := m_terms_Measure_S FU a0 a1 a2
/- cspcheck.terms.Fits -/
noncomputable def m_terms_Fits (a0 : Int) (a1 : List (Int × Int × (List Int) × Int)) : Option (Bool × (List (Int × Int × (List Int) × Int))) :=
  bnd1 (m_terms_Measure a0 ([] : List (Int × (Int × Int))) a1) (fun y2 => jn (fun (x2_j4 : Bool) => some (x2_j4, y2.2.2)) (fun k4 => if y2.1.1 ≤ 512 then (k4 (decide (y2.1.2 ≤ 64))) else (k4 false)))
/- (*cspcheck.terms.Term).Write -/
noncomputable def m_terms_Term_Write_B2 (self_terms_Term_Write : Int → (List (Int × Int × Int)) → (List (Int × Int × (List Int) × Int)) → Option ((List (Int × Int × Int)) × (List (Int × Int × (List Int) × Int)))) (y1 : Int × (List (Int × Int × (List Int) × Int))) (k7 : (List (Int × Int × (List Int) × Int)) → (List (Int × Int × Int)) → Option ((List (Int × Int × Int)) × (List (Int × Int × (List Int) × Int)))) (rec2 : (List (Int × Int × (List Int) × Int)) → (List (Int × Int × Int)) → Int → Option ((List (Int × Int × Int)) × (List (Int × Int × (List Int) × Int)))) (xH_l2 : List (Int × Int × (List Int) × Int)) (x1_l2 : List (Int × Int × Int)) (x31_l2 : Int) : Option ((List (Int × Int × Int)) × (List (Int × Int × (List Int) × Int))) :=
  if x31_l2 < (List.length ((gi y1.2 y1.1).2.2.1) : Int) then (need ((0 : Int) ≤ x31_l2 ∧ x31_l2 < (List.length ((gi y1.2 y1.1).2.2.1) : Int)) (bnd1 (self_terms_Term_Write (gi ((gi y1.2 y1.1).2.2.1) x31_l2) x1_l2 xH_l2) (fun y27 => rec2 y27.2 y27.1 (i64 (x31_l2 + 1))))) else (k7 xH_l2 x1_l2)
noncomputable def m_terms_Term_Write_L2 (self_terms_Term_Write : Int → (List (Int × Int × Int)) → (List (Int × Int × (List Int) × Int)) → Option ((List (Int × Int × Int)) × (List (Int × Int × (List Int) × Int)))) (y1 : Int × (List (Int × Int × (List Int) × Int))) (k7 : (List (Int × Int × (List Int) × Int)) → (List (Int × Int × Int)) → Option ((List (Int × Int × Int)) × (List (Int × Int × (List Int) × Int)))) : Nat → (List (Int × Int × (List Int) × Int)) → (List (Int × Int × Int)) → Int → Option ((List (Int × Int × Int)) × (List (Int × Int × (List Int) × Int)))
  | 0, _, _, _ => none
  | n + 1, xH_l2, x1_l2, x31_l2 => m_terms_Term_Write_B2 self_terms_Term_Write y1 k7 (m_terms_Term_Write_L2 self_terms_Term_Write y1 k7 n) xH_l2 x1_l2 x31_l2
noncomputable def m_terms_Term_Write_F (self_terms_Term_Write : Int → (List (Int × Int × Int)) → (List (Int × Int × (List Int) × Int)) → Option ((List (Int × Int × Int)) × (List (Int × Int × (List Int) × Int)))) (a0 : Int) (a1 : List (Int × Int × Int)) (a2 : List (Int × Int × (List Int) × Int)) : Option ((List (Int × Int × Int)) × (List (Int × Int × (List Int) × Int))) :=
  bnd1 (m_terms_Term_Find a0 a2) (fun y1 => need (¬ y1.1 = -1) (need (¬ y1.1 = -1) (need (¬ y1.1 = -1) (need (List.length a1 + List.length [((gi y1.2 y1.1).1, (gi y1.2 y1.1).2.1, (List.length ((gi y1.2 y1.1).2.2.1) : Int))] ≤ 137438953472) (jn (fun (xH_j7 : List (Int × Int × (List Int) × Int)) (x1_j7 : List (Int × Int × Int)) => some (x1_j7, xH_j7)) (fun k7 => need (¬ y1.1 = -1) (m_terms_Term_Write_L2 self_terms_Term_Write y1 k7 FU y1.2 (a1 ++ [((gi y1.2 y1.1).1, (gi y1.2 y1.1).2.1, (List.length ((gi y1.2 y1.1).2.2.1) : Int))]) 0)))))))
/- (*cspcheck.terms.Term).Write -/
noncomputable def m_terms_Term_Write_S : Nat → (Int → (List (Int × Int × Int)) → (List (Int × Int × (List Int) × Int)) → Option ((List (Int × Int × Int)) × (List (Int × Int × (List Int) × Int))))
  | 0 => (fun _ _ _ => none)
  | n + 1 => m_terms_Term_Write_F (m_terms_Term_Write_S n)
noncomputable def m_terms_Term_Write (a0 : Int) (a1 : List (Int × Int × Int)) (a2 : List (Int × Int × (List Int) × Int)) : Option ((List (Int × Int × Int)) × (List (Int × Int × (List Int) × Int))) := m_terms_Term_Write_S FU a0 a1 a2
/- slices.Clip(()cspcheck.api.TypeNode,cspcheck.api.TypeNode) -/
noncomputable def m_slices_Clip_L_api_TypeNode_api_TypeNode (a0 : List (Int × Int × Int)) : Option (List (Int × Int × Int)) :=
  need (0 ≤ (List.length a0 : Int)) (some (List.take (Int.toNat (List.length a0 : Int)) a0))
/- cspcheck.types.Unify$1 -/
noncomputable def m_types_Unify_1 (a0 : Int × (List (Int × Int × Int))) (a1 : Int × (List (Int × Int × Int))) : Option Int :=
  some (i64 (a0.1 - a1.1))
/- cspcheck.types.Match$1 -/
/- slices.Clip(()cspcheck.api.Binding,cspcheck.api.Binding) -/
noncomputable def m_slices_Clip_L_api_Binding_api_Binding (a0 : List (Int × (List (Int × Int × Int)))) : Option (List (Int × (List (Int × Int × Int)))) :=
  need (0 ≤ (List.length a0 : Int)) (some (List.take (Int.toNat (List.length a0 : Int)) a0))
/- cspcheck.types.Unify -/
noncomputable def m_types_Unify_R2  (y62 : Int × Int) (s_l2 : (List (Int × Int × (List Int) × Int)) × (List (Int × (List (Int × Int × Int))))) : Option ((List (Int × Int × (List Int) × Int)) × (List (Int × (List (Int × Int × Int))))) :=
  need (¬ y62.2 = -1) (if ¬ ((gi s_l2.1 y62.2).2.2.2) = -1 then (bnd1 (m_terms_Term_Write y62.2 [] s_l2.1) (fun y65 => bnd1 (m_slices_Clip_L_api_TypeNode_api_TypeNode y65.1) (fun y67 => need (List.length s_l2.2 + List.length [(y62.1, y67)] ≤ 137438953472) (some (y65.2, (s_l2.2 ++ [(y62.1, y67)])))))) else (some (s_l2.1, s_l2.2)))
noncomputable def m_types_Unify (a0 : List (Int × Int × Int)) (a1 : List (Int × Int × Int)) : Option ((List (Int × (List (Int × Int × Int)))) × Int) :=
  jn (fun (x22_j7 : Bool) => if x22_j7 then (some ([], 1)) else (bnd1 (m_terms_Reader_Read ([] : List (Int × Int)) a0 ([] : List (Int × Int × (List Int) × Int))) (fun y13 => bnd1 (m_terms_Reader_Read y13.2.2.1 a1 y13.2.2.2) (fun y14 => bnd1 (m_terms_Unifier_Unify ([] : List ((Int × Int) × Bool)) y13.1 y14.1 y14.2.2.2) (fun y16 => if ¬ y16.1 = 0 then (some ([], y16.1)) else (bnd1 (m_terms_Fits y13.1 y16.2.2) (fun y17 => if !y17.1 then (some ([], 10)) else (jn (fun (xH_j18 : List (Int × Int × (List Int) × Int)) (x12_j18 : List (Int × (List (Int × Int × Int)))) => bnd1 (m_sortOnBy m_types_Unify_1 x12_j18) (fun y70 => bnd1 (m_slices_Clip_L_api_Binding_api_Binding y70) (fun y71 => some (y71, 0)))) (fun k18 => rngC y14.2.2.1 (m_types_Unify_R2) (y17.2, []) (fun (s_l2 : (List (Int × Int × (List Int) × Int)) × (List (Int × (List (Int × Int × Int))))) => k18 s_l2.1 s_l2.2)))))))))) (fun k7 => bnd1 (m_types_Valid a0) (fun y10 => if !y10 then (k7 true) else (bnd1 (m_types_Valid a1) (fun y11 => k7 (!y11)))))
/- internal.strconv.Itoa -/
noncomputable def m_internal_strconv_Itoa (a0 : Int) : Option (List UInt8) :=
  bnd1 (m_itoa a0 10) (fun y1 => some y1)
/- strconv.Itoa -/
noncomputable def m_strconv_Itoa (a0 : Int) : Option (List UInt8) :=
  bnd1 (m_internal_strconv_Itoa a0) (fun y1 => some y1)
/- cspcheck.types.text -/
noncomputable def m_types_text_B2 (self_types_text : (List (Int × Int × Int)) → (List (List UInt8)) → Option ((List UInt8) × (List (Int × Int × Int)))) (a0 : List (Int × Int × Int)) (a1 : List (List UInt8)) (k4 : (List (Int × Int × Int)) → (List (List UInt8)) → Option ((List UInt8) × (List (Int × Int × Int)))) (rec2 : (List (Int × Int × Int)) → (List (List UInt8)) → Int → Option ((List UInt8) × (List (Int × Int × Int)))) (x0_l2 : List (Int × Int × Int)) (x7_l2 : List (List UInt8)) (x17_l2 : Int) : Option ((List UInt8) × (List (Int × Int × Int))) :=
  if x17_l2 < ((gi a0 0).2.2) then (bnd1 (self_types_text x0_l2 a1) (fun y21 => need (List.length x7_l2 + List.length [y21.1] ≤ 137438953472) (rec2 y21.2 (x7_l2 ++ [y21.1]) (i64 (x17_l2 + 1))))) else (k4 x0_l2 x7_l2)
noncomputable def m_types_text_L2 (self_types_text : (List (Int × Int × Int)) → (List (List UInt8)) → Option ((List UInt8) × (List (Int × Int × Int)))) (a0 : List (Int × Int × Int)) (a1 : List (List UInt8)) (k4 : (List (Int × Int × Int)) → (List (List UInt8)) → Option ((List UInt8) × (List (Int × Int × Int)))) : Nat → (List (Int × Int × Int)) → (List (List UInt8)) → Int → Option ((List UInt8) × (List (Int × Int × Int)))
  | 0, _, _, _ => none
  | n + 1, x0_l2, x7_l2, x17_l2 => m_types_text_B2 self_types_text a0 a1 k4 (m_types_text_L2 self_types_text a0 a1 k4 n) x0_l2 x7_l2 x17_l2
noncomputable def m_types_text_F (self_types_text : (List (Int × Int × Int)) → (List (List UInt8)) → Option ((List UInt8) × (List (Int × Int × Int)))) (a0 : List (Int × Int × Int)) (a1 : List (List UInt8)) : Option ((List UInt8) × (List (Int × Int × Int))) :=
  need ((0 : Int) ≤ 0 ∧ 0 < (List.length a0 : Int)) (need (1 ≤ (List.length a0 : Int)) (jn (fun (x0_j4 : List (Int × Int × Int)) (x7_j4 : List (List UInt8)) => if ((gi a0 0).1) = 1 then (bnd1 (m_strconv_Itoa ((gi a0 0).2.1)) (fun y24 => need (List.length ([116] : List UInt8) + List.length y24 ≤ 9223372036854775807) (some (([116] ++ y24), x0_j4)))) else (if ((gi a0 0).1) = 2 then (some ([73, 110, 116], x0_j4)) else (if ((gi a0 0).1) = 3 then (some ([66, 111, 111, 108], x0_j4)) else (if ((gi a0 0).1) = 4 then (some ([69, 118, 101, 110, 116], x0_j4)) else (if ((gi a0 0).1) = 5 then (some ([80, 114, 111, 99], x0_j4)) else (if ((gi a0 0).1) = 6 then (if ((gi a0 0).2.1) < (List.length a1 : Int) then (need ((0 : Int) ≤ (gi a0 0).2.1 ∧ ((gi a0 0).2.1) < (List.length a1 : Int)) (some (gi a1 ((gi a0 0).2.1), x0_j4))) else (bnd1 (m_strconv_Itoa ((gi a0 0).2.1)) (fun y27 => need (List.length ([68] : List UInt8) + List.length y27 ≤ 9223372036854775807) (some (([68] ++ y27), x0_j4))))) else (if ((gi a0 0).1) = 7 then (need ((0 : Int) ≤ 0 ∧ 0 < (List.length x7_j4 : Int)) (need (List.length ([60] : List UInt8) + List.length (gi x7_j4 0) ≤ 9223372036854775807) (need (List.length (([60] ++ (gi x7_j4 0)) : List UInt8) + List.length [62] ≤ 9223372036854775807) (some ((([60] ++ (gi x7_j4 0)) ++ [62]), x0_j4))))) else (if ((gi a0 0).1) = 8 then (need ((0 : Int) ≤ 0 ∧ 0 < (List.length x7_j4 : Int)) (need (List.length ([123] : List UInt8) + List.length (gi x7_j4 0) ≤ 9223372036854775807) (need (List.length (([123] ++ (gi x7_j4 0)) : List UInt8) + List.length [125] ≤ 9223372036854775807) (some ((([123] ++ (gi x7_j4 0)) ++ [125]), x0_j4))))) else (if ((gi a0 0).1) = 9 then (need ((0 : Int) ≤ 0 ∧ 0 < (List.length x7_j4 : Int)) (need (List.length ([40, 124] : List UInt8) + List.length (gi x7_j4 0) ≤ 9223372036854775807) (need (List.length (([40, 124] ++ (gi x7_j4 0)) : List UInt8) + List.length [32, 61, 62, 32] ≤ 9223372036854775807) (need ((0 : Int) ≤ 1 ∧ 1 < (List.length x7_j4 : Int)) (need (List.length ((([40, 124] ++ (gi x7_j4 0)) ++ [32, 61, 62, 32]) : List UInt8) + List.length (gi x7_j4 1) ≤ 9223372036854775807) (need (List.length (((([40, 124] ++ (gi x7_j4 0)) ++ [32, 61, 62, 32]) ++ (gi x7_j4 1)) : List UInt8) + List.length [124, 41] ≤ 9223372036854775807) (some ((((([40, 124] ++ (gi x7_j4 0)) ++ [32, 61, 62, 32]) ++ (gi x7_j4 1)) ++ [124, 41]), x0_j4)))))))) else (if ((gi a0 0).1) = 11 then (need (0 ≤ i64 ((List.length x7_j4 : Int) - 1) ∧ (i64 ((List.length x7_j4 : Int) - 1)) ≤ (List.length x7_j4 : Int)) (bnd1 (m_join (List.take (Int.toNat (i64 ((List.length x7_j4 : Int) - 1))) x7_j4) [44, 32]) (fun y42 => need (List.length ([40] : List UInt8) + List.length y42 ≤ 9223372036854775807) (need (List.length (([40] ++ y42) : List UInt8) + List.length [41, 32, 45, 62, 32] ≤ 9223372036854775807) (need ((0 : Int) ≤ i64 ((List.length x7_j4 : Int) - 1) ∧ (i64 ((List.length x7_j4 : Int) - 1)) < (List.length x7_j4 : Int)) (need (List.length ((([40] ++ y42) ++ [41, 32, 45, 62, 32]) : List UInt8) + List.length (gi x7_j4 (i64 ((List.length x7_j4 : Int) - 1))) ≤ 9223372036854775807) (some (((([40] ++ y42) ++ [41, 32, 45, 62, 32]) ++ (gi x7_j4 (i64 ((List.length x7_j4 : Int) - 1)))), x0_j4)))))))) else (if ((gi a0 0).1) = 12 then (need ((0 : Int) ≤ 0 ∧ 0 < (List.length x7_j4 : Int)) (need (List.length ([40] : List UInt8) + List.length (gi x7_j4 0) ≤ 9223372036854775807) (need (List.length (([40] ++ (gi x7_j4 0)) : List UInt8) + List.length [46] ≤ 9223372036854775807) (need ((0 : Int) ≤ 1 ∧ 1 < (List.length x7_j4 : Int)) (need (List.length ((([40] ++ (gi x7_j4 0)) ++ [46]) : List UInt8) + List.length (gi x7_j4 1) ≤ 9223372036854775807) (need (List.length (((([40] ++ (gi x7_j4 0)) ++ [46]) ++ (gi x7_j4 1)) : List UInt8) + List.length [41] ≤ 9223372036854775807) (some ((((([40] ++ (gi x7_j4 0)) ++ [46]) ++ (gi x7_j4 1)) ++ [41]), x0_j4)))))))) else (if ((gi a0 0).1) = 13 then (need ((0 : Int) ≤ 0 ∧ 0 < (List.length x7_j4 : Int)) (need (List.length ([40] : List UInt8) + List.length (gi x7_j4 0) ≤ 9223372036854775807) (need (List.length (([40] ++ (gi x7_j4 0)) : List UInt8) + List.length [32, 61, 62, 32] ≤ 9223372036854775807) (need ((0 : Int) ≤ 1 ∧ 1 < (List.length x7_j4 : Int)) (need (List.length ((([40] ++ (gi x7_j4 0)) ++ [32, 61, 62, 32]) : List UInt8) + List.length (gi x7_j4 1) ≤ 9223372036854775807) (need (List.length (((([40] ++ (gi x7_j4 0)) ++ [32, 61, 62, 32]) ++ (gi x7_j4 1)) : List UInt8) + List.length [41] ≤ 9223372036854775807) (some ((((([40] ++ (gi x7_j4 0)) ++ [32, 61, 62, 32]) ++ (gi x7_j4 1)) ++ [41]), x0_j4)))))))) else (bnd1 (m_join x7_j4 [44, 32]) (fun y59 => need (List.length ([40] : List UInt8) + List.length y59 ≤ 9223372036854775807) (need (List.length (([40] ++ y59) : List UInt8) + List.length [41] ≤ 9223372036854775807) (some ((([40] ++ y59) ++ [41]), x0_j4))))))))))))))))) (fun k4 => m_types_text_L2 self_types_text a0 a1 k4 FU (List.drop (Int.toNat 1) a0) [] 0)))
/- cspcheck.types.text -/
noncomputable def m_types_text_S : Nat → ((List (Int × Int × Int)) → (List (List UInt8)) → Option ((List UInt8) × (List (Int × Int × Int))))
  | 0 => (fun _ _ => none)
  | n + 1 => m_types_text_F (m_types_text_S n)
noncomputable def m_types_text (a0 : List (Int × Int × Int)) (a1 : List (List UInt8)) : Option ((List UInt8) × (List (Int × Int × Int))) := m_types_text_S FU a0 a1
/- cspcheck.types.Format -/
noncomputable def m_types_Format (a0 : List (Int × Int × Int)) (a1 : List (List UInt8)) : Option (List UInt8) :=
  bnd1 (m_types_Valid a0) (fun y1 => if !y1 then (some ([] : List UInt8)) else (bnd1 (m_types_text a0 a1) (fun y2 => some y2.1)))
/- cspcheck.cspchecklaw7.awake -/
noncomputable def m_law7_awake  : Option Bool :=
  bnd1 (m_ref6_Make 1 0 ([] : List (List (Int × Int × Int)))) (fun y1 => bnd1 (m_ref6_Make 2 0 ([] : List (List (Int × Int × Int)))) (fun y2 => bnd1 (m_types_Unify y1 y2) (fun y3 => bnd1 (m_ref6_Make 7 0 [y1]) (fun y4 => bnd1 (m_types_Unify y1 y4) (fun y5 => jn (fun (x0_j6 : Bool) => some x0_j6) (fun k6 => bnd1 (m_types_Valid y1) (fun y10 => if y10 then (if y3.2 = 0 then (if (List.length y3.1 : Int) = 1 then (need ((0 : Int) ≤ 0 ∧ 0 < (List.length y3.1 : Int)) (if ((gi y3.1 0).1) = 0 then (if y5.2 = 8 then (bnd1 (m_types_Format y1 ([] : List (List UInt8))) (fun y12 => k6 (decide (y12 = [116, 48])))) else (k6 false)) else (k6 false))) else (k6 false)) else (k6 false)) else (k6 false))))))))
/- cspcheck.cspcheckhelp.Equal(cspcheck.api.Need) -/
/- cspcheck.cspchecklaw7.TypesNeeds -/
/- cspcheck.types.Vars -/
/- slices.Clone(()cspcheck.api.TypeNode,cspcheck.api.TypeNode) -/
/- slices.Index(()int,int) -/
/- cspcheck.types.Canon -/
/- slices.Equal(()cspcheck.api.TypeNode,cspcheck.api.TypeNode) -/
/- (cspcheck.types.matcher).match -/
/- (cspcheck.types.matcher).match -/
/- cspcheck.types.Match -/
/- cspcheck.cspcheckhelp.Equal(cspcheck.api.TypeNode) -/
noncomputable def m_help_Equal_api_TypeNode_B2 (a0 : List (Int × Int × Int)) (a1 : List (Int × Int × Int)) (k1 : Unit → Option Bool) (rec2 : Int → Option Bool) (x5_l2 : Int) : Option Bool :=
  if x5_l2 < (List.length a0 : Int) then (need ((0 : Int) ≤ x5_l2 ∧ x5_l2 < (List.length a0 : Int)) (need ((0 : Int) ≤ x5_l2 ∧ x5_l2 < (List.length a1 : Int)) (if ¬ (gi a0 x5_l2) = (gi a1 x5_l2) then (some false) else (rec2 (i64 (x5_l2 + 1)))))) else (k1 ())
noncomputable def m_help_Equal_api_TypeNode_L2 (a0 : List (Int × Int × Int)) (a1 : List (Int × Int × Int)) (k1 : Unit → Option Bool) : Nat → Int → Option Bool
  | 0, _ => none
  | n + 1, x5_l2 => m_help_Equal_api_TypeNode_B2 a0 a1 k1 (m_help_Equal_api_TypeNode_L2 a0 a1 k1 n) x5_l2
noncomputable def m_help_Equal_api_TypeNode (a0 : List (Int × Int × Int)) (a1 : List (Int × Int × Int)) : Option Bool :=
  if ¬ (List.length a0 : Int) = (List.length a1 : Int) then (some false) else (jn (fun (_ : Unit) => some true) (fun k1 => m_help_Equal_api_TypeNode_L2 a0 a1 k1 FU 0))
/- cspcheck.cspchecklaw7.TypesCanon -/
/- cspcheck.cspcheckref6.Equal -/
/- cspcheck.cspcheckref6.end -/
noncomputable def m_ref6_end_B2 (a0 : List (Int × Int × Int)) (k1 : Int → Option Int) (rec2 : Int → Int → Option Int) (x1_l2 : Int) (x5_l2 : Int) : Option Int :=
  if 0 < x5_l2 then (need ((0 : Int) ≤ x1_l2 ∧ x1_l2 < (List.length a0 : Int)) (rec2 (i64 (x1_l2 + 1)) (i64 (x5_l2 + (i64 (((gi a0 x1_l2).2.2) - 1)))))) else (k1 x1_l2)
noncomputable def m_ref6_end_L2 (a0 : List (Int × Int × Int)) (k1 : Int → Option Int) : Nat → Int → Int → Option Int
  | 0, _, _ => none
  | n + 1, x1_l2, x5_l2 => m_ref6_end_B2 a0 k1 (m_ref6_end_L2 a0 k1 n) x1_l2 x5_l2
noncomputable def m_ref6_end (a0 : List (Int × Int × Int)) (a1 : Int) : Option Int :=
  jn (fun (x1_j1 : Int) => some x1_j1) (fun k1 => m_ref6_end_L2 a0 k1 FU a1 1)
/- cspcheck.cspcheckref6.parts -/
noncomputable def m_ref6_parts_B2 (a0 : List (Int × Int × Int)) (k1 : (List (List (Int × Int × Int))) → Option (List (List (Int × Int × Int)))) (rec2 : (List (List (Int × Int × Int))) → Int → Int → Option (List (List (Int × Int × Int)))) (x3_l2 : List (List (Int × Int × Int))) (x4_l2 : Int) (x5_l2 : Int) : Option (List (List (Int × Int × Int))) :=
  need ((0 : Int) ≤ 0 ∧ 0 < (List.length a0 : Int)) (if x5_l2 < ((gi a0 0).2.2) then (bnd1 (m_ref6_end a0 x4_l2) (fun y29 => need ((0 : Int) ≤ x4_l2 ∧ x4_l2 ≤ y29 ∧ y29 ≤ (List.length a0 : Int)) (need (List.length x3_l2 + List.length [List.take (Int.toNat y29 - Int.toNat x4_l2) (List.drop (Int.toNat x4_l2) a0)] ≤ 137438953472) (rec2 (x3_l2 ++ [List.take (Int.toNat y29 - Int.toNat x4_l2) (List.drop (Int.toNat x4_l2) a0)]) y29 (i64 (x5_l2 + 1)))))) else (k1 x3_l2))
noncomputable def m_ref6_parts_L2 (a0 : List (Int × Int × Int)) (k1 : (List (List (Int × Int × Int))) → Option (List (List (Int × Int × Int)))) : Nat → (List (List (Int × Int × Int))) → Int → Int → Option (List (List (Int × Int × Int)))
  | 0, _, _, _ => none
  | n + 1, x3_l2, x4_l2, x5_l2 => m_ref6_parts_B2 a0 k1 (m_ref6_parts_L2 a0 k1 n) x3_l2 x4_l2 x5_l2
noncomputable def m_ref6_parts (a0 : List (Int × Int × Int)) : Option (List (List (Int × Int × Int))) :=
  jn (fun (x3_j1 : List (List (Int × Int × Int))) => some x3_j1) (fun k1 => m_ref6_parts_L2 a0 k1 FU [] 1 0)
/- cspcheck.cspcheckref6.match -/
/- cspcheck.cspcheckref6.match -/
/- cspcheck.cspcheckref6.Match -/
/- cspcheck.cspcheckhelp.SameTypes -/
noncomputable def m_help_SameTypes_B2 (a0 : List (Int × (List (Int × Int × Int)))) (a1 : List (Int × (List (Int × Int × Int)))) (k1 : Unit → Option Bool) (rec2 : Int → Option Bool) (x5_l2 : Int) : Option Bool :=
  if x5_l2 < (List.length a0 : Int) then (jn (fun (x41_j130 : Bool) => if x41_j130 then (some false) else (rec2 (i64 (x5_l2 + 1)))) (fun k130 => need ((0 : Int) ≤ x5_l2 ∧ x5_l2 < (List.length a0 : Int)) (need ((0 : Int) ≤ x5_l2 ∧ x5_l2 < (List.length a1 : Int)) (if ¬ ((gi a0 x5_l2).1) = ((gi a1 x5_l2).1) then (k130 true) else (need ((0 : Int) ≤ x5_l2 ∧ x5_l2 < (List.length a0 : Int)) (need ((0 : Int) ≤ x5_l2 ∧ x5_l2 < (List.length a1 : Int)) (bnd1 (m_help_Equal_api_TypeNode ((gi a0 x5_l2).2) ((gi a1 x5_l2).2)) (fun y140 => k130 (!y140))))))))) else (k1 ())
noncomputable def m_help_SameTypes_L2 (a0 : List (Int × (List (Int × Int × Int)))) (a1 : List (Int × (List (Int × Int × Int)))) (k1 : Unit → Option Bool) : Nat → Int → Option Bool
  | 0, _ => none
  | n + 1, x5_l2 => m_help_SameTypes_B2 a0 a1 k1 (m_help_SameTypes_L2 a0 a1 k1 n) x5_l2
noncomputable def m_help_SameTypes (a0 : List (Int × (List (Int × Int × Int)))) (a1 : List (Int × (List (Int × Int × Int)))) : Option Bool :=
  if ¬ (List.length a0 : Int) = (List.length a1 : Int) then (some false) else (jn (fun (_ : Unit) => some true) (fun k1 => m_help_SameTypes_L2 a0 a1 k1 FU 0))
/- cspcheck.cspcheckref6.substitution -/
/- cspcheck.cspcheckref6.replace -/
/- cspcheck.cspcheckref6.Apply -/
/- cspcheck.types.substitution -/
noncomputable def m_types_substitution_B2 (a0 : List (Int × (List (Int × Int × Int)))) (k2 : (List (Int × (List (Int × Int × Int)))) → Option ((List (Int × (List (Int × Int × Int)))) × Bool)) (rec2 : (List (Int × (List (Int × Int × Int)))) → Int → Option ((List (Int × (List (Int × Int × Int)))) × Bool)) (x4_l2 : List (Int × (List (Int × Int × Int)))) (x10_l2 : Int) : Option ((List (Int × (List (Int × Int × Int)))) × Bool) :=
  if x10_l2 < (List.length a0 : Int) then (need ((0 : Int) ≤ x10_l2 ∧ x10_l2 < (List.length a0 : Int)) (jn (fun (x33_j161 : Bool) => if x33_j161 then (some ([], false)) else (rec2 (putL x4_l2 ((gi a0 x10_l2).1) ((gi a0 x10_l2).2)) (i64 (x10_l2 + 1)))) (fun k161 => bnd1 (m_types_Valid ((gi a0 x10_l2).2)) (fun y164 => if !y164 then (k161 true) else (if 0 < x10_l2 then (need ((0 : Int) ≤ i64 (x10_l2 - 1) ∧ (i64 (x10_l2 - 1)) < (List.length a0 : Int)) (k161 (decide (((gi a0 x10_l2).1) ≤ ((gi a0 (i64 (x10_l2 - 1))).1))))) else (k161 false)))))) else (k2 x4_l2)
noncomputable def m_types_substitution_L2 (a0 : List (Int × (List (Int × Int × Int)))) (k2 : (List (Int × (List (Int × Int × Int)))) → Option ((List (Int × (List (Int × Int × Int)))) × Bool)) : Nat → (List (Int × (List (Int × Int × Int)))) → Int → Option ((List (Int × (List (Int × Int × Int)))) × Bool)
  | 0, _, _ => none
  | n + 1, x4_l2, x10_l2 => m_types_substitution_B2 a0 k2 (m_types_substitution_L2 a0 k2 n) x4_l2 x10_l2
noncomputable def m_types_substitution (a0 : List (Int × (List (Int × Int × Int)))) : Option ((List (Int × (List (Int × Int × Int)))) × Bool) :=
  jn (fun (x4_j2 : List (Int × (List (Int × Int × Int)))) => some (x4_j2, true)) (fun k2 => m_types_substitution_L2 a0 k2 FU ([] : List (Int × (List (Int × Int × Int)))) 0)
/- cspcheck.types.Apply -/
noncomputable def m_types_Apply_B2 (a1 : List (Int × Int × Int)) (y1 : (List (Int × (List (Int × Int × Int)))) × Bool) (k10 : (List (Int × Int × Int)) → Option (List (Int × Int × Int))) (rec2 : (List (Int × Int × Int)) → Int → Option (List (Int × Int × Int))) (x7_l2 : List (Int × Int × Int)) (x26_l2 : Int) : Option (List (Int × Int × Int)) :=
  if x26_l2 < (List.length a1 : Int) then (jn (fun (x7_j87 : List (Int × Int × Int)) => rec2 x7_j87 (i64 (x26_l2 + 1))) (fun k87 => need ((0 : Int) ≤ x26_l2 ∧ x26_l2 < (List.length a1 : Int)) (jn (fun (x42_j97 : Bool) => if x42_j97 then (need (List.length x7_l2 + List.length (Option.getD (lookL y1.1 ((gi a1 x26_l2).2.1)) []) ≤ 137438953472) (k87 (x7_l2 ++ (Option.getD (lookL y1.1 ((gi a1 x26_l2).2.1)) [])))) else (need (List.length x7_l2 + List.length [((gi a1 x26_l2).1, (gi a1 x26_l2).2.1, (gi a1 x26_l2).2.2)] ≤ 137438953472) (k87 (x7_l2 ++ [((gi a1 x26_l2).1, (gi a1 x26_l2).2.1, (gi a1 x26_l2).2.2)])))) (fun k97 => if (Option.isSome (lookL y1.1 ((gi a1 x26_l2).2.1))) then (k97 (decide (((gi a1 x26_l2).1) = 1))) else (k97 false))))) else (k10 x7_l2)
noncomputable def m_types_Apply_L2 (a1 : List (Int × Int × Int)) (y1 : (List (Int × (List (Int × Int × Int)))) × Bool) (k10 : (List (Int × Int × Int)) → Option (List (Int × Int × Int))) : Nat → (List (Int × Int × Int)) → Int → Option (List (Int × Int × Int))
  | 0, _, _ => none
  | n + 1, x7_l2, x26_l2 => m_types_Apply_B2 a1 y1 k10 (m_types_Apply_L2 a1 y1 k10 n) x7_l2 x26_l2
noncomputable def m_types_Apply (a0 : List (Int × (List (Int × Int × Int)))) (a1 : List (Int × Int × Int)) : Option (List (Int × Int × Int)) :=
  bnd1 (m_types_substitution a0) (fun y1 => jn (fun (x23_j7 : Bool) => if x23_j7 then (some []) else (jn (fun (x7_j10 : List (Int × Int × Int)) => bnd1 (m_types_Valid x7_j10) (fun y102 => if !y102 then (some []) else (bnd1 (m_slices_Clip_L_api_TypeNode_api_TypeNode x7_j10) (fun y103 => some y103)))) (fun k10 => m_types_Apply_L2 a1 y1 k10 FU [] 0))) (fun k7 => if !y1.2 then (k7 true) else (bnd1 (m_types_Valid a1) (fun y9 => k7 (!y9)))))
/- cspcheck.cspchecklaw7.TypesMatch -/
/- cspcheck.cspchecklaw7.TypesApply -/
/- cspcheck.cspchecklaw7.TypesUnifySymmetric -/
/- cspcheck.cspcheckref6.has -/
noncomputable def m_ref6_has_B2 (a0 : List Int) (a1 : Int) (k1 : Unit → Option Bool) (rec2 : Int → Option Bool) (x5_l2 : Int) : Option Bool :=
  if x5_l2 < (List.length a0 : Int) then (need ((0 : Int) ≤ x5_l2 ∧ x5_l2 < (List.length a0 : Int)) (if (gi a0 x5_l2) = a1 then (some true) else (rec2 (i64 (x5_l2 + 1))))) else (k1 ())
noncomputable def m_ref6_has_L2 (a0 : List Int) (a1 : Int) (k1 : Unit → Option Bool) : Nat → Int → Option Bool
  | 0, _ => none
  | n + 1, x5_l2 => m_ref6_has_B2 a0 a1 k1 (m_ref6_has_L2 a0 a1 k1 n) x5_l2
noncomputable def m_ref6_has (a0 : List Int) (a1 : Int) : Option Bool :=
  jn (fun (_ : Unit) => some false) (fun k1 => m_ref6_has_L2 a0 a1 k1 FU 0)
/- cspcheck.cspcheckref6.Vars -/
noncomputable def m_ref6_Vars_B2 (a0 : List (Int × Int × Int)) (k1 : (List Int) → Option (List Int)) (rec2 : (List Int) → Int → Option (List Int)) (x3_l2 : List Int) (x4_l2 : Int) : Option (List Int) :=
  if x4_l2 < (List.length a0 : Int) then (jn (fun (x3_j108 : List Int) => rec2 x3_j108 (i64 (x4_l2 + 1))) (fun k108 => jn (fun (x26_j119 : Bool) => if x26_j119 then (need ((0 : Int) ≤ x4_l2 ∧ x4_l2 < (List.length a0 : Int)) (need (List.length x3_l2 + List.length [(gi a0 x4_l2).2.1] ≤ 137438953472) (k108 (x3_l2 ++ [(gi a0 x4_l2).2.1])))) else (k108 x3_l2)) (fun k119 => need ((0 : Int) ≤ x4_l2 ∧ x4_l2 < (List.length a0 : Int)) (if ((gi a0 x4_l2).1) = 1 then (need ((0 : Int) ≤ x4_l2 ∧ x4_l2 < (List.length a0 : Int)) (bnd1 (m_ref6_has x3_l2 ((gi a0 x4_l2).2.1)) (fun y125 => k119 (!y125)))) else (k119 false))))) else (k1 x3_l2)
noncomputable def m_ref6_Vars_L2 (a0 : List (Int × Int × Int)) (k1 : (List Int) → Option (List Int)) : Nat → (List Int) → Int → Option (List Int)
  | 0, _, _ => none
  | n + 1, x3_l2, x4_l2 => m_ref6_Vars_B2 a0 k1 (m_ref6_Vars_L2 a0 k1 n) x3_l2 x4_l2
noncomputable def m_ref6_Vars (a0 : List (Int × Int × Int)) : Option (List Int) :=
  jn (fun (x3_j1 : List Int) => some x3_j1) (fun k1 => m_ref6_Vars_L2 a0 k1 FU [] 0)
/- cspcheck.cspcheckhelp.Has(int) -/
noncomputable def m_help_Has_int_B2 (a0 : List Int) (a1 : Int) (k1 : Unit → Option Bool) (rec2 : Int → Option Bool) (x5_l2 : Int) : Option Bool :=
  if x5_l2 < (List.length a0 : Int) then (need ((0 : Int) ≤ x5_l2 ∧ x5_l2 < (List.length a0 : Int)) (if (gi a0 x5_l2) = a1 then (some true) else (rec2 (i64 (x5_l2 + 1))))) else (k1 ())
noncomputable def m_help_Has_int_L2 (a0 : List Int) (a1 : Int) (k1 : Unit → Option Bool) : Nat → Int → Option Bool
  | 0, _ => none
  | n + 1, x5_l2 => m_help_Has_int_B2 a0 a1 k1 (m_help_Has_int_L2 a0 a1 k1 n) x5_l2
noncomputable def m_help_Has_int (a0 : List Int) (a1 : Int) : Option Bool :=
  jn (fun (_ : Unit) => some false) (fun k1 => m_help_Has_int_L2 a0 a1 k1 FU 0)
/- cspcheck.cspchecklaw7.TypesUnifyMakesEqual -/
/- cspcheck.cspchecklaw7.TypesUnifyMostGeneral -/
/- cspcheck.types.Equal -/
/- cspcheck.cspcheckhelp.Equal(int) -/
/- cspcheck.cspcheckref6.Canon -/
/- cspcheck.cspcheckref6.digits -/
/- cspcheck.cspcheckref6.comma -/
/- cspcheck.cspcheckref6.text -/
/- cspcheck.cspcheckref6.text -/
/- cspcheck.cspcheckref6.Format -/
/- cspcheck.cspchecklaw7.TypesDescribe -/
/- (*cspcheck.cspcheckref6.solver).add -/
noncomputable def m_ref6_solver_add_B2 (self_ref6_solver_add : ((List ((Int × Int × Int) × (List Int) × Int)) × (List (Int × Int))) → (List (Int × Int × Int)) → Option (Int × ((List ((Int × Int × Int) × (List Int) × Int)) × (List (Int × Int))))) (y6 : (List (List (Int × Int × Int)))) (k7 : (List ((Int × Int × Int) × (List Int) × Int)) → (List (Int × Int)) → (List Int) → Option (Int × ((List ((Int × Int × Int) × (List Int) × Int)) × (List (Int × Int))))) (rec2 : (List ((Int × Int × Int) × (List Int) × Int)) → (List (Int × Int)) → (List Int) → Int → Option (Int × ((List ((Int × Int × Int) × (List Int) × Int)) × (List (Int × Int))))) (x0_0_l2 : List ((Int × Int × Int) × (List Int) × Int)) (x0_1_l2 : List (Int × Int)) (x7_l2 : List Int) (x9_l2 : Int) : Option (Int × ((List ((Int × Int × Int) × (List Int) × Int)) × (List (Int × Int)))) :=
  if x9_l2 < (List.length y6 : Int) then (need ((0 : Int) ≤ x9_l2 ∧ x9_l2 < (List.length y6 : Int)) (bnd1 (self_ref6_solver_add (x0_0_l2, x0_1_l2) (gi y6 x9_l2)) (fun y35 => need (List.length x7_l2 + List.length [y35.1] ≤ 137438953472) (rec2 y35.2.1 y35.2.2 (x7_l2 ++ [y35.1]) (i64 (x9_l2 + 1)))))) else (k7 x0_0_l2 x0_1_l2 x7_l2)
noncomputable def m_ref6_solver_add_L2 (self_ref6_solver_add : ((List ((Int × Int × Int) × (List Int) × Int)) × (List (Int × Int))) → (List (Int × Int × Int)) → Option (Int × ((List ((Int × Int × Int) × (List Int) × Int)) × (List (Int × Int))))) (y6 : (List (List (Int × Int × Int)))) (k7 : (List ((Int × Int × Int) × (List Int) × Int)) → (List (Int × Int)) → (List Int) → Option (Int × ((List ((Int × Int × Int) × (List Int) × Int)) × (List (Int × Int))))) : Nat → (List ((Int × Int × Int) × (List Int) × Int)) → (List (Int × Int)) → (List Int) → Int → Option (Int × ((List ((Int × Int × Int) × (List Int) × Int)) × (List (Int × Int))))
  | 0, _, _, _, _ => none
  | n + 1, x0_0_l2, x0_1_l2, x7_l2, x9_l2 => m_ref6_solver_add_B2 self_ref6_solver_add y6 k7 (m_ref6_solver_add_L2 self_ref6_solver_add y6 k7 n) x0_0_l2 x0_1_l2 x7_l2 x9_l2
noncomputable def m_ref6_solver_add_F (self_ref6_solver_add : ((List ((Int × Int × Int) × (List Int) × Int)) × (List (Int × Int))) → (List (Int × Int × Int)) → Option (Int × ((List ((Int × Int × Int) × (List Int) × Int)) × (List (Int × Int))))) (a0 : (List ((Int × Int × Int) × (List Int) × Int)) × (List (Int × Int))) (a1 : List (Int × Int × Int)) : Option (Int × ((List ((Int × Int × Int) × (List Int) × Int)) × (List (Int × Int)))) :=
  jn (fun (_ : Unit) => bnd1 (m_ref6_parts a1) (fun y6 => jn (fun (x0_0_j7 : List ((Int × Int × Int) × (List Int) × Int)) (x0_1_j7 : List (Int × Int)) (x7_j7 : List Int) => need ((0 : Int) ≤ 0 ∧ 0 < (List.length a1 : Int)) (need (List.length x0_0_j7 + List.length [(gi a1 0, x7_j7, (-1))] ≤ 137438953472) (jn (fun (x0_1_j43 : List (Int × Int)) => some (i64 ((List.length (x0_0_j7 ++ [(gi a1 0, x7_j7, (-1))]) : Int) - 1), ((x0_0_j7 ++ [(gi a1 0, x7_j7, (-1))]), x0_1_j43))) (fun k43 => need ((0 : Int) ≤ 0 ∧ 0 < (List.length a1 : Int)) (if ((gi a1 0).1) = 1 then (jn (fun (x0_1_j52 : List (Int × Int)) => need ((0 : Int) ≤ 0 ∧ 0 < (List.length a1 : Int)) (k43 (putL x0_1_j52 ((gi a1 0).2.1) (i64 ((List.length (x0_0_j7 ++ [(gi a1 0, x7_j7, (-1))]) : Int) - 1))))) (fun k52 => nilc (x0_1_j7 = []) (k52 ([] : List (Int × Int))) (k52 x0_1_j7))) else (k43 x0_1_j7)))))) (fun k7 => m_ref6_solver_add_L2 self_ref6_solver_add y6 k7 FU a0.1 a0.2 [] 0))) (fun k1 => need ((0 : Int) ≤ 0 ∧ 0 < (List.length a1 : Int)) (if ((gi a1 0).1) = 1 then (need ((0 : Int) ≤ 0 ∧ 0 < (List.length a1 : Int)) (if (Option.isSome (lookL a0.2 ((gi a1 0).2.1))) then (some ((Option.getD (lookL a0.2 ((gi a1 0).2.1)) 0), (a0.1, a0.2))) else (k1 ()))) else (k1 ())))
/- (*cspcheck.cspcheckref6.solver).add -/
noncomputable def m_ref6_solver_add_S : Nat → (((List ((Int × Int × Int) × (List Int) × Int)) × (List (Int × Int))) → (List (Int × Int × Int)) → Option (Int × ((List ((Int × Int × Int) × (List Int) × Int)) × (List (Int × Int)))))
  | 0 => (fun _ _ => none)
  | n + 1 => m_ref6_solver_add_F (m_ref6_solver_add_S n)
noncomputable def m_ref6_solver_add (a0 : (List ((Int × Int × Int) × (List Int) × Int)) × (List (Int × Int))) (a1 : List (Int × Int × Int)) : Option (Int × ((List ((Int × Int × Int) × (List Int) × Int)) × (List (Int × Int)))) := m_ref6_solver_add_S FU a0 a1
/- (*cspcheck.cspcheckref6.solver).find -/
noncomputable def m_ref6_solver_find_B2 (a0 : (List ((Int × Int × Int) × (List Int) × Int)) × (List (Int × Int))) (k1 : Int → Option (Int × ((List ((Int × Int × Int) × (List Int) × Int)) × (List (Int × Int))))) (rec2 : Int → Option (Int × ((List ((Int × Int × Int) × (List Int) × Int)) × (List (Int × Int))))) (x1_l2 : Int) : Option (Int × ((List ((Int × Int × Int) × (List Int) × Int)) × (List (Int × Int)))) :=
  need ((0 : Int) ≤ x1_l2 ∧ x1_l2 < (List.length a0.1 : Int)) (if 0 ≤ ((gi a0.1 x1_l2).2.2) then (need ((0 : Int) ≤ x1_l2 ∧ x1_l2 < (List.length a0.1 : Int)) (rec2 ((gi a0.1 x1_l2).2.2))) else (k1 x1_l2))
noncomputable def m_ref6_solver_find_L2 (a0 : (List ((Int × Int × Int) × (List Int) × Int)) × (List (Int × Int))) (k1 : Int → Option (Int × ((List ((Int × Int × Int) × (List Int) × Int)) × (List (Int × Int))))) : Nat → Int → Option (Int × ((List ((Int × Int × Int) × (List Int) × Int)) × (List (Int × Int))))
  | 0, _ => none
  | n + 1, x1_l2 => m_ref6_solver_find_B2 a0 k1 (m_ref6_solver_find_L2 a0 k1 n) x1_l2
noncomputable def m_ref6_solver_find (a0 : (List ((Int × Int × Int) × (List Int) × Int)) × (List (Int × Int))) (a1 : Int) : Option (Int × ((List ((Int × Int × Int) × (List Int) × Int)) × (List (Int × Int)))) :=
  jn (fun (x1_j1 : Int) => some (x1_j1, (a0.1, a0.2))) (fun k1 => m_ref6_solver_find_L2 a0 k1 FU a1)
/- (*cspcheck.cspcheckref6.solver).contains -/
noncomputable def m_ref6_solver_contains_B2 (self_ref6_solver_contains : ((List ((Int × Int × Int) × (List Int) × Int)) × (List (Int × Int))) → Int → Int → (List Bool) → Option (Bool × ((List ((Int × Int × Int) × (List Int) × Int)) × (List (Int × Int))) × (List Bool))) (a2 : Int) (y1 : Int × ((List ((Int × Int × Int) × (List Int) × Int)) × (List (Int × Int)))) (k11 : (List ((Int × Int × Int) × (List Int) × Int)) → (List (Int × Int)) → (List Bool) → Option (Bool × ((List ((Int × Int × Int) × (List Int) × Int)) × (List (Int × Int))) × (List Bool))) (rec2 : (List ((Int × Int × Int) × (List Int) × Int)) → (List (Int × Int)) → (List Bool) → Int → Option (Bool × ((List ((Int × Int × Int) × (List Int) × Int)) × (List (Int × Int))) × (List Bool))) (x0_0_l2 : List ((Int × Int × Int) × (List Int) × Int)) (x0_1_l2 : List (Int × Int)) (x3_l2 : List Bool) (x9_l2 : Int) : Option (Bool × ((List ((Int × Int × Int) × (List Int) × Int)) × (List (Int × Int))) × (List Bool)) :=
  need ((0 : Int) ≤ y1.1 ∧ y1.1 < (List.length x0_0_l2 : Int)) (if x9_l2 < (List.length ((gi x0_0_l2 y1.1).2.1) : Int) then (need ((0 : Int) ≤ y1.1 ∧ y1.1 < (List.length x0_0_l2 : Int)) (need ((0 : Int) ≤ x9_l2 ∧ x9_l2 < (List.length ((gi x0_0_l2 y1.1).2.1) : Int)) (bnd1 (self_ref6_solver_contains (x0_0_l2, x0_1_l2) (gi ((gi x0_0_l2 y1.1).2.1) x9_l2) a2 x3_l2) (fun y41 => if y41.1 then (some (true, (y41.2.1.1, y41.2.1.2), y41.2.2)) else (rec2 y41.2.1.1 y41.2.1.2 y41.2.2 (i64 (x9_l2 + 1))))))) else (k11 x0_0_l2 x0_1_l2 x3_l2))
noncomputable def m_ref6_solver_contains_L2 (self_ref6_solver_contains : ((List ((Int × Int × Int) × (List Int) × Int)) × (List (Int × Int))) → Int → Int → (List Bool) → Option (Bool × ((List ((Int × Int × Int) × (List Int) × Int)) × (List (Int × Int))) × (List Bool))) (a2 : Int) (y1 : Int × ((List ((Int × Int × Int) × (List Int) × Int)) × (List (Int × Int)))) (k11 : (List ((Int × Int × Int) × (List Int) × Int)) → (List (Int × Int)) → (List Bool) → Option (Bool × ((List ((Int × Int × Int) × (List Int) × Int)) × (List (Int × Int))) × (List Bool))) : Nat → (List ((Int × Int × Int) × (List Int) × Int)) → (List (Int × Int)) → (List Bool) → Int → Option (Bool × ((List ((Int × Int × Int) × (List Int) × Int)) × (List (Int × Int))) × (List Bool))
  | 0, _, _, _, _ => none
  | n + 1, x0_0_l2, x0_1_l2, x3_l2, x9_l2 => m_ref6_solver_contains_B2 self_ref6_solver_contains a2 y1 k11 (m_ref6_solver_contains_L2 self_ref6_solver_contains a2 y1 k11 n) x0_0_l2 x0_1_l2 x3_l2 x9_l2
noncomputable def m_ref6_solver_contains_F (self_ref6_solver_contains : ((List ((Int × Int × Int) × (List Int) × Int)) × (List (Int × Int))) → Int → Int → (List Bool) → Option (Bool × ((List ((Int × Int × Int) × (List Int) × Int)) × (List (Int × Int))) × (List Bool))) (a0 : (List ((Int × Int × Int) × (List Int) × Int)) × (List (Int × Int))) (a1 : Int) (a2 : Int) (a3 : List Bool) : Option (Bool × ((List ((Int × Int × Int) × (List Int) × Int)) × (List (Int × Int))) × (List Bool)) :=
  bnd1 (m_ref6_solver_find (a0.1, a0.2) a1) (fun y1 => jn (fun (x21_j7 : Bool) => if x21_j7 then (some (decide (y1.1 = a2), (y1.2.1, y1.2.2), a3)) else (need ((0 : Int) ≤ y1.1 ∧ y1.1 < (List.length a3 : Int)) (jn (fun (x0_0_j11 : List ((Int × Int × Int) × (List Int) × Int)) (x0_1_j11 : List (Int × Int)) (x3_j11 : List Bool) => some (false, (x0_0_j11, x0_1_j11), x3_j11)) (fun k11 => m_ref6_solver_contains_L2 self_ref6_solver_contains a2 y1 k11 FU y1.2.1 y1.2.2 (List.set a3 (Int.toNat y1.1) true) 0)))) (fun k7 => if y1.1 = a2 then (k7 true) else (need ((0 : Int) ≤ y1.1 ∧ y1.1 < (List.length a3 : Int)) (k7 (gi a3 y1.1)))))
/- (*cspcheck.cspcheckref6.solver).contains -/
noncomputable def m_ref6_solver_contains_S : Nat → (((List ((Int × Int × Int) × (List Int) × Int)) × (List (Int × Int))) → Int → Int → (List Bool) → Option (Bool × ((List ((Int × Int × Int) × (List Int) × Int)) × (List (Int × Int))) × (List Bool)))
  | 0 => (fun _ _ _ _ => none)
  | n + 1 => m_ref6_solver_contains_F (m_ref6_solver_contains_S n)
noncomputable def m_ref6_solver_contains (a0 : (List ((Int × Int × Int) × (List Int) × Int)) × (List (Int × Int))) (a1 : Int) (a2 : Int) (a3 : List Bool) : Option (Bool × ((List ((Int × Int × Int) × (List Int) × Int)) × (List (Int × Int))) × (List Bool)) := m_ref6_solver_contains_S FU a0 a1 a2 a3
/- (*cspcheck.cspcheckref6.solver).same -/
noncomputable def m_ref6_solver_same_B2 (self_ref6_solver_same : ((List ((Int × Int × Int) × (List Int) × Int)) × (List (Int × Int))) → Int → Int → Option (Int × ((List ((Int × Int × Int) × (List Int) × Int)) × (List (Int × Int))))) (y1 : Int × ((List ((Int × Int × Int) × (List Int) × Int)) × (List (Int × Int)))) (y3 : Int × ((List ((Int × Int × Int) × (List Int) × Int)) × (List (Int × Int)))) (k30 : (List ((Int × Int × Int) × (List Int) × Int)) → (List (Int × Int)) → Option (Int × ((List ((Int × Int × Int) × (List Int) × Int)) × (List (Int × Int))))) (rec2 : (List ((Int × Int × Int) × (List Int) × Int)) → (List (Int × Int)) → Int → Option (Int × ((List ((Int × Int × Int) × (List Int) × Int)) × (List (Int × Int))))) (x0_0_l2 : List ((Int × Int × Int) × (List Int) × Int)) (x0_1_l2 : List (Int × Int)) (x9_l2 : Int) : Option (Int × ((List ((Int × Int × Int) × (List Int) × Int)) × (List (Int × Int)))) :=
  need ((0 : Int) ≤ y1.1 ∧ y1.1 < (List.length x0_0_l2 : Int)) (if x9_l2 < (List.length ((gi x0_0_l2 y1.1).2.1) : Int) then (need ((0 : Int) ≤ y1.1 ∧ y1.1 < (List.length x0_0_l2 : Int)) (need ((0 : Int) ≤ x9_l2 ∧ x9_l2 < (List.length ((gi x0_0_l2 y1.1).2.1) : Int)) (need ((0 : Int) ≤ y3.1 ∧ y3.1 < (List.length x0_0_l2 : Int)) (need ((0 : Int) ≤ x9_l2 ∧ x9_l2 < (List.length ((gi x0_0_l2 y3.1).2.1) : Int)) (bnd1 (self_ref6_solver_same (x0_0_l2, x0_1_l2) (gi ((gi x0_0_l2 y1.1).2.1) x9_l2) (gi ((gi x0_0_l2 y3.1).2.1) x9_l2)) (fun y72 => if ¬ y72.1 = 0 then (some (y72.1, (y72.2.1, y72.2.2))) else (rec2 y72.2.1 y72.2.2 (i64 (x9_l2 + 1))))))))) else (k30 x0_0_l2 x0_1_l2))
noncomputable def m_ref6_solver_same_L2 (self_ref6_solver_same : ((List ((Int × Int × Int) × (List Int) × Int)) × (List (Int × Int))) → Int → Int → Option (Int × ((List ((Int × Int × Int) × (List Int) × Int)) × (List (Int × Int))))) (y1 : Int × ((List ((Int × Int × Int) × (List Int) × Int)) × (List (Int × Int)))) (y3 : Int × ((List ((Int × Int × Int) × (List Int) × Int)) × (List (Int × Int)))) (k30 : (List ((Int × Int × Int) × (List Int) × Int)) → (List (Int × Int)) → Option (Int × ((List ((Int × Int × Int) × (List Int) × Int)) × (List (Int × Int))))) : Nat → (List ((Int × Int × Int) × (List Int) × Int)) → (List (Int × Int)) → Int → Option (Int × ((List ((Int × Int × Int) × (List Int) × Int)) × (List (Int × Int))))
  | 0, _, _, _ => none
  | n + 1, x0_0_l2, x0_1_l2, x9_l2 => m_ref6_solver_same_B2 self_ref6_solver_same y1 y3 k30 (m_ref6_solver_same_L2 self_ref6_solver_same y1 y3 k30 n) x0_0_l2 x0_1_l2 x9_l2
noncomputable def m_ref6_solver_same_F (self_ref6_solver_same : ((List ((Int × Int × Int) × (List Int) × Int)) × (List (Int × Int))) → Int → Int → Option (Int × ((List ((Int × Int × Int) × (List Int) × Int)) × (List (Int × Int))))) (a0 : (List ((Int × Int × Int) × (List Int) × Int)) × (List (Int × Int))) (a1 : Int) (a2 : Int) : Option (Int × ((List ((Int × Int × Int) × (List Int) × Int)) × (List (Int × Int)))) :=
  bnd1 (m_ref6_solver_find (a0.1, a0.2) a1) (fun y1 => bnd1 (m_ref6_solver_find (y1.2.1, y1.2.2) a2) (fun y3 => need ((0 : Int) ≤ y1.1 ∧ y1.1 < (List.length y3.2.1 : Int)) (need ((0 : Int) ≤ y3.1 ∧ y3.1 < (List.length y3.2.1 : Int)) (if y1.1 = y3.1 then (some (0, (y3.2.1, y3.2.2))) else (jn (fun (x37_j20 : Bool) => if x37_j20 then (jn (fun (x1_j21 : Int) (x2_j21 : Int) => need ((0 : Int) ≤ x2_j21 ∧ x2_j21 < (List.length y3.2.1 : Int)) (some (0, ((List.set y3.2.1 (Int.toNat x2_j21) ((gi y3.2.1 x2_j21).1, (gi y3.2.1 x2_j21).2.1, x1_j21)), y3.2.2)))) (fun k21 => if (((gi y3.2.1 y3.1).1).2.1) < (((gi y3.2.1 y1.1).1).2.1) then (k21 y3.1 y1.1) else (k21 y1.1 y3.1))) else (jn (fun (x61_j23 : Bool) => if x61_j23 then (jn (fun (x1_j24 : Int) (x2_j24 : Int) => need ((0 : Int) ≤ (List.length y3.2.1 : Int) ∧ ((List.length y3.2.1 : Int) : Int) ≤ 137438953472) (bnd1 (m_ref6_solver_contains (y3.2.1, y3.2.2) x2_j24 x1_j24 (List.replicate (Int.toNat (List.length y3.2.1 : Int)) (false : Bool))) (fun y27 => if y27.1 then (some (8, (y27.2.1.1, y27.2.1.2))) else (need ((0 : Int) ≤ x1_j24 ∧ x1_j24 < (List.length y27.2.1.1 : Int)) (some (0, ((List.set y27.2.1.1 (Int.toNat x1_j24) ((gi y27.2.1.1 x1_j24).1, (gi y27.2.1.1 x1_j24).2.1, x2_j24)), y27.2.1.2))))))) (fun k24 => if (((gi y3.2.1 y3.1).1).1) = 1 then (k24 y3.1 y1.1) else (k24 y1.1 y3.1))) else (if ¬ (((gi y3.2.1 y1.1).1).1, ((gi y3.2.1 y1.1).1).2.1, ((gi y3.2.1 y1.1).1).2.2) = (((gi y3.2.1 y3.1).1).1, ((gi y3.2.1 y3.1).1).2.1, ((gi y3.2.1 y3.1).1).2.2) then (some (6, (y3.2.1, y3.2.2))) else (jn (fun (x0_0_j30 : List ((Int × Int × Int) × (List Int) × Int)) (x0_1_j30 : List (Int × Int)) => jn (fun (x0_0_j74 : List ((Int × Int × Int) × (List Int) × Int)) (x0_1_j74 : List (Int × Int)) => some (0, (x0_0_j74, x0_1_j74))) (fun k74 => bnd1 (m_ref6_solver_find (x0_0_j30, x0_1_j30) y1.1) (fun y80 => bnd1 (m_ref6_solver_find (y80.2.1, y80.2.2) y3.1) (fun y82 => if ¬ y80.1 = y82.1 then (need ((0 : Int) ≤ y80.1 ∧ y80.1 < (List.length y82.2.1 : Int)) (k74 (List.set y82.2.1 (Int.toNat y80.1) ((gi y82.2.1 y80.1).1, (gi y82.2.1 y80.1).2.1, y82.1)) y82.2.2)) else (k74 y82.2.1 y82.2.2))))) (fun k30 => m_ref6_solver_same_L2 self_ref6_solver_same y1 y3 k30 FU y3.2.1 y3.2.2 0)))) (fun k23 => if (((gi y3.2.1 y1.1).1).1) = 1 then (k23 true) else (k23 (decide ((((gi y3.2.1 y3.1).1).1) = 1)))))) (fun k20 => if (((gi y3.2.1 y1.1).1).1) = 1 then (k20 (decide ((((gi y3.2.1 y3.1).1).1) = 1))) else (k20 false)))))))
/- (*cspcheck.cspcheckref6.solver).same -/
noncomputable def m_ref6_solver_same_S : Nat → (((List ((Int × Int × Int) × (List Int) × Int)) × (List (Int × Int))) → Int → Int → Option (Int × ((List ((Int × Int × Int) × (List Int) × Int)) × (List (Int × Int)))))
  | 0 => (fun _ _ _ => none)
  | n + 1 => m_ref6_solver_same_F (m_ref6_solver_same_S n)
noncomputable def m_ref6_solver_same (a0 : (List ((Int × Int × Int) × (List Int) × Int)) × (List (Int × Int))) (a1 : Int) (a2 : Int) : Option (Int × ((List ((Int × Int × Int) × (List Int) × Int)) × (List (Int × Int)))) := m_ref6_solver_same_S FU a0 a1 a2
/- (*cspcheck.cspcheckref6.solver).solve -/
noncomputable def m_ref6_solver_solve (a0 : (List ((Int × Int × Int) × (List Int) × Int)) × (List (Int × Int))) (a1 : List (Int × Int × Int)) (a2 : List (Int × Int × Int)) : Option (Int × ((List ((Int × Int × Int) × (List Int) × Int)) × (List (Int × Int)))) :=
  bnd1 (m_ref6_solver_add (a0.1, a0.2) a1) (fun y1 => bnd1 (m_ref6_solver_add (y1.2.1, y1.2.2) a2) (fun y3 => bnd1 (m_ref6_solver_same (y3.2.1, y3.2.2) y1.1 y3.1) (fun y5 => some (y5.1, (y5.2.1, y5.2.2)))))
/- (*cspcheck.cspcheckref6.solver).measure -/
noncomputable def m_ref6_solver_measure_B2 (self_ref6_solver_measure : ((List ((Int × Int × Int) × (List Int) × Int)) × (List (Int × Int))) → Int → (List Int) → (List Int) → Option (Int × Int × ((List ((Int × Int × Int) × (List Int) × Int)) × (List (Int × Int))) × (List Int) × (List Int))) (y1 : Int × ((List ((Int × Int × Int) × (List Int) × Int)) × (List (Int × Int)))) (k6 : (List ((Int × Int × Int) × (List Int) × Int)) → (List (Int × Int)) → (List Int) → (List Int) → Int → Int → Option (Int × Int × ((List ((Int × Int × Int) × (List Int) × Int)) × (List (Int × Int))) × (List Int) × (List Int))) (rec2 : (List ((Int × Int × Int) × (List Int) × Int)) → (List (Int × Int)) → (List Int) → (List Int) → Int → Int → Int → Option (Int × Int × ((List ((Int × Int × Int) × (List Int) × Int)) × (List (Int × Int))) × (List Int) × (List Int))) (x0_0_l2 : List ((Int × Int × Int) × (List Int) × Int)) (x0_1_l2 : List (Int × Int)) (x2_l2 : List Int) (x3_l2 : List Int) (x10_l2 : Int) (x11_l2 : Int) (x12_l2 : Int) : Option (Int × Int × ((List ((Int × Int × Int) × (List Int) × Int)) × (List (Int × Int))) × (List Int) × (List Int)) :=
  need ((0 : Int) ≤ y1.1 ∧ y1.1 < (List.length x0_0_l2 : Int)) (if x12_l2 < (List.length ((gi x0_0_l2 y1.1).2.1) : Int) then (need ((0 : Int) ≤ y1.1 ∧ y1.1 < (List.length x0_0_l2 : Int)) (need ((0 : Int) ≤ x12_l2 ∧ x12_l2 < (List.length ((gi x0_0_l2 y1.1).2.1) : Int)) (bnd1 (self_ref6_solver_measure (x0_0_l2, x0_1_l2) (gi ((gi x0_0_l2 y1.1).2.1) x12_l2) x2_l2 x3_l2) (fun y36 => rec2 y36.2.2.1.1 y36.2.2.1.2 y36.2.2.2.1 y36.2.2.2.2 (min (i64 (x10_l2 + y36.1)) 1048576) (max x11_l2 (i64 (y36.2.1 + 1))) (i64 (x12_l2 + 1)))))) else (k6 x0_0_l2 x0_1_l2 x2_l2 x3_l2 x10_l2 x11_l2))
noncomputable def m_ref6_solver_measure_L2 (self_ref6_solver_measure : ((List ((Int × Int × Int) × (List Int) × Int)) × (List (Int × Int))) → Int → (List Int) → (List Int) → Option (Int × Int × ((List ((Int × Int × Int) × (List Int) × Int)) × (List (Int × Int))) × (List Int) × (List Int))) (y1 : Int × ((List ((Int × Int × Int) × (List Int) × Int)) × (List (Int × Int)))) (k6 : (List ((Int × Int × Int) × (List Int) × Int)) → (List (Int × Int)) → (List Int) → (List Int) → Int → Int → Option (Int × Int × ((List ((Int × Int × Int) × (List Int) × Int)) × (List (Int × Int))) × (List Int) × (List Int))) : Nat → (List ((Int × Int × Int) × (List Int) × Int)) → (List (Int × Int)) → (List Int) → (List Int) → Int → Int → Int → Option (Int × Int × ((List ((Int × Int × Int) × (List Int) × Int)) × (List (Int × Int))) × (List Int) × (List Int))
  | 0, _, _, _, _, _, _, _ => none
  | n + 1, x0_0_l2, x0_1_l2, x2_l2, x3_l2, x10_l2, x11_l2, x12_l2 => m_ref6_solver_measure_B2 self_ref6_solver_measure y1 k6 (m_ref6_solver_measure_L2 self_ref6_solver_measure y1 k6 n) x0_0_l2 x0_1_l2 x2_l2 x3_l2 x10_l2 x11_l2 x12_l2
noncomputable def m_ref6_solver_measure_F (self_ref6_solver_measure : ((List ((Int × Int × Int) × (List Int) × Int)) × (List (Int × Int))) → Int → (List Int) → (List Int) → Option (Int × Int × ((List ((Int × Int × Int) × (List Int) × Int)) × (List (Int × Int))) × (List Int) × (List Int))) (a0 : (List ((Int × Int × Int) × (List Int) × Int)) × (List (Int × Int))) (a1 : Int) (a2 : List Int) (a3 : List Int) : Option (Int × Int × ((List ((Int × Int × Int) × (List Int) × Int)) × (List (Int × Int))) × (List Int) × (List Int)) :=
  bnd1 (m_ref6_solver_find (a0.1, a0.2) a1) (fun y1 => need ((0 : Int) ≤ y1.1 ∧ y1.1 < (List.length a2 : Int)) (if 0 < (gi a2 y1.1) then (need ((0 : Int) ≤ y1.1 ∧ y1.1 < (List.length a2 : Int)) (need ((0 : Int) ≤ y1.1 ∧ y1.1 < (List.length a3 : Int)) (some (gi a2 y1.1, gi a3 y1.1, (y1.2.1, y1.2.2), a2, a3)))) else (jn (fun (x0_0_j6 : List ((Int × Int × Int) × (List Int) × Int)) (x0_1_j6 : List (Int × Int)) (x2_j6 : List Int) (x3_j6 : List Int) (x10_j6 : Int) (x11_j6 : Int) => need ((0 : Int) ≤ y1.1 ∧ y1.1 < (List.length x2_j6 : Int)) (need ((0 : Int) ≤ y1.1 ∧ y1.1 < (List.length x3_j6 : Int)) (some (x10_j6, x11_j6, (x0_0_j6, x0_1_j6), (List.set x2_j6 (Int.toNat y1.1) x10_j6), (List.set x3_j6 (Int.toNat y1.1) x11_j6))))) (fun k6 => m_ref6_solver_measure_L2 self_ref6_solver_measure y1 k6 FU y1.2.1 y1.2.2 a2 a3 1 1 0))))
/- (*cspcheck.cspcheckref6.solver).measure -/
noncomputable def m_ref6_solver_measure_S : Nat → (((List ((Int × Int × Int) × (List Int) × Int)) × (List (Int × Int))) → Int → (List Int) → (List Int) → Option (Int × Int × ((List ((Int × Int × Int) × (List Int) × Int)) × (List (Int × Int))) × (List Int) × (List Int)))
  | 0 => (fun _ _ _ _ => none)
  | n + 1 => m_ref6_solver_measure_F (m_ref6_solver_measure_S n)
noncomputable def m_ref6_solver_measure (a0 : (List ((Int × Int × Int) × (List Int) × Int)) × (List (Int × Int))) (a1 : Int) (a2 : List Int) (a3 : List Int) : Option (Int × Int × ((List ((Int × Int × Int) × (List Int) × Int)) × (List (Int × Int))) × (List Int) × (List Int)) := m_ref6_solver_measure_S FU a0 a1 a2 a3
/- (*cspcheck.cspcheckref6.solver).fits -/
noncomputable def m_ref6_solver_fits (a0 : (List ((Int × Int × Int) × (List Int) × Int)) × (List (Int × Int))) (a1 : List (Int × Int × Int)) : Option (Bool × ((List ((Int × Int × Int) × (List Int) × Int)) × (List (Int × Int)))) :=
  bnd1 (m_ref6_solver_add (a0.1, a0.2) a1) (fun y1 => need ((0 : Int) ≤ (List.length y1.2.1 : Int) ∧ ((List.length y1.2.1 : Int) : Int) ≤ 137438953472) (need ((0 : Int) ≤ (List.length y1.2.1 : Int) ∧ ((List.length y1.2.1 : Int) : Int) ≤ 137438953472) (bnd1 (m_ref6_solver_measure (y1.2.1, y1.2.2) y1.1 (List.replicate (Int.toNat (List.length y1.2.1 : Int)) (0 : Int)) (List.replicate (Int.toNat (List.length y1.2.1 : Int)) (0 : Int))) (fun y7 => jn (fun (x4_j9 : Bool) => some (x4_j9, (y7.2.2.1.1, y7.2.2.1.2))) (fun k9 => if y7.1 ≤ 512 then (k9 (decide (y7.2.1 ≤ 64))) else (k9 false))))))
/- cspcheck.cspcheckref6.sorted -/
noncomputable def m_ref6_sorted_B14 (k470 : (List Int) → Option (List Int)) (rec14 : (List Int) → Int → Option (List Int)) (x3_l14 : List Int) (x5_l14 : Int) : Option (List Int) :=
  jn (fun (x28_j553 : Bool) => if x28_j553 then (need ((0 : Int) ≤ i64 (x5_l14 - 1) ∧ (i64 (x5_l14 - 1)) < (List.length x3_l14 : Int)) (need ((0 : Int) ≤ x5_l14 ∧ x5_l14 < (List.length x3_l14 : Int)) (need ((0 : Int) ≤ x5_l14 ∧ x5_l14 < (List.length x3_l14 : Int)) (need ((0 : Int) ≤ i64 (x5_l14 - 1) ∧ (i64 (x5_l14 - 1)) < (List.length (List.set x3_l14 (Int.toNat x5_l14) (gi x3_l14 (i64 (x5_l14 - 1)))) : Int)) (rec14 (List.set (List.set x3_l14 (Int.toNat x5_l14) (gi x3_l14 (i64 (x5_l14 - 1)))) (Int.toNat (i64 (x5_l14 - 1))) (gi x3_l14 x5_l14)) (i64 (x5_l14 - 1))))))) else (k470 x3_l14)) (fun k553 => if 0 < x5_l14 then (need ((0 : Int) ≤ x5_l14 ∧ x5_l14 < (List.length x3_l14 : Int)) (need ((0 : Int) ≤ i64 (x5_l14 - 1) ∧ (i64 (x5_l14 - 1)) < (List.length x3_l14 : Int)) (k553 (decide ((gi x3_l14 x5_l14) < (gi x3_l14 (i64 (x5_l14 - 1)))))))) else (k553 false))
noncomputable def m_ref6_sorted_L14 (k470 : (List Int) → Option (List Int)) : Nat → (List Int) → Int → Option (List Int)
  | 0, _, _ => none
  | n + 1, x3_l14, x5_l14 => m_ref6_sorted_B14 k470 (m_ref6_sorted_L14 k470 n) x3_l14 x5_l14
noncomputable def m_ref6_sorted_B8 (k3 : (List Int) → Option (List Int)) (rec8 : (List Int) → Int → Option (List Int)) (x3_l8 : List Int) (x4_l8 : Int) : Option (List Int) :=
  if x4_l8 < (List.length x3_l8 : Int) then (jn (fun (x3_j470 : List Int) => rec8 x3_j470 (i64 (x4_l8 + 1))) (fun k470 => m_ref6_sorted_L14 k470 FU x3_l8 x4_l8)) else (k3 x3_l8)
noncomputable def m_ref6_sorted_L8 (k3 : (List Int) → Option (List Int)) : Nat → (List Int) → Int → Option (List Int)
  | 0, _, _ => none
  | n + 1, x3_l8, x4_l8 => m_ref6_sorted_B8 k3 (m_ref6_sorted_L8 k3 n) x3_l8 x4_l8
noncomputable def m_ref6_sorted (a0 : List Int) : Option (List Int) :=
  need (List.length a0 ≤ 137438953472) (jn (fun (x3_j3 : List Int) => some x3_j3) (fun k3 => m_ref6_sorted_L8 k3 FU a0 1))
/- (*cspcheck.cspcheckref6.solver).typ -/
noncomputable def m_ref6_solver_typ_B2 (self_ref6_solver_typ : ((List ((Int × Int × Int) × (List Int) × Int)) × (List (Int × Int))) → Int → Option ((List (Int × Int × Int)) × ((List ((Int × Int × Int) × (List Int) × Int)) × (List (Int × Int))))) (y1 : Int × ((List ((Int × Int × Int) × (List Int) × Int)) × (List (Int × Int)))) (k5 : (List ((Int × Int × Int) × (List Int) × Int)) → (List (Int × Int)) → (List (Int × Int × Int)) → Option ((List (Int × Int × Int)) × ((List ((Int × Int × Int) × (List Int) × Int)) × (List (Int × Int))))) (rec2 : (List ((Int × Int × Int) × (List Int) × Int)) → (List (Int × Int)) → (List (Int × Int × Int)) → Int → Option ((List (Int × Int × Int)) × ((List ((Int × Int × Int) × (List Int) × Int)) × (List (Int × Int))))) (x0_0_l2 : List ((Int × Int × Int) × (List Int) × Int)) (x0_1_l2 : List (Int × Int)) (x5_l2 : List (Int × Int × Int)) (x6_l2 : Int) : Option ((List (Int × Int × Int)) × ((List ((Int × Int × Int) × (List Int) × Int)) × (List (Int × Int)))) :=
  need ((0 : Int) ≤ y1.1 ∧ y1.1 < (List.length x0_0_l2 : Int)) (if x6_l2 < (List.length ((gi x0_0_l2 y1.1).2.1) : Int) then (need ((0 : Int) ≤ y1.1 ∧ y1.1 < (List.length x0_0_l2 : Int)) (need ((0 : Int) ≤ x6_l2 ∧ x6_l2 < (List.length ((gi x0_0_l2 y1.1).2.1) : Int)) (bnd1 (self_ref6_solver_typ (x0_0_l2, x0_1_l2) (gi ((gi x0_0_l2 y1.1).2.1) x6_l2)) (fun y45 => need (List.length x5_l2 + List.length y45.1 ≤ 137438953472) (rec2 y45.2.1 y45.2.2 (x5_l2 ++ y45.1) (i64 (x6_l2 + 1))))))) else (k5 x0_0_l2 x0_1_l2 x5_l2))
noncomputable def m_ref6_solver_typ_L2 (self_ref6_solver_typ : ((List ((Int × Int × Int) × (List Int) × Int)) × (List (Int × Int))) → Int → Option ((List (Int × Int × Int)) × ((List ((Int × Int × Int) × (List Int) × Int)) × (List (Int × Int))))) (y1 : Int × ((List ((Int × Int × Int) × (List Int) × Int)) × (List (Int × Int)))) (k5 : (List ((Int × Int × Int) × (List Int) × Int)) → (List (Int × Int)) → (List (Int × Int × Int)) → Option ((List (Int × Int × Int)) × ((List ((Int × Int × Int) × (List Int) × Int)) × (List (Int × Int))))) : Nat → (List ((Int × Int × Int) × (List Int) × Int)) → (List (Int × Int)) → (List (Int × Int × Int)) → Int → Option ((List (Int × Int × Int)) × ((List ((Int × Int × Int) × (List Int) × Int)) × (List (Int × Int))))
  | 0, _, _, _, _ => none
  | n + 1, x0_0_l2, x0_1_l2, x5_l2, x6_l2 => m_ref6_solver_typ_B2 self_ref6_solver_typ y1 k5 (m_ref6_solver_typ_L2 self_ref6_solver_typ y1 k5 n) x0_0_l2 x0_1_l2 x5_l2 x6_l2
noncomputable def m_ref6_solver_typ_F (self_ref6_solver_typ : ((List ((Int × Int × Int) × (List Int) × Int)) × (List (Int × Int))) → Int → Option ((List (Int × Int × Int)) × ((List ((Int × Int × Int) × (List Int) × Int)) × (List (Int × Int))))) (a0 : (List ((Int × Int × Int) × (List Int) × Int)) × (List (Int × Int))) (a1 : Int) : Option ((List (Int × Int × Int)) × ((List ((Int × Int × Int) × (List Int) × Int)) × (List (Int × Int)))) :=
  bnd1 (m_ref6_solver_find (a0.1, a0.2) a1) (fun y1 => need ((0 : Int) ≤ y1.1 ∧ y1.1 < (List.length y1.2.1 : Int)) (jn (fun (x0_0_j5 : List ((Int × Int × Int) × (List Int) × Int)) (x0_1_j5 : List (Int × Int)) (x5_j5 : List (Int × Int × Int)) => some (x5_j5, (x0_0_j5, x0_1_j5))) (fun k5 => m_ref6_solver_typ_L2 self_ref6_solver_typ y1 k5 FU y1.2.1 y1.2.2 [(gi y1.2.1 y1.1).1] 0)))
/- (*cspcheck.cspcheckref6.solver).typ -/
noncomputable def m_ref6_solver_typ_S : Nat → (((List ((Int × Int × Int) × (List Int) × Int)) × (List (Int × Int))) → Int → Option ((List (Int × Int × Int)) × ((List ((Int × Int × Int) × (List Int) × Int)) × (List (Int × Int)))))
  | 0 => (fun _ _ => none)
  | n + 1 => m_ref6_solver_typ_F (m_ref6_solver_typ_S n)
noncomputable def m_ref6_solver_typ (a0 : (List ((Int × Int × Int) × (List Int) × Int)) × (List (Int × Int))) (a1 : Int) : Option ((List (Int × Int × Int)) × ((List ((Int × Int × Int) × (List Int) × Int)) × (List (Int × Int)))) := m_ref6_solver_typ_S FU a0 a1
/- (*cspcheck.cspcheckref6.solver).now -/
noncomputable def m_ref6_solver_now (a0 : (List ((Int × Int × Int) × (List Int) × Int)) × (List (Int × Int))) (a1 : List (Int × Int × Int)) : Option ((List (Int × Int × Int)) × ((List ((Int × Int × Int) × (List Int) × Int)) × (List (Int × Int)))) :=
  bnd1 (m_ref6_solver_add (a0.1, a0.2) a1) (fun y1 => bnd1 (m_ref6_solver_typ (y1.2.1, y1.2.2) y1.1) (fun y3 => some (y3.1, (y3.2.1, y3.2.2))))
/- cspcheck.cspcheckref6.Unify -/
noncomputable def m_ref6_Unify_B2 (y24 : (List Int)) (k25 : (List (Int × (List (Int × Int × Int)))) → Option ((List (Int × (List (Int × Int × Int)))) × Int)) (rec2 : (List ((Int × Int × Int) × (List Int) × Int)) → (List (Int × Int)) → (List (Int × (List (Int × Int × Int)))) → Int → Option ((List (Int × (List (Int × Int × Int)))) × Int)) (x6_0_l2 : List ((Int × Int × Int) × (List Int) × Int)) (x6_1_l2 : List (Int × Int)) (x8_l2 : List (Int × (List (Int × Int × Int)))) (x10_l2 : Int) : Option ((List (Int × (List (Int × Int × Int)))) × Int) :=
  if x10_l2 < (List.length y24 : Int) then (jn (fun (x6_0_j122 : List ((Int × Int × Int) × (List Int) × Int)) (x6_1_j122 : List (Int × Int)) (x8_j122 : List (Int × (List (Int × Int × Int)))) => rec2 x6_0_j122 x6_1_j122 x8_j122 (i64 (x10_l2 + 1))) (fun k122 => need ((0 : Int) ≤ x10_l2 ∧ x10_l2 < (List.length y24 : Int)) (bnd1 (m_ref6_Make 1 (gi y24 x10_l2) ([] : List (List (Int × Int × Int)))) (fun y133 => bnd1 (m_ref6_solver_now (x6_0_l2, x6_1_l2) y133) (fun y134 => need ((0 : Int) ≤ 0 ∧ 0 < (List.length y134.1 : Int)) (need ((0 : Int) ≤ x10_l2 ∧ x10_l2 < (List.length y24 : Int)) (if ¬ (gi y134.1 0) = (1, gi y24 x10_l2, 0) then (need ((0 : Int) ≤ x10_l2 ∧ x10_l2 < (List.length y24 : Int)) (need (List.length x8_l2 + List.length [(gi y24 x10_l2, y134.1)] ≤ 137438953472) (k122 y134.2.1 y134.2.2 (x8_l2 ++ [(gi y24 x10_l2, y134.1)])))) else (k122 y134.2.1 y134.2.2 x8_l2)))))))) else (k25 x8_l2)
noncomputable def m_ref6_Unify_L2 (y24 : (List Int)) (k25 : (List (Int × (List (Int × Int × Int)))) → Option ((List (Int × (List (Int × Int × Int)))) × Int)) : Nat → (List ((Int × Int × Int) × (List Int) × Int)) → (List (Int × Int)) → (List (Int × (List (Int × Int × Int)))) → Int → Option ((List (Int × (List (Int × Int × Int)))) × Int)
  | 0, _, _, _, _ => none
  | n + 1, x6_0_l2, x6_1_l2, x8_l2, x10_l2 => m_ref6_Unify_B2 y24 k25 (m_ref6_Unify_L2 y24 k25 n) x6_0_l2 x6_1_l2 x8_l2 x10_l2
noncomputable def m_ref6_Unify (a0 : List (Int × Int × Int)) (a1 : List (Int × Int × Int)) : Option ((List (Int × (List (Int × Int × Int)))) × Int) :=
  jn (fun (x19_j7 : Bool) => if x19_j7 then (some ([], 1)) else (bnd1 (m_ref6_solver_solve ([], []) a0 a1) (fun y15 => if ¬ y15.1 = 0 then (some ([], y15.1)) else (bnd1 (m_ref6_solver_fits (y15.2.1, y15.2.2) a0) (fun y17 => if !y17.1 then (some ([], 10)) else (need (List.length a0 ≤ 137438953472) (need (List.length a0 + List.length a1 ≤ 137438953472) (bnd1 (m_ref6_Vars (a0 ++ a1)) (fun y23 => bnd1 (m_ref6_sorted y23) (fun y24 => jn (fun (x8_j25 : List (Int × (List (Int × Int × Int)))) => some (x8_j25, 0)) (fun k25 => m_ref6_Unify_L2 y24 k25 FU y17.2.1 y17.2.2 [] 0))))))))))) (fun k7 => bnd1 (m_ref6_ValidType a0) (fun y10 => if !y10 then (k7 true) else (bnd1 (m_ref6_ValidType a1) (fun y11 => k7 (!y11)))))
/- cspcheck.cspchecklaw7.TypesUnifyExactly -/
noncomputable def m_law7_TypesUnifyExactly (a0 : List (Int × Int × Int)) (a1 : List (Int × Int × Int)) (a2 : List Int) (a3 : List Int) : Option Bool :=
  bnd1 (m_types_Unify a0 a1) (fun y1 => bnd1 (m_ref6_Unify a0 a1) (fun y2 => bnd1 (m_gen_New a2) (fun y3 => bnd1 (m_law7_typ (y3.1, y3.2) 4 3) (fun y5 => bnd1 (m_gen_New a3) (fun y7 => bnd1 (m_law7_typ (y7.1, y7.2) 4 3) (fun y9 => bnd1 (m_types_Unify y5.1 y9.1) (fun y11 => bnd1 (m_ref6_Unify y5.1 y9.1) (fun y12 => jn (fun (x8_j13 : Bool) => some x8_j13) (fun k13 => bnd1 (m_law7_awake) (fun y17 => if y17 then (bnd1 (m_help_SameTypes y1.1 y2.1) (fun y18 => if y18 then (if y1.2 = y2.2 then (bnd1 (m_help_SameTypes y11.1 y12.1) (fun y19 => if y19 then (k13 (decide (y11.2 = y12.2))) else (k13 false))) else (k13 false)) else (k13 false))) else (k13 false)))))))))))
end Go.Proofs.YtdfdjgolijckfaaDoor
/- Laws of the words of the models, and of bytes: no program in sight. -/
namespace Go.Proofs.YtdfdjgolijckfaaDoor

theorem jn_eq {κ ρ : Type} (k : κ) (m : κ → ρ) : jn k m = m k := by
  have h : jn k m = m k := rfl
  exact h
theorem bnd1_mk {α ρ : Type} (a : α) (k : α → Option ρ) : bnd1 (some a) k = k a := by
  have h : bnd1 (some a) k = k a := rfl
  exact h
theorem FU_ge : 18446744073709551616 ≤ FU := Nat.le_refl _
end Go.Proofs.YtdfdjgolijckfaaDoor
/- Types as rows of nodes: which are valid. -/
namespace Go.Proofs.YtdfdjgolijckfaaDoor
attribute [local irreducible] FU
theorem fuk (k : Nat) (h : k ≤ 4611686018427387904) : ∃ n, FU = n + k := ⟨FU - k, by have := FU_ge; omega⟩
theorem i64s {i : Nat} (h : i < 9223372036854775807) : i64 ((i : Int) + 1) = ((i + 1 : Nat) : Int) := by rw [i64_id (by omega)]; omega
abbrev Nd := Int × Int × Int
/-- The least and the greatest number of children, of a kind. -/
def fmB (n : Nd) : Bool :=
  if n.1 = 1 ∨ n.1 = 6 then decide (n.2.2 = 0 ∧ 0 ≤ n.2.1 ∧ n.2.1 ≤ 1073741824)
  else if n.1 = 2 ∨ n.1 = 3 ∨ n.1 = 4 ∨ n.1 = 5 then decide (n.2.1 = 0 ∧ n.2.2 = 0)
  else if n.1 = 7 ∨ n.1 = 8 then decide (n.2.1 = 0 ∧ n.2.2 = 1)
  else if n.1 = 9 ∨ n.1 = 12 ∨ n.1 = 13 then decide (n.2.1 = 0 ∧ n.2.2 = 2)
  else if n.1 = 10 then decide (n.2.1 = 0 ∧ 2 ≤ n.2.2 ∧ n.2.2 ≤ 8)
  else if n.1 = 11 then decide (n.2.1 = 0 ∧ 1 ≤ n.2.2 ∧ n.2.2 ≤ 9)
  else false
theorem fm_kinds {n : Nd} (h : fmB n = true) : n.1 = 1 ∨ n.1 = 2 ∨ n.1 = 3 ∨ n.1 = 4 ∨ n.1 = 5 ∨ n.1 = 6 ∨ n.1 = 7 ∨ n.1 = 8 ∨ n.1 = 9 ∨ n.1 = 10 ∨ n.1 = 11 ∨ n.1 = 12 ∨ n.1 = 13 := by
  unfold fmB at h
  split at h
  · omega
  · split at h
    · omega
    · split at h
      · omega
      · split at h
        · omega
        · split at h
          · omega
          · split at h
            · omega
            · cases h
theorem fm_kids {n : Nd} (h : fmB n = true) : 0 ≤ n.2.2 ∧ n.2.2 ≤ 9 ∧ 0 ≤ n.2.1 ∧ n.2.1 ≤ 1073741824 := by
  have hk := fm_kinds h
  unfold fmB at h
  rcases hk with e | e | e | e | e | e | e | e | e | e | e | e | e <;> simp [e] at h <;> omega
theorem sd2 {a b : Prop} [Decidable a] [Decidable b] : (if a then some (decide b) else some false) = some (decide (a ∧ b)) := by split <;> simp_all
theorem sd3 {a b c : Prop} [Decidable a] [Decidable b] [Decidable c] : (if a then (if b then some (decide c) else some false) else some false) = some (decide (a ∧ b ∧ c)) := by split; split <;> simp_all; simp_all
theorem vFormed (n : Nd) : m_types_formed n = some (fmB n) := by
  obtain ⟨k, m, c⟩ := n
  unfold m_types_formed fmB
  simp only [jn_eq]
  by_cases hk : 1 ≤ k ∧ k ≤ 13
  · have h : k = 1 ∨ k = 2 ∨ k = 3 ∨ k = 4 ∨ k = 5 ∨ k = 6 ∨ k = 7 ∨ k = 8 ∨ k = 9 ∨ k = 10 ∨ k = 11 ∨ k = 12 ∨ k = 13 := by omega
    rcases h with rfl | rfl | rfl | rfl | rfl | rfl | rfl | rfl | rfl | rfl | rfl | rfl | rfl <;> simp only [show ((1 : Int) = 1) = True from eq_self 1, if_true, sd2, sd3, true_or, or_true, decide_true] <;> simp (config := { decide := true }) only [if_true, if_false, sd2, sd3] <;> congr 1 <;> apply Bool.eq_iff_iff.2 <;> simp only [decide_eq_true_eq] <;> omega
  · have h : ¬ (k = 1) ∧ ¬ (k = 2) ∧ ¬ (k = 3) ∧ ¬ (k = 4) ∧ ¬ (k = 5) ∧ ¬ (k = 6) ∧ ¬ (k = 7) ∧ ¬ (k = 8) ∧ ¬ (k = 9) ∧ ¬ (k = 10) ∧ ¬ (k = 11) ∧ ¬ (k = 12) ∧ ¬ (k = 13) := by omega
    simp [h]
theorem vArity (n : Nd) : m_ref6_arity n = some (fmB n) := by
  obtain ⟨k, m, c⟩ := n
  unfold m_ref6_arity fmB
  simp only [jn_eq]
  by_cases hk : 1 ≤ k ∧ k ≤ 13
  · have h : k = 1 ∨ k = 2 ∨ k = 3 ∨ k = 4 ∨ k = 5 ∨ k = 6 ∨ k = 7 ∨ k = 8 ∨ k = 9 ∨ k = 10 ∨ k = 11 ∨ k = 12 ∨ k = 13 := by omega
    rcases h with rfl | rfl | rfl | rfl | rfl | rfl | rfl | rfl | rfl | rfl | rfl | rfl | rfl <;> simp (config := { decide := true }) only [if_true, if_false, sd2, sd3] <;> congr 1 <;> apply Bool.eq_iff_iff.2 <;> simp only [decide_eq_true_eq] <;> omega
  · have h : ¬ (k = 1) ∧ ¬ (k = 2) ∧ ¬ (k = 3) ∧ ¬ (k = 4) ∧ ¬ (k = 5) ∧ ¬ (k = 6) ∧ ¬ (k = 7) ∧ ¬ (k = 8) ∧ ¬ (k = 9) ∧ ¬ (k = 10) ∧ ¬ (k = 11) ∧ ¬ (k = 12) ∧ ¬ (k = 13) := by omega
    simp [h]
/-- The index after the children. -/
def aftK (f : Nat → Option Nat) : Nat → Nat → Option Nat
  | 0, k => some k
  | m + 1, k => (f k).bind (aftK f m)
/-- The index after the type at index i, nested at most d deep. -/
def aft (t : List Nd) : Nat → Nat → Option Nat
  | 0, _ => none
  | d + 1, i => match t[i]? with
    | none => none
    | some n => if fmB n = true then aftK (aft t d) n.2.2.toNat (i + 1) else none
theorem aftK_bd {f : Nat → Option Nat} {L : Nat} (hf : ∀ i k, f i = some k → i < k ∧ k ≤ L) : ∀ (m i k : Nat), i ≤ L → aftK f m i = some k → i + m ≤ k ∧ k ≤ L
  | 0, i, k, hi, h => by simp only [aftK, Option.some.injEq] at h; omega
  | m + 1, i, k, hi, h => by
    rw [aftK] at h
    cases hx : f i with
    | none => rw [hx] at h; cases h
    | some j =>
      rw [hx] at h
      have h1 := hf i j hx
      have h2 := aftK_bd hf m j k h1.2 h
      omega
theorem aft_bd (t : List Nd) : ∀ (d i k : Nat), aft t d i = some k → i < k ∧ k ≤ t.length
  | 0, i, k, h => by simp [aft] at h
  | d + 1, i, k, h => by
    rw [aft] at h
    cases hx : t[i]? with
    | none => rw [hx] at h; cases h
    | some n =>
      rw [hx] at h
      have hi : i < t.length := by rcases Nat.lt_or_ge i t.length with h0 | h0; exact h0; rw [List.getElem?_eq_none h0] at hx; cases hx
      dsimp only at h
      split at h
      · have := aftK_bd (aft_bd t d) _ _ _ (by omega) h; omega
      · cases h
/-- A valid type. -/
def vdB (t : List Nd) : Bool := decide (0 < t.length ∧ t.length ≤ 512 ∧ aft t 64 0 = some t.length)
section
variable {t : List Nd}
theorem vAfterL {self : List Nd → Int → Int → Option Int} {f : Nat → Option Nat} (i : Nat) (a2 : Int) (hi : i < t.length) (hs : ∀ k : Nat, k ≤ t.length → self t (k : Int) (i64 (a2 + 1)) = some (((f k).getD 0 : Nat) : Int)) (hf : ∀ i k, f i = some k → i < k ∧ k ≤ t.length) (K : Int → Option Int) (c : Nat) (hc : (gi t (i : Int)).2.2 = (c : Int)) (hc9 : c ≤ 9) :
    ∀ (m n j k : Nat), j + m = c → m < n → k ≤ t.length → m_types_after_L2 self t (i : Int) a2 K n (k : Int) (j : Int) = match aftK f m k with | none => some 0 | some k' => K (k' : Int) := by
  intro m
  induction m with
  | zero =>
    intro n j k hj hn hk
    obtain ⟨n, rfl⟩ : ∃ q, n = q + 1 := ⟨n - 1, by omega⟩
    rw [m_types_after_L2, m_types_after_B2, hc, if_neg (by omega), aftK]
  | succ m ih =>
    intro n j k hj hn hk
    obtain ⟨n, rfl⟩ : ∃ q, n = q + 1 := ⟨n - 1, by omega⟩
    rw [m_types_after_L2, m_types_after_B2, hc, if_pos (by omega), hs k hk, bnd1_mk, aftK]
    cases hx : f k with
    | none => simp
    | some k' =>
      have hb := hf k k' hx
      simp only [Option.getD_some, Option.bind_some]
      rw [if_neg (by omega), i64s (by omega), ih n (j + 1) k' (by omega) (by omega) hb.2]
theorem vAfter (hl : t.length ≤ 512) : ∀ (d n : Nat) (i : Nat) (a2 : Int), d < n → a2 + d = 65 → i ≤ t.length → 0 ≤ a2 → m_types_after_S n t (i : Int) a2 = some (((aft t d i).getD 0 : Nat) : Int)
  | d, 0, _, _, h, _, _, _ => by omega
  | 0, n + 1, i, a2, _, ha, hi, h0 => by
    rw [m_types_after_S, m_types_after_F, jn_eq]
    split
    · simp [aft]
    · rw [if_pos (by omega)]; simp [aft]
  | d + 1, n + 1, i, a2, hn, ha, hi, h0 => by
    rw [m_types_after_S, m_types_after_F, jn_eq, aft]
    by_cases hlt : i < t.length
    · rw [if_neg (by omega), if_neg (by omega), need_pos (by omega), vFormed, bnd1_mk, List.getElem?_eq_getElem hlt, gi_nat hlt]
      dsimp only
      cases hf : fmB t[i] with
      | false => simp
      | true =>
        have hk := fm_kids hf
        rw [Bool.not_true, if_neg (by simp), jn_eq, need_pos (by omega), if_pos rfl, i64s (by omega)]
        obtain ⟨q, hq⟩ := fuk 11 (by omega)
        rw [hq]
        have hs : ∀ k : Nat, k ≤ t.length → m_types_after_S n t (k : Int) (i64 (a2 + 1)) = some (((aft t d k).getD 0 : Nat) : Int) := fun k hk' => by
          rw [i64_id (by omega)]
          exact vAfter hl d n k (a2 + 1) (by omega) (by omega) hk' (by omega)
        have := vAfterL (self := m_types_after_S n) (f := aft t d) i a2 hlt hs (aft_bd t d) (fun x => some x) t[i].2.2.toNat (by rw [gi_nat hlt]; omega) (by omega) t[i].2.2.toNat (q + 11) 0 (i + 1) (by omega) (by omega) (by omega)
        rw [show ((0 : Nat) : Int) = 0 from rfl] at this
        rw [this]
        cases hx : aftK (aft t d) t[i].2.2.toNat (i + 1) with
        | none => simp
        | some k => simp
    · rw [if_pos (by omega), List.getElem?_eq_none (by omega)]
      rfl
/-- The answer of the reference: -1 where there is none. -/
def neg1 (x : Option Nat) : Int := match x with | none => -1 | some k => (k : Int)
theorem wWalkL {self : List Nd → Int → Int → Option Int} {f : Nat → Option Nat} (i : Nat) (a2 : Int) (hs : ∀ k : Nat, k ≤ t.length → self t (k : Int) (i64 (a2 + 1)) = some (neg1 (f k))) (hf : ∀ i k, f i = some k → i < k ∧ k ≤ t.length) (K : Int → Option Int) (c : Nat) (hc : (gi t (i : Int)).2.2 = (c : Int)) (hc9 : c ≤ 9) :
    ∀ (m n j k : Nat), j + m = c → m < n → k ≤ t.length → m_ref6_walk_L2 self t (i : Int) a2 K n (k : Int) (j : Int) = match aftK f m k with | none => some (-1) | some k' => K (k' : Int) := by
  intro m
  induction m with
  | zero =>
    intro n j k hj hn hk
    obtain ⟨n, rfl⟩ : ∃ q, n = q + 1 := ⟨n - 1, by omega⟩
    rw [m_ref6_walk_L2, m_ref6_walk_B2, hc, if_neg (by omega), aftK]
  | succ m ih =>
    intro n j k hj hn hk
    obtain ⟨n, rfl⟩ : ∃ q, n = q + 1 := ⟨n - 1, by omega⟩
    rw [m_ref6_walk_L2, m_ref6_walk_B2, hc, if_pos (by omega), hs k hk, bnd1_mk, aftK]
    cases hx : f k with
    | none => simp [neg1]
    | some k' =>
      have hb := hf k k' hx
      have e : neg1 (some k') = (k' : Int) := rfl
      rw [Option.bind_some, if_neg (show ¬ neg1 (some k') < 0 by rw [e]; omega), e, i64s (by omega), ih n (j + 1) k' (by omega) (by omega) hb.2]
theorem wWalk (hl : t.length ≤ 512) : ∀ (d n : Nat) (i : Nat) (a2 : Int), d < n → a2 + d = 65 → i ≤ t.length → 0 ≤ a2 → m_ref6_walk_S n t (i : Int) a2 = some (neg1 (aft t d i))
  | d, 0, _, _, h, _, _, _ => by omega
  | 0, n + 1, i, a2, _, ha, hi, h0 => by
    rw [m_ref6_walk_S, m_ref6_walk_F, jn_eq]
    split
    · rfl
    · rw [if_pos (by omega)]; rfl
  | d + 1, n + 1, i, a2, hn, ha, hi, h0 => by
    rw [m_ref6_walk_S, m_ref6_walk_F, jn_eq, aft]
    by_cases hlt : i < t.length
    · rw [if_neg (by omega), if_neg (by omega), need_pos (by omega), vArity, bnd1_mk, List.getElem?_eq_getElem hlt, gi_nat hlt]
      dsimp only
      cases hf : fmB t[i] with
      | false => rfl
      | true =>
        have hk := fm_kids hf
        rw [Bool.not_true, if_neg (by simp), need_pos (by omega), jn_eq, if_pos rfl, i64s (by omega)]
        obtain ⟨q, hq⟩ := fuk 11 (by omega)
        rw [hq]
        have hs : ∀ k : Nat, k ≤ t.length → m_ref6_walk_S n t (k : Int) (i64 (a2 + 1)) = some (neg1 (aft t d k)) := fun k hk' => by
          rw [i64_id (by omega)]
          exact wWalk hl d n k (a2 + 1) (by omega) (by omega) hk' (by omega)
        have := wWalkL (self := m_ref6_walk_S n) (f := aft t d) i a2 hs (aft_bd t d) (fun x => some x) t[i].2.2.toNat (by rw [gi_nat hlt]; omega) (by omega) t[i].2.2.toNat (q + 11) 0 (i + 1) (by omega) (by omega) (by omega)
        rw [show ((0 : Nat) : Int) = 0 from rfl] at this
        rw [this]
        cases hx : aftK (aft t d) t[i].2.2.toNat (i + 1) with
        | none => rfl
        | some k => rfl
    · rw [if_pos (by omega), List.getElem?_eq_none (by omega)]
      rfl
end
theorem vValid (t : List Nd) : m_types_Valid t = some (vdB t) := by
  unfold m_types_Valid vdB
  rw [jn_eq]
  by_cases h0 : 0 < t.length
  · rw [if_pos (by omega)]
    by_cases hl : t.length ≤ 512
    · rw [if_pos (by omega)]
      have h : m_types_after t 0 1 = some (((aft t 64 0).getD 0 : Nat) : Int) := by
        unfold m_types_after
        exact vAfter hl 64 FU 0 1 (by have := FU_ge; omega) (by omega) (by omega) (by omega)
      rw [h, bnd1_mk]
      congr 1
      apply Bool.eq_iff_iff.2
      simp only [decide_eq_true_eq]
      cases hx : aft t 64 0 with
      | none => simp; omega
      | some k => simp; omega
    · rw [if_neg (by omega), decide_eq_false (by omega)]
  · rw [if_neg (by omega), decide_eq_false (by omega)]
theorem wValid (t : List Nd) : m_ref6_ValidType t = some (vdB t) := by
  unfold m_ref6_ValidType vdB
  rw [jn_eq]
  by_cases hl : t.length ≤ 512
  · rw [if_pos (by omega)]
    have h : m_ref6_walk t 0 1 = some (neg1 (aft t 64 0)) := by
      unfold m_ref6_walk
      exact wWalk hl 64 FU 0 1 (by have := FU_ge; omega) (by omega) (by omega) (by omega)
    rw [h, bnd1_mk]
    congr 1
    apply Bool.eq_iff_iff.2
    simp only [decide_eq_true_eq]
    cases hx : aft t 64 0 with
    | none => simp [neg1]
    | some k => have := aft_bd t 64 0 k hx; simp [neg1]; omega
  · rw [if_neg (by omega), decide_eq_false (by omega)]
end Go.Proofs.YtdfdjgolijckfaaDoor
/- Maps kept as lists: what lies at keys; sorted lists. -/
namespace Go.Proofs.YtdfdjgolijckfaaDoor
attribute [local irreducible] FU
section
variable {β : Type}
abbrev NdK (l : List (Int × β)) : Prop := (l.map (·.1)).Nodup
abbrev SrK (l : List (Int × β)) : Prop := l.Pairwise (fun a b => a.1 < b.1)
theorem lookL_put (l : List (Int × β)) (k : Int) (x : β) (v : Int) : lookL (putL l k x) v = if k = v then some x else lookL l v := by
  induction l with
  | nil => simp [putL, lookL]
  | cons a l ih =>
    rw [putL]
    by_cases h : a.1 = k
    · rw [if_pos h, lookL, lookL]
      by_cases h2 : k = v
      · rw [if_pos h2, if_pos h2]
      · rw [if_neg h2, if_neg h2, if_neg (by omega)]
    · rw [if_neg h, lookL, ih, lookL]
      by_cases h2 : a.1 = v
      · rw [if_pos h2, if_neg (by omega), if_pos h2]
      · rw [if_neg h2, if_neg h2]
theorem lookL_none {l : List (Int × β)} {v : Int} : lookL l v = none ↔ v ∉ l.map (·.1) := by
  induction l with
  | nil => simp [lookL]
  | cons a l ih =>
    rw [lookL]
    by_cases h : a.1 = v
    · simp [h]
    · rw [if_neg h, ih]; simp; omega
theorem lookL_mem {l : List (Int × β)} {v : Int} {x : β} (h : lookL l v = some x) : (v, x) ∈ l := by
  induction l with
  | nil => cases h
  | cons a l ih =>
    rw [lookL] at h
    split at h
    · rename_i h1; cases h; rw [← h1]; exact List.mem_cons_self
    · exact List.mem_cons_of_mem _ (ih h)
theorem mem_lookL {l : List (Int × β)} (hn : NdK l) {v : Int} {x : β} (h : (v, x) ∈ l) : lookL l v = some x := by
  induction l with
  | nil => cases h
  | cons a l ih =>
    rw [NdK, List.map_cons, List.nodup_cons] at hn
    rw [lookL]
    rcases List.mem_cons.1 h with rfl | h
    · rw [if_pos rfl]
    · rw [if_neg (fun h1 => hn.1 (by rw [h1]; exact List.mem_map_of_mem (f := (·.1)) h)), ih hn.2 h]
theorem lookL_perm {l l' : List (Int × β)} (hn : NdK l) (hp : l'.Perm l) (v : Int) : lookL l' v = lookL l v := by
  have hn' : NdK l' := (hp.map _).nodup_iff.2 hn
  cases h : lookL l v with
  | none =>
    rw [lookL_none] at h ⊢
    exact fun hm => h ((hp.map _).mem_iff.1 hm)
  | some x => exact mem_lookL hn' (hp.mem_iff.2 (lookL_mem h))
theorem putL_keys' {l : List (Int × β)} {k : Int} {x : β} {v : Int} : v ∈ (putL l k x).map (·.1) ↔ v = k ∨ v ∈ l.map (·.1) := by
  have h := lookL_none (l := putL l k x) (v := v)
  rw [lookL_put] at h
  have h2 := lookL_none (l := l) (v := v)
  by_cases e : k = v
  · rw [if_pos e] at h
    have : v ∈ (putL l k x).map (·.1) := Classical.not_not.1 fun hn => by have := h.2 hn; cases this
    simp only [this, true_iff]; exact .inl e.symm
  · rw [if_neg e] at h
    constructor
    · intro hm
      exact .inr (Classical.not_not.1 fun hn => (h.1 (h2.2 hn)) hm)
    · rintro (rfl | hm)
      · exact absurd rfl e
      · exact Classical.not_not.1 fun hn => (h2.1 (h.2 hn)) hm
theorem putL_nd {l : List (Int × β)} (hn : NdK l) (k : Int) (x : β) : NdK (putL l k x) := by
  induction l with
  | nil => simp [NdK, putL]
  | cons a l ih =>
    rw [NdK, List.map_cons, List.nodup_cons] at hn
    rw [putL]
    split
    · rename_i h; rw [NdK, List.map_cons, List.nodup_cons]; exact ⟨by dsimp only; rw [← h]; exact hn.1, hn.2⟩
    · rename_i h
      rw [NdK, List.map_cons, List.nodup_cons]
      refine ⟨fun hm => ?_, ih hn.2⟩
      rcases putL_keys'.1 hm with h1 | h1
      · exact h h1
      · exact hn.1 h1
theorem SrK.nd {l : List (Int × β)} (h : SrK l) : NdK l := by
  rw [NdK, List.nodup_iff_pairwise_ne, List.pairwise_map]
  exact h.imp (fun h => by omega)
theorem srk_ext : ∀ {l l' : List (Int × β)}, SrK l → SrK l' → (∀ v, lookL l v = lookL l' v) → l = l'
  | [], [], _, _, _ => rfl
  | [], b :: l', _, _, h => by have := h b.1; simp [lookL] at this
  | a :: l, [], _, _, h => by have := h a.1; simp [lookL] at this
  | a :: l, b :: l', h1, h2, h => by
    have n1 := h1.nd; have n2 := h2.nd
    obtain ⟨p1, p2⟩ := List.pairwise_cons.1 h1
    obtain ⟨q1, q2⟩ := List.pairwise_cons.1 h2
    have ha : (a.1, a.2) ∈ b :: l' := lookL_mem (by rw [← h a.1, lookL, if_pos rfl])
    have hb : (b.1, b.2) ∈ a :: l := lookL_mem (by rw [h b.1, lookL, if_pos rfl])
    have hk : a = b := by
      rcases List.mem_cons.1 ha with e | m1
      · exact e
      · rcases List.mem_cons.1 hb with e | m2
        · exact e.symm
        · have := q1 _ m1; have := p1 _ m2; dsimp only at *; omega
    subst hk
    congr 1
    refine srk_ext p2 q2 (fun v => ?_)
    have hv := h v
    rw [lookL, lookL] at hv
    by_cases e : a.1 = v
    · subst e
      have z1 : lookL l a.1 = none := lookL_none.2 (List.nodup_cons.1 n1).1
      have z2 : lookL l' a.1 = none := lookL_none.2 (List.nodup_cons.1 n2).1
      rw [z1, z2]
    · rw [if_neg e, if_neg e] at hv; exact hv
/-- Sorting by the keys. -/
theorem sort_keys {c : Int × β → Int × β → Option Int} (hc : ∀ a b, c a b = some (i64 (a.1 - b.1))) {xs : List (Int × β)} (hn : NdK xs) (hb : ∀ x ∈ xs, 0 ≤ x.1 ∧ x.1 ≤ 4611686018427387903) (hl : xs.length < 4611686018427387904) :
    ∃ r, m_sortOnBy c xs = some r ∧ r.Perm xs ∧ SrK r := by
  have hlt : ∀ x y, x ∈ xs → y ∈ xs → (ltC c x y = true ↔ x.1 < y.1) := fun x y hx hy => by
    have h1 := hb x hx; have h2 := hb y hy
    unfold ltC cfOf
    rw [hc, Option.getD_some, i64_id (by omega), decide_eq_true_eq]; omega
  have hlf : ∀ x y, x ∈ xs → y ∈ xs → (ltC c x y = false ↔ y.1 ≤ x.1) := fun x y hx hy => by
    rw [← Bool.not_eq_true, hlt x y hx hy]; omega
  have hinj : ∀ x y, x ∈ xs → y ∈ xs → x.1 = y.1 → x = y := fun x y hx hy e => by
    have h1 : lookL xs x.1 = some x.2 := mem_lookL hn hx
    have h2 : lookL xs y.1 = some y.2 := mem_lookL hn hy
    rw [e, h2] at h1
    exact Prod.ext e (Option.some.inj h1).symm
  have hon : CmpOn (fun x => x ∈ xs) c := {
    all := fun x y _ _ => ⟨_, hc x y⟩
    irrefl := fun x _ => by unfold ltC cfOf; rw [hc, Option.getD_some, Int.sub_self]; rfl
    trans := fun x y z hx hy hz a b => by rw [hlt _ _ hx hy] at a; rw [hlt _ _ hy hz] at b; rw [hlt _ _ hx hz]; omega
    ntrans := fun x y z hx hy hz a b => by rw [hlf _ _ hx hy] at a; rw [hlf _ _ hy hz] at b; rw [hlf _ _ hx hz]; omega
    total := fun x y hx hy a b => by rw [hlf _ _ hx hy] at a; rw [hlf _ _ hy hx] at b; exact hinj x y hx hy (by omega) }
  have hnd : xs.Nodup := by
    have := List.pairwise_map.1 (List.nodup_iff_pairwise_ne.1 hn)
    exact this.imp (fun h e => h (by rw [e]))
  refine ⟨sortC c xs, by rw [m_sortOnBy_eq hnd, m_sortbyOn_eq hl hon], List.mergeSort_perm _ _, ?_⟩
  have he : sortC c xs = xs.mergeSort (fun x y => decide (x.1 ≤ y.1)) := by
    have := List.map_mergeSort (r := fun x y => !ltC c y x) (s := fun x y : Int × β => decide (x.1 ≤ y.1)) (f := id) (l := xs) (fun a ha b hb' => by
      apply Bool.eq_iff_iff.2
      simp only [id, Bool.not_eq_true', decide_eq_true_eq]
      exact hlf b a hb' ha)
    rw [List.map_id, List.map_id] at this
    exact this
  have hs : (xs.mergeSort (fun x y => decide (x.1 ≤ y.1))).Pairwise (fun a b => a.1 ≤ b.1) := by
    have := List.pairwise_mergeSort (le := fun x y : Int × β => decide (x.1 ≤ y.1)) (fun a b c h1 h2 => by simp only [decide_eq_true_eq] at *; omega) (fun a b => by simp only [Bool.or_eq_true, decide_eq_true_eq]; omega) xs
    exact this.imp (fun h => of_decide_eq_true h)
  rw [he]
  have hp : (xs.mergeSort (fun x y => decide (x.1 ≤ y.1))).Perm xs := List.mergeSort_perm _ _
  have hn2 : NdK (xs.mergeSort (fun x y => decide (x.1 ≤ y.1))) := (hp.map _).nodup_iff.2 hn
  have hne := List.pairwise_map.1 (List.nodup_iff_pairwise_ne.1 hn2)
  exact (hs.and hne).imp (fun h => by have := h.1; have := h.2; omega)
end
end Go.Proofs.YtdfdjgolijckfaaDoor
/- Needs, both ways. -/
namespace Go.Proofs.YtdfdjgolijckfaaDoor
attribute [local irreducible] FU
/-- The variables of a row of nodes. -/
def vsN : List Nd → List Int
  | [] => []
  | n :: t => if n.1 = 1 then n.2.1 :: vsN t else vsN t
theorem aftK_fm {t : List Nd} {f : Nat → Option Nat} (hf : ∀ i k, f i = some k → ∀ q, i ≤ q → q < k → ∃ n, t[q]? = some n ∧ fmB n = true) : ∀ (m i k : Nat), aftK f m i = some k → ∀ q, i ≤ q → q < k → ∃ n, t[q]? = some n ∧ fmB n = true
  | 0, i, k, h, q, h1, h2 => by simp only [aftK, Option.some.injEq] at h; omega
  | m + 1, i, k, h, q, h1, h2 => by
    rw [aftK] at h
    cases hx : f i with
    | none => rw [hx] at h; cases h
    | some j =>
      rw [hx] at h
      rcases Nat.lt_or_ge q j with h3 | h3
      · exact hf i j hx q h1 h3
      · exact aftK_fm hf m j k h q h3 h2
theorem aft_fm (t : List Nd) : ∀ (d i k : Nat), aft t d i = some k → ∀ q, i ≤ q → q < k → ∃ n, t[q]? = some n ∧ fmB n = true
  | 0, i, k, h, _, _, _ => by simp [aft] at h
  | d + 1, i, k, h, q, h1, h2 => by
    rw [aft] at h
    cases hx : t[i]? with
    | none => rw [hx] at h; cases h
    | some n =>
      rw [hx] at h
      dsimp only at h
      split at h
      · rename_i hn
        rcases Nat.eq_or_lt_of_le h1 with e | h3
        · subst e; exact ⟨n, hx, hn⟩
        · exact aftK_fm (aft_fm t d) _ _ _ h q h3 h2
      · cases h
theorem vd_fm {t : List Nd} (h : vdB t = true) : ∀ n ∈ t, fmB n = true := by
  have h := (of_decide_eq_true h).2.2
  intro n hn
  obtain ⟨q, hq, e⟩ := List.getElem_of_mem hn
  obtain ⟨n', h1, h2⟩ := aft_fm t 64 0 _ h q (by omega) hq
  rw [List.getElem?_eq_getElem hq, e] at h1
  cases h1; exact h2
theorem vdB_len {t : List Nd} (h : vdB t = true) : t.length ≤ 512 := (of_decide_eq_true h).2.1
end Go.Proofs.YtdfdjgolijckfaaDoor
/- Needs of the reference. -/
namespace Go.Proofs.YtdfdjgolijckfaaDoor
attribute [local irreducible] FU
section
variable {β : Type}
theorem lookL_app (a b : List (Int × β)) (v : Int) : lookL (a ++ b) v = match lookL a v with | some x => some x | none => lookL b v := by
  induction a with
  | nil => rfl
  | cons x a ih =>
    rw [List.cons_append, lookL, lookL]
    by_cases h : x.1 = v
    · rw [if_pos h, if_pos h]
    · rw [if_neg h, if_neg h, ih]
theorem lookL_lt {a : List (Int × β)} {v : Int} (h : ∀ x ∈ a, x.1 ≠ v) : lookL a v = none := by
  rw [lookL_none]
  intro hm
  obtain ⟨x, hx, e⟩ := List.mem_map.1 hm
  exact h x hx e
end
end Go.Proofs.YtdfdjgolijckfaaDoor
/- The check of layer 7: what awake answers. -/
namespace Go.Proofs.YtdfdjgolijckfaaDoor
theorem aw_make1 : m_ref6_Make 1 0 [] = some [(1, 0, 0)] := by kernel_rfl
theorem aw_make2 : m_ref6_Make 2 0 [] = some [(2, 0, 0)] := by kernel_rfl
theorem aw_make7 : m_ref6_Make 7 0 [[(1, 0, 0)]] = some [(7, 0, 1), (1, 0, 0)] := by kernel_rfl
theorem aw_read1 : m_terms_Reader_Read [] [(1, 0, 0)] [] = some (0, [], [(0, 0)], [(1, 0, [], -1)]) := by kernel_rfl
theorem aw_read2 : m_terms_Reader_Read [(0, 0)] [(2, 0, 0)] [(1, 0, [], -1)] = some (1, [], [(0, 0)], [(1, 0, [], -1), (2, 0, [], -1)]) := by kernel_rfl
theorem aw_read7 : m_terms_Reader_Read [(0, 0)] [(7, 0, 1), (1, 0, 0)] [(1, 0, [], -1)] = some (1, [], [(0, 0)], [(1, 0, [], -1), (7, 0, [0], -1)]) := by kernel_rfl
theorem aw_un2 : m_terms_Unifier_Unify [] 0 1 [(1, 0, [], -1), (2, 0, [], -1)] = some (0, [], [(1, 0, [], 1), (2, 0, [], -1)]) := by kernel_rfl
theorem aw_un7 : m_terms_Unifier_Unify [] 0 1 [(1, 0, [], -1), (7, 0, [0], -1)] = some (8, [], [(1, 0, [], -1), (7, 0, [0], -1)]) := by kernel_rfl
theorem aw_fits : m_terms_Fits 0 [(1, 0, [], 1), (2, 0, [], -1)] = some (true, [(1, 0, [], 1), (2, 0, [], -1)]) := by kernel_rfl
theorem aw_r2 : m_types_Unify_R2 (0, 0) ([(1, 0, [], 1), (2, 0, [], -1)], []) = some ([(1, 0, [], 1), (2, 0, [], -1)], [(0, [(2, 0, 0)])]) := by kernel_rfl
theorem aw_format : m_types_Format [(1, 0, 0)] [] = some [116, 48] := by kernel_rfl
theorem aw_valid : m_types_Valid [(1, 0, 0)] = some true ∧ m_types_Valid [(2, 0, 0)] = some true ∧ m_types_Valid [(7, 0, 1), (1, 0, 0)] = some true := ⟨by kernel_rfl, by kernel_rfl, by kernel_rfl⟩
theorem aw_clip : m_slices_Clip_L_api_Binding_api_Binding [(0, [(2, 0, 0)])] = some [(0, [(2, 0, 0)])] := by kernel_rfl
theorem aw_sort : m_sortOnBy m_types_Unify_1 [(0, [(2, 0, 0)])] = some [(0, [(2, 0, 0)])] := by
  obtain ⟨r, h1, h2, _⟩ := sort_keys (c := m_types_Unify_1) (fun a b => rfl) (xs := [((0 : Int), [((2 : Int), (0 : Int), (0 : Int))])]) (by simp [NdK]) (by simp) (by simp)
  rw [h1, List.perm_singleton.1 h2]
attribute [local irreducible] FU
theorem aw_U2 : m_types_Unify [(1, 0, 0)] [(2, 0, 0)] = some ([(0, [(2, 0, 0)])], 0) := by
  unfold m_types_Unify
  simp only [jn_eq]
  rw [aw_valid.1, bnd1_mk, aw_valid.2.1, bnd1_mk, aw_read1, bnd1_mk, aw_read2, bnd1_mk, aw_un2, bnd1_mk, aw_fits, bnd1_mk]
  simp only [Bool.not_true, Bool.false_eq_true, ↓reduceIte, not_true_eq_false]
  refine rngC_mk fun l' hp => ?_
  rw [List.perm_singleton.1 hp, foldB, aw_r2, Option.bind_some, foldB, Option.bind_some, aw_sort, bnd1_mk, aw_clip, bnd1_mk]
theorem aw_U7 : m_types_Unify [(1, 0, 0)] [(7, 0, 1), (1, 0, 0)] = some ([], 8) := by
  unfold m_types_Unify
  simp only [jn_eq]
  rw [aw_valid.1, bnd1_mk, aw_valid.2.2, bnd1_mk, aw_read1, bnd1_mk, aw_read7, bnd1_mk, aw_un7, bnd1_mk]
  simp
theorem awake7 : m_law7_awake = some true := by
  unfold m_law7_awake
  rw [aw_make1, bnd1_mk, aw_make2, bnd1_mk, aw_U2, bnd1_mk, aw_make7, bnd1_mk, aw_U7, bnd1_mk, jn_eq, aw_valid.1, bnd1_mk, aw_format, bnd1_mk]
  simp [need, gi]
end Go.Proofs.YtdfdjgolijckfaaDoor
/- The generator of types always returns a valid type. -/
namespace Go.Proofs.YtdfdjgolijckfaaDoor
attribute [local irreducible] FU
theorem wrap_u64' (x : Int) : IntKind.u64.wrap x = x % 18446744073709551616 := by
  unfold IntKind.wrap IntKind.bits IntKind.signed
  simp
/-- The state of the choices. -/
def GS (l : List Int) (i : Int) : Prop := 0 ≤ i ∧ i ≤ l.length ∧ l.length ≤ 9223372036854775807
theorem gNext {l : List Int} {i : Int} (h : GS l i) {n : Int} (h0 : 0 < n) (h1 : n ≤ 1000000) : ∃ y i', m_gen_Choices_Next (l, i) n = some (y, (l, i')) ∧ GS l i' ∧ 0 ≤ y ∧ y < n := by
  obtain ⟨g1, g2, g3⟩ := h
  unfold m_gen_Choices_Next
  simp only []
  by_cases hc : (List.length l : Int) ≤ i
  · rw [if_pos hc]; exact ⟨0, i, rfl, ⟨g1, g2, g3⟩, by omega, h0⟩
  · have e : i64 (i64 (i + 1) - 1) = i := by rw [i64_id (x := i + 1) (by omega), i64_id (by omega)]; omega
    have en : IntKind.u64.wrap n = n := by rw [wrap_u64']; omega
    unfold m_help_Mod
    rw [if_neg hc, e, need_pos (by omega), en, need_pos (by omega), bnd1_mk, i64_id (x := i + 1) (by omega)]
    have ha := wrap_u64' (gi l i)
    have h3 : 0 ≤ Int.tmod (IntKind.u64.wrap (gi l i)) n := Int.tmod_nonneg _ (by omega)
    have h4 : Int.tmod (IntKind.u64.wrap (gi l i)) n < n := Int.tmod_lt_of_pos _ h0
    exact ⟨_, _, rfl, ⟨by omega, by omega, g3⟩, by rw [i64_id (by omega)]; exact h3, by rw [i64_id (by omega)]; exact h4⟩
/-- A type as a tree laid out in a row: at most d deep, its variables below V. -/
inductive Ty (V : Int) : Nat → List Nd → Prop
  | leaf {d : Nat} {k m : Int} (h : fmB (k, m, 0) = true) (hv : k = 1 → m < V) : Ty V (d + 1) [(k, m, 0)]
  | one {d : Nat} {k : Int} {a : List Nd} (h : fmB (k, 0, 1) = true) (ha : Ty V d a) : Ty V (d + 1) ((k, 0, 1) :: a)
  | two {d : Nat} {k : Int} {a b : List Nd} (h : fmB (k, 0, 2) = true) (ha : Ty V d a) (hb : Ty V d b) : Ty V (d + 1) ((k, 0, 2) :: (a ++ b))
theorem make0 (k m : Int) : m_ref6_Make k m [] = some [(k, m, 0)] := by
  obtain ⟨q, hq⟩ := fuk 1 (by omega)
  unfold m_ref6_Make
  rw [hq, jn_eq, m_ref6_Make_L2, m_ref6_Make_B2, if_neg (by simp)]
  rfl
theorem make1 (k : Int) (a : List Nd) (ha : a.length ≤ 1000000) : m_ref6_Make k 0 [a] = some ((k, 0, 1) :: a) := by
  obtain ⟨q, hq⟩ := fuk 2 (by omega)
  unfold m_ref6_Make
  rw [hq, jn_eq, m_ref6_Make_L2, m_ref6_Make_B2, if_pos (by simp), need_pos (by simp), need_pos (by simp [gi]; omega), i64_id (by omega), m_ref6_Make_L2, m_ref6_Make_B2, if_neg (by simp)]
  rfl
theorem make2 (k : Int) (a b : List Nd) (ha : a.length ≤ 1000000) (hb : b.length ≤ 1000000) : m_ref6_Make k 0 [a, b] = some ((k, 0, 2) :: (a ++ b)) := by
  obtain ⟨q, hq⟩ := fuk 3 (by omega)
  unfold m_ref6_Make
  rw [hq, jn_eq, m_ref6_Make_L2, m_ref6_Make_B2, if_pos (by simp), need_pos (by simp), need_pos (by simp [gi]; omega), i64_id (by omega), m_ref6_Make_L2, m_ref6_Make_B2, if_pos (by simp), need_pos (by simp), need_pos (by simp [gi]; omega), i64_id (by omega), m_ref6_Make_L2, m_ref6_Make_B2, if_neg (by simp)]
  rfl
theorem Ty.len {V : Int} : ∀ {d : Nat} {t : List Nd}, Ty V d t → t.length + 1 ≤ 2 ^ d ∧ 0 < t.length
  | _, _, .leaf (d := d) _ _ => by have : 1 ≤ 2 ^ d := Nat.one_le_two_pow; rw [Nat.pow_succ]; simp; omega
  | _, _, .one _ ha => by have := ha.len; rw [Nat.pow_succ]; simp; omega
  | _, _, .two _ ha hb => by have := ha.len; have := hb.len; rw [Nat.pow_succ]; simp; omega
theorem Ty.up {V : Int} : ∀ {d : Nat} {t : List Nd}, Ty V d t → Ty V (d + 1) t
  | _, _, .leaf h hv => .leaf h hv
  | _, _, .one h ha => .one h ha.up
  | _, _, .two h ha hb => .two h ha.up hb.up
/-- What the generator answers. -/
def TypIs (V : Int) (d : Nat) (l : List Int) (o : Option (List Nd × (List Int × Int))) : Prop := ∃ t i', o = some (t, (l, i')) ∧ GS l i' ∧ Ty V d t
theorem typ_ok {V : Int} (hV0 : 0 ≤ V) (hV : V ≤ 1000) : ∀ (d n : Nat) (l : List Int) (i : Int), d ≤ 10 → d < n → GS l i → TypIs V (d + 1) l (m_law7_typ_S n (l, i) ((d + 1 : Nat) : Int) V)
  | d, 0, _, _, _, h, _ => by omega
  | d, n + 1, l, i, hd, hn, hg => by
    rw [m_law7_typ_S, m_law7_typ_F]
    obtain ⟨x, i1, e1, g1, x0, x1⟩ := gNext hg (n := 14) (by omega) (by omega)
    rw [e1, bnd1_mk]
    have hself : ∀ (hd0 : d ≠ 0) (i : Int), GS l i → TypIs V d l (m_law7_typ_S n (l, i) (i64 (((d + 1 : Nat) : Int) - 1)) V) := fun hd0 i hi => by
      obtain ⟨e, rfl⟩ : ∃ e, d = e + 1 := ⟨d - 1, by omega⟩
      rw [i64_id (by omega), show (((e + 1 + 1 : Nat) : Int) - 1) = ((e + 1 : Nat) : Int) by omega]
      exact typ_ok hV0 hV e n l i (by omega) (by omega) hi
    generalize m_law7_typ_S n = S at hself
    have h2d : ∀ {a : List Nd}, Ty V d a → a.length ≤ 1000000 := fun h => by
      have := h.len.1
      have : 2 ^ d ≤ 2 ^ 10 := Nat.pow_le_pow_right (by omega) hd
      omega
    have leaf : ∀ (k m i' : Int), GS l i' → fmB (k, m, 0) = true → (k = 1 → m < V) → TypIs V (d + 1) l (bnd1 (m_ref6_Make k m []) (fun y => some (y, (l, i')))) := fun k m i' hi hf hv => by
      rw [make0, bnd1_mk]; exact ⟨_, _, rfl, hi, .leaf hf hv⟩
    have one : ∀ (hd0 : d ≠ 0) (k i' : Int), GS l i' → fmB (k, 0, 1) = true → TypIs V (d + 1) l (bnd1 (S (l, i') (i64 (((d + 1 : Nat) : Int) - 1)) V) (fun y => bnd1 (m_ref6_Make k 0 [y.1]) (fun z => some (z, (y.2.1, y.2.2))))) := fun hd0 k i' hi hf => by
      obtain ⟨t, i2, e2, g2, ht⟩ := hself hd0 i' hi
      rw [e2, bnd1_mk, make1 k t (h2d ht), bnd1_mk]; exact ⟨_, _, rfl, g2, .one hf ht⟩
    have two : ∀ (hd0 : d ≠ 0) (k i' : Int), GS l i' → fmB (k, 0, 2) = true → TypIs V (d + 1) l (bnd1 (S (l, i') (i64 (((d + 1 : Nat) : Int) - 1)) V) (fun y => bnd1 (S (y.2.1, y.2.2) (i64 (((d + 1 : Nat) : Int) - 1)) V) (fun z => bnd1 (m_ref6_Make k 0 [y.1, z.1]) (fun w => some (w, (z.2.1, z.2.2)))))) := fun hd0 k i' hi hf => by
      obtain ⟨t, i2, e2, g2, ht⟩ := hself hd0 i' hi
      rw [e2, bnd1_mk]
      obtain ⟨u, i3, e3, g3, hu⟩ := hself hd0 i2 g2
      rw [e3, bnd1_mk, make2 k t u (h2d ht) (h2d hu), bnd1_mk]; exact ⟨_, _, rfl, g3, .two hf ht hu⟩
    obtain ⟨z, hz0, hz1, hzd, hz⟩ : ∃ z : Int, 0 ≤ z ∧ z < 14 ∧ (d = 0 → z < 6) ∧ (if ((d + 1 : Nat) : Int) ≤ 1 then Int.tmod x 6 else x) = z := by
      by_cases h : d = 0
      · refine ⟨Int.tmod x 6, Int.tmod_nonneg _ x0, ?_, fun _ => Int.tmod_lt_of_pos _ (by omega), if_pos (by omega)⟩
        have := Int.tmod_lt_of_pos x (show (0 : Int) < 6 by omega); omega
      · exact ⟨x, x0, x1, fun h' => absurd h' h, if_neg (by omega)⟩
    have hif : ∀ (F : Int → Option (List Nd × (List Int × Int))), jn F (fun k2 => if ((d + 1 : Nat) : Int) ≤ 1 then k2 (Int.tmod x 6) else k2 x) = F z := fun F => by
      rw [← hz, jn_eq]; split <;> rfl
    dsimp only
    rw [hif]
    simp only [jn_eq]
    clear hif hz e1 x0 x1
    have hcase : z = 0 ∨ z = 1 ∨ z = 2 ∨ z = 3 ∨ z = 4 ∨ z = 5 ∨ (d ≠ 0 ∧ (z = 6 ∨ z = 7 ∨ z = 8 ∨ z = 9 ∨ z = 10 ∨ z = 11 ∨ z = 12 ∨ z = 13)) := by
      by_cases h : d = 0
      · have := hzd h; omega
      · omega
    have v01 : ∀ z : Int, TypIs V (d + 1) l (if 0 < V then (bnd1 (m_gen_Choices_Next (l, i1) V) (fun y53 => bnd1 (m_ref6_Make 1 y53.1 ([] : List (List (Int × Int × Int)))) (fun y54 => some (y54, (y53.2.1, y53.2.2))))) else (bnd1 (m_ref6_Make 2 0 ([] : List (List (Int × Int × Int)))) (fun y56 => some (y56, (l, i1))))) := fun _ => by
      by_cases h : 0 < V
      · rw [if_pos h]
        obtain ⟨y, i2, e2, g2, y0, y1⟩ := gNext g1 h (by omega)
        rw [e2, bnd1_mk]
        exact leaf 1 y i2 g2 (by unfold fmB; simp; omega) (fun _ => y1)
      · rw [if_neg h]; exact leaf 2 0 i1 g1 (by decide) (fun h => by omega)
    rcases hcase with rfl | rfl | rfl | rfl | rfl | rfl | ⟨hd0, rfl | rfl | rfl | rfl | rfl | rfl | rfl | rfl⟩ <;> simp only [decide_true, decide_false, ↓reduceIte, Bool.false_eq_true, show ((0:Int) = 0) = True from eq_self 0, reduceCtorEq, Int.reduceEq, decide_eq_true_eq]
    · exact v01 0
    · exact v01 0
    · exact leaf 3 0 i1 g1 (by decide) (fun h => by omega)
    · obtain ⟨y, i2, e2, g2, y0, y1⟩ := gNext g1 (n := 2) (by omega) (by omega)
      rw [e2, bnd1_mk, need_pos (by simp; omega)]
      have : y = 0 ∨ y = 1 := by omega
      rcases this with rfl | rfl
      · exact leaf 4 0 i2 g2 (by decide) (fun h => by omega)
      · exact leaf 5 0 i2 g2 (by decide) (fun h => by omega)
    · obtain ⟨y, i2, e2, g2, y0, y1⟩ := gNext g1 (n := 3) (by omega) (by omega)
      rw [e2, bnd1_mk]
      exact leaf 6 y i2 g2 (by unfold fmB; simp; omega) (fun h => by omega)
    · exact leaf 2 0 i1 g1 (by decide) (fun h => by omega)
    · obtain ⟨y, i2, e2, g2, y0, y1⟩ := gNext g1 (n := 2) (by omega) (by omega)
      rw [e2, bnd1_mk, need_pos (by simp; omega)]
      have : y = 0 ∨ y = 1 := by omega
      rcases this with rfl | rfl
      · exact one hd0 7 i2 g2 (by decide)
      · exact one hd0 8 i2 g2 (by decide)
    · obtain ⟨y, i2, e2, g2, y0, y1⟩ := gNext g1 (n := 2) (by omega) (by omega)
      rw [e2, bnd1_mk, need_pos (by simp; omega)]
      have : y = 0 ∨ y = 1 := by omega
      rcases this with rfl | rfl
      · exact one hd0 7 i2 g2 (by decide)
      · exact one hd0 8 i2 g2 (by decide)
    · obtain ⟨y, i2, e2, g2, y0, y1⟩ := gNext g1 (n := 3) (by omega) (by omega)
      rw [e2, bnd1_mk, need_pos (by simp; omega)]
      have : y = 0 ∨ y = 1 ∨ y = 2 := by omega
      rcases this with rfl | rfl | rfl
      · exact two hd0 9 i2 g2 (by decide)
      · exact two hd0 12 i2 g2 (by decide)
      · exact two hd0 13 i2 g2 (by decide)
    · exact two hd0 10 i1 g1 (by decide)
    · exact two hd0 10 i1 g1 (by decide)
    · exact two hd0 11 i1 g1 (by decide)
    · exact two hd0 11 i1 g1 (by decide)
    · exact one hd0 11 i1 g1 (by decide)
theorem vTyp {V : Int} (hV0 : 0 ≤ V) (hV : V ≤ 1000) {l : List Int} {i : Int} (d : Nat) (hd : d ≤ 10) (hg : GS l i) (D : Int) (hD : D = ((d + 1 : Nat) : Int)) : ∃ t i', m_law7_typ (l, i) D V = some (t, (l, i')) ∧ GS l i' ∧ Ty V (d + 1) t := by
  subst hD
  exact typ_ok hV0 hV d FU l i hd (by have := FU_ge; omega) hg
end Go.Proofs.YtdfdjgolijckfaaDoor
