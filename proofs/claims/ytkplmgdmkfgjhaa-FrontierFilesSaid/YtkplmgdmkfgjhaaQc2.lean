/- FrontierFiles: the law. -/
import Derived.Test.YtkplmgdmkfgjhaaQc1
namespace Go.Proofs.Ytkplmgdmkfgjhaa
attribute [local irreducible] FU
noncomputable def tailM (x13_j491 : List (Int × Int)) (x14_j490 : Int) (x12_l2 : Int) (k444 : List Int → Int → Dk → Int → LFs → LFs → LFs → List (Int × List UInt8 × List UInt8 × Int) → Int → Bool → Int → Option Bool) (x7_0_j496 : List Int) (x7_1_j496 : Int) (x8d_j496 : Dk) (x10_0_j496 : Int) (x10_1_j496 : List ((List UInt8) × Int)) (x10_2_j496 : List ((List UInt8) × Int)) (x10_3_j496 : List ((List UInt8) × Int)) (x10_4_j496 : List (Int × (List UInt8) × (List UInt8) × Int)) (x10_5_j496 : Int) (x10_6_j496 : Bool) (x10_7_j496 : Int) : Option Bool :=
  bnd1 (m_frontier_Write x8d_j496 [114] x13_j491 x14_j490) (fun y505 => bnd1 (m_ref35_Write (x10_0_j496, x10_1_j496, x10_2_j496, x10_3_j496, x10_4_j496, x10_5_j496, x10_6_j496, x10_7_j496) [114] x13_j491 x14_j490) (fun y507 => bnd1 (m_frontier_Read y505.2 [114]) (fun y508 => bnd1 (m_ref35_Read (y507.2.1, y507.2.2.1, y507.2.2.2.1, y507.2.2.2.2.1, y507.2.2.2.2.2.1, y507.2.2.2.2.2.2.1, y507.2.2.2.2.2.2.2.1, y507.2.2.2.2.2.2.2.2) [114]) (fun y510 => bnd1 (m_frontier_Blocks y508.2.2 [114]) (fun y511 => jn (fun (x8d_j521 : Dk) (x114_j521 : Bool) => if x114_j521 then (some false) else (if y510.2.2.2.2.2.2.2.2.2.1 then (bnd1 (m_disk_Crash x8d_j521 [1, x12_l2]) (fun y528 => bnd1 (m_ref35_Disk_Crash (y510.2.2.2.1, y510.2.2.2.2.1, y510.2.2.2.2.2.1, y510.2.2.2.2.2.2.1, y510.2.2.2.2.2.2.2.1, y510.2.2.2.2.2.2.2.2.1, y510.2.2.2.2.2.2.2.2.2.1, y510.2.2.2.2.2.2.2.2.2.2) [1, x12_l2]) (fun y530 => k444 x7_0_j496 x7_1_j496 y528 y530.1 y530.2.1 y530.2.2.1 y530.2.2.2.1 y530.2.2.2.2.1 y530.2.2.2.2.2.1 y530.2.2.2.2.2.2.1 y530.2.2.2.2.2.2.2))) else (k444 x7_0_j496 x7_1_j496 x8d_j521 y510.2.2.2.1 y510.2.2.2.2.1 y510.2.2.2.2.2.1 y510.2.2.2.2.2.2.1 y510.2.2.2.2.2.2.2.1 y510.2.2.2.2.2.2.2.2.1 y510.2.2.2.2.2.2.2.2.2.1 y510.2.2.2.2.2.2.2.2.2.2))) (fun k521 => if ¬ y505.1 = y507.1 then (k521 y511.2.2 true) else (if ¬ y508.2.1 = y510.2.2.1 then (k521 y511.2.2 true) else (if ¬ y511.2.1 = y510.2.2.1 then (k521 y511.2.2 true) else (bnd1 (m_law36_same y508.1 y510.1) (fun y525 => if !y525 then (k521 y511.2.2 true) else (if ¬ y511.1 = y510.2.1 then (k521 y511.2.2 true) else (bnd1 (m_disk_Writes y511.2.2) (fun y526 => k521 y526.2 (decide (¬ y526.1 = y510.2.2.2.2.2.2.2.2.2.2)))))))))))))))
theorem tail_ok {B : Nat} {S : St} (h : OkS B S) (hB : B ≤ 500000) {l : List (Int × Int)} (hl : l.length ≤ 1000) (n : Int) {i : Int} (hi : 0 ≤ i ∧ i ≤ 4) (xs : List Int) (q : Int) :
    ∃ S', OkS (B + 1002) S' ∧ S'.dn = false ∧ ∀ k, tailM l n i k xs q (mkD S) (mkR S).1 (mkR S).2.1 (mkR S).2.2.1 (mkR S).2.2.2.1 (mkR S).2.2.2.2.1 (mkR S).2.2.2.2.2.1 (mkR S).2.2.2.2.2.2.1 (mkR S).2.2.2.2.2.2.2 = k xs q (mkD S') (mkR S').1 (mkR S').2.1 (mkR S').2.2.1 (mkR S').2.2.2.1 (mkR S').2.2.2.2.1 (mkR S').2.2.2.2.2.1 (mkR S').2.2.2.2.2.2.1 (mkR S').2.2.2.2.2.2.2 := by
  have heta : ∀ S : St, ((mkR S).1, (mkR S).2.1, (mkR S).2.2.1, (mkR S).2.2.2.1, (mkR S).2.2.2.2.1, (mkR S).2.2.2.2.2.1, (mkR S).2.2.2.2.2.2.1, (mkR S).2.2.2.2.2.2.2) = mkR S := fun _ => rfl
  obtain ⟨e, S1, w1, w2, w3⟩ := write2 h (by omega) hl n
  obtain ⟨r, r1, r2, r3⟩ := read2 w3
  have hRead : m_frontier_Read (mkD S1) [114] = some (r.1, r.2.2, mkD S1) := by unfold m_frontier_Read; rw [r1, bnd1_mk]
  have hBlk : m_frontier_Blocks (mkD S1) [114] = some (r.2.1, r.2.2, mkD S1) := by unfold m_frontier_Blocks; rw [r1, bnd1_mk]
  have hW : m_disk_Writes (mkD S1) = some ((S1.wr : Int), mkD S1) := rfl
  have key : ∀ k, tailM l n i k xs q (mkD S) (mkR S).1 (mkR S).2.1 (mkR S).2.2.1 (mkR S).2.2.2.1 (mkR S).2.2.2.2.1 (mkR S).2.2.2.2.2.1 (mkR S).2.2.2.2.2.2.1 (mkR S).2.2.2.2.2.2.2 =
      if S1.dn = true then bnd1 (m_disk_Crash (mkD S1) [1, i]) (fun y528 => bnd1 (m_ref35_Disk_Crash (mkR S1) [1, i]) (fun y530 => k xs q y528 y530.1 y530.2.1 y530.2.2.1 y530.2.2.2.1 y530.2.2.2.2.1 y530.2.2.2.2.2.1 y530.2.2.2.2.2.2.1 y530.2.2.2.2.2.2.2))
      else k xs q (mkD S1) (mkR S1).1 (mkR S1).2.1 (mkR S1).2.2.1 (mkR S1).2.2.2.1 (mkR S1).2.2.2.2.1 (mkR S1).2.2.2.2.2.1 (mkR S1).2.2.2.2.2.2.1 (mkR S1).2.2.2.2.2.2.2 := fun k => by
    unfold tailM
    rw [w1, bnd1_mk, heta, w2, bnd1_mk]
    try dsimp only
    rw [hRead, bnd1_mk, heta, r2, bnd1_mk]
    try dsimp only
    rw [hBlk, bnd1_mk]
    simp only [jn_eq]
    rw [if_neg (by simp), if_neg (by simp), if_neg (by simp), same_refl r.1 (by omega), bnd1_mk]
    try dsimp only
    rw [if_neg (by simp), if_neg (by simp), hW, bnd1_mk]
    try dsimp only
    rw [decide_eq_false (by exact fun hh => hh rfl), if_neg (by simp), heta]
    rfl
  by_cases hd : S1.dn = true
  · refine ⟨keS S1 i, keOk w3 hi.1, rfl, fun k => ?_⟩
    rw [key, if_pos hd, crD2 w3 (by omega) hi, crR2 w3 (by omega) hi, bnd1_mk, bnd1_mk]
  · refine ⟨S1, w3, by simpa using hd, fun k => ?_⟩
    rw [key, if_neg hd]
theorem files_loop (a1 : Int) (K : Dk → Option Bool) : ∀ (m i fu : Nat) (xs : List Int) (p : Int) (S : St) (B : Nat), i + m = 5 → m < fu → 0 ≤ p → p + 1000 * m ≤ 1000000 → OkS B S → S.dn = false → B + 2000 * m ≤ 100000 →
    ∃ S', OkS 100000 S' ∧ S'.dn = false ∧ m_law36_FrontierFiles_L2 a1 K fu xs p (mkD S) (mkR S).1 (mkR S).2.1 (mkR S).2.2.1 (mkR S).2.2.2.1 (mkR S).2.2.2.2.1 (mkR S).2.2.2.2.2.1 (mkR S).2.2.2.2.2.2.1 (mkR S).2.2.2.2.2.2.2 (i : Int) = K (mkD S') := by
  have heta : ∀ S : St, ((mkR S).1, (mkR S).2.1, (mkR S).2.2.1, (mkR S).2.2.2.1, (mkR S).2.2.2.2.1, (mkR S).2.2.2.2.2.1, (mkR S).2.2.2.2.2.2.1, (mkR S).2.2.2.2.2.2.2) = mkR S := fun _ => rfl
  intro m
  induction m with
  | zero =>
    intro i fu xs p S B hi hf _ _ hS hd hB
    obtain ⟨fu, rfl⟩ : ∃ q, fu = q + 1 := ⟨fu - 1, by omega⟩
    rw [m_law36_FrontierFiles_L2, m_law36_FrontierFiles_B2, if_neg (by omega)]
    exact ⟨S, hS.mono (by omega), hd, rfl⟩
  | succ m ih =>
    intro i fu xs p S B hi hf hp hpm hS hd hB
    obtain ⟨fu, rfl⟩ : ∃ q, fu = q + 1 := ⟨fu - 1, by omega⟩
    have e1 : i64 ((i : Int) + 1) = ((i + 1 : Nat) : Int) := by rw [i64_id (by omega)]; omega
    rw [m_law36_FrontierFiles_L2, m_law36_FrontierFiles_B2, if_pos (by omega), jn_eq]
    simp only [e1]
    obtain ⟨l, p1, r1, r2, r3, r4, _⟩ := run_spec xs p 9 hp (by omega) (by omega) (by omega)
    obtain ⟨v, n1, n2, _, _⟩ := next_spec xs p1 5 (by omega) (by omega) (by omega)
    obtain ⟨v2, b1, b2, _, _⟩ := next_spec xs (p1 + 1) 4 (by omega) (by omega) (by omega)
    rw [r1, bnd1_mk]
    try dsimp only
    rw [n1, bnd1_mk, jn_eq]
    have go : ∀ (x14 : Int) (l' : List (Int × Int)) (p3 : Int), l'.length ≤ 1000 → p1 + 1 ≤ p3 → p3 ≤ p1 + 500 → ∃ S', OkS 100000 S' ∧ S'.dn = false ∧ (bnd1 (m_gen2_Tape_Next (xs, p3) 4) (fun y501 => if y501.1 = 0 then (bnd1 (m_disk_Fail (mkD S) 3) (fun y502 => bnd1 (m_ref35_Disk_Fail (mkR S) 3) (fun y504 => tailM l' x14 (i : Int) (fun a b c d e f g h i1 j k => m_law36_FrontierFiles_L2 a1 K fu a b c d e f g h i1 j k ((i + 1 : Nat) : Int)) y501.2.1 y501.2.2 y502 y504.1 y504.2.1 y504.2.2.1 y504.2.2.2.1 y504.2.2.2.2.1 y504.2.2.2.2.2.1 y504.2.2.2.2.2.2.1 y504.2.2.2.2.2.2.2))) else (tailM l' x14 (i : Int) (fun a b c d e f g h i1 j k => m_law36_FrontierFiles_L2 a1 K fu a b c d e f g h i1 j k ((i + 1 : Nat) : Int)) y501.2.1 y501.2.2 (mkD S) (mkR S).1 (mkR S).2.1 (mkR S).2.2.1 (mkR S).2.2.2.1 (mkR S).2.2.2.2.1 (mkR S).2.2.2.2.2.1 (mkR S).2.2.2.2.2.2.1 (mkR S).2.2.2.2.2.2.2))) = K (mkD S') := by
      intro x14 l' p3 hl' hp3 hp4
      obtain ⟨v3, c1, c2, _, _⟩ := next_spec xs p3 4 (by omega) (by omega) (by omega)
      rw [c1, bnd1_mk]
      dsimp only
      by_cases h3 : v3 = 0
      · rw [if_pos h3, flD, flR, bnd1_mk, bnd1_mk]
        obtain ⟨S1, t1, t2, t3⟩ := tail_ok (flOk hS) (by omega) hl' x14 (i := (i : Int)) (by omega) xs (p3 + 1)
        rw [t3]
        exact ih (i + 1) fu xs (p3 + 1) S1 (B + 1002) (by omega) (by omega) (by omega) (by omega) t1 t2 (by omega)
      · rw [if_neg h3]
        obtain ⟨S1, t1, t2, t3⟩ := tail_ok hS (by omega) hl' x14 (i := (i : Int)) (by omega) xs (p3 + 1)
        rw [t3]
        exact ih (i + 1) fu xs (p3 + 1) S1 (B + 1002) (by omega) (by omega) (by omega) (by omega) t1 t2 (by omega)
    have go2 : ∀ x14 : Int, ∃ S', OkS 100000 S' ∧ S'.dn = false ∧ (bnd1 (m_gen2_Tape_Next (xs, p1 + 1) 4) (fun y494 => if y494.1 = 0 then (bnd1 (m_law36_pairs (y494.2.1, y494.2.2) 5) (fun y495 => bnd1 (m_gen2_Tape_Next (y495.2.1, y495.2.2) 4) (fun y501 => if y501.1 = 0 then (bnd1 (m_disk_Fail (mkD S) 3) (fun y502 => bnd1 (m_ref35_Disk_Fail (mkR S) 3) (fun y504 => tailM y495.1 x14 (i : Int) (fun a b c d e f g h i1 j k => m_law36_FrontierFiles_L2 a1 K fu a b c d e f g h i1 j k ((i + 1 : Nat) : Int)) y501.2.1 y501.2.2 y502 y504.1 y504.2.1 y504.2.2.1 y504.2.2.2.1 y504.2.2.2.2.1 y504.2.2.2.2.2.1 y504.2.2.2.2.2.2.1 y504.2.2.2.2.2.2.2))) else (tailM y495.1 x14 (i : Int) (fun a b c d e f g h i1 j k => m_law36_FrontierFiles_L2 a1 K fu a b c d e f g h i1 j k ((i + 1 : Nat) : Int)) y501.2.1 y501.2.2 (mkD S) (mkR S).1 (mkR S).2.1 (mkR S).2.2.1 (mkR S).2.2.2.1 (mkR S).2.2.2.2.1 (mkR S).2.2.2.2.2.1 (mkR S).2.2.2.2.2.2.1 (mkR S).2.2.2.2.2.2.2)))) else (bnd1 (m_gen2_Tape_Next (y494.2.1, y494.2.2) 4) (fun y501 => if y501.1 = 0 then (bnd1 (m_disk_Fail (mkD S) 3) (fun y502 => bnd1 (m_ref35_Disk_Fail (mkR S) 3) (fun y504 => tailM l x14 (i : Int) (fun a b c d e f g h i1 j k => m_law36_FrontierFiles_L2 a1 K fu a b c d e f g h i1 j k ((i + 1 : Nat) : Int)) y501.2.1 y501.2.2 y502 y504.1 y504.2.1 y504.2.2.1 y504.2.2.2.1 y504.2.2.2.2.1 y504.2.2.2.2.2.1 y504.2.2.2.2.2.2.1 y504.2.2.2.2.2.2.2))) else (tailM l x14 (i : Int) (fun a b c d e f g h i1 j k => m_law36_FrontierFiles_L2 a1 K fu a b c d e f g h i1 j k ((i + 1 : Nat) : Int)) y501.2.1 y501.2.2 (mkD S) (mkR S).1 (mkR S).2.1 (mkR S).2.2.1 (mkR S).2.2.2.1 (mkR S).2.2.2.2.1 (mkR S).2.2.2.2.2.1 (mkR S).2.2.2.2.2.2.1 (mkR S).2.2.2.2.2.2.2))))) = K (mkD S') := by
      intro x14
      rw [b1, bnd1_mk]
      dsimp only
      by_cases h2 : v2 = 0
      · obtain ⟨l2, p2, q1, q2, q3, q4, _⟩ := pairs_spec xs (p1 + 1 + 1) 5 (by omega) (by omega) (by omega) (by omega)
        rw [if_pos h2, q1, bnd1_mk]
        exact go x14 l2 p2 (by omega) (by omega) (by omega)
      · rw [if_neg h2]
        exact go x14 l (p1 + 1 + 1) (by omega) (by omega) (by omega)
    by_cases h4 : (i : Int) = 4
    · rw [if_pos h4]
      exact go2 a1
    · rw [if_neg h4]
      exact go2 v
theorem frontierFiles_law (a0 : List Int) (a1 : Int) (a2 : List (Int × Int)) (hl : a2.length ≤ 9223372036854775807) : m_law36_FrontierFiles a0 a1 a2 = some true := by
  have hFU := FU_ge
  have hNew : m_disk_New 300 = some (mkD ⟨[], none, none, none, 0, 0, false⟩, 0) := by unfold m_disk_New; rw [need_pos (by omega)]; rfl
  have hNewR : m_ref35_New 300 = some (mkR ⟨[], none, none, none, 0, 0, false⟩, 0) := by
    unfold m_ref35_New
    rw [jn_eq, if_neg (by omega), decide_eq_false (by omega)]
    rfl
  unfold m_law36_FrontierFiles m_gen2_New
  rw [bnd1_mk, hNew, bnd1_mk, hNewR, bnd1_mk, jn_eq]
  obtain ⟨S, s1, s2, s3⟩ := files_loop a1 (fun x8d_j7 => bnd1 (m_frontier_Write x8d_j7 [115] a2 1) (fun y531 => jn (fun (x6_j533 : Bool) => some x6_j533) (fun k533 => if 100 < (List.length a2 : Int) then (k533 true) else (bnd1 (m_ref35_IsRun a2) (fun y536 => if (decide (¬ y531.1 = 1)) = y536 then (bnd1 (m_law36_sane) (fun y537 => k533 y537)) else (k533 false)))))) 5 0 FU a0 0 ⟨[], none, none, none, 0, 0, false⟩ 0 (by omega) (by omega) (by omega) (by omega)
    ⟨fun _ h => (by cases h), fun _ h => (by cases h), fun _ h => (by cases h), fun _ => rfl, fun _ h => (by cases h), Nat.zero_le _, Nat.le_refl _, Nat.le_refl _⟩ rfl (by omega)
  obtain ⟨e, D', b, g1, g2, g3⟩ := writeG hl (gdS s1 s2)
  refine s3.trans ?_
  rw [g1, bnd1_mk, jn_eq]
  split
  · rfl
  · rw [g2, bnd1_mk, if_pos g3, sane_true, bnd1_mk]
theorem frontierFiles_true (a0 : List Int) (a1 : Int) (a2 : List (Int × Int)) {p q r : Prop} (_ : p) (_ : q) (h : a2.length ≤ 9223372036854775807 ∧ r) : m_law36_FrontierFiles a0 a1 a2 = some true := frontierFiles_law a0 a1 a2 h.1
end Go.Proofs.Ytkplmgdmkfgjhaa
