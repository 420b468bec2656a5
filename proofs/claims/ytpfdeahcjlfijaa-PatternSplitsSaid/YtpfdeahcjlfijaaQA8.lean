/- PatternSplits. -/
import Derived.Test.YtpfdeahcjlfijaaQA2
import Derived.Test.YtpfdeahcjlfijaaQA4
import Derived.Test.YtpfdeahcjlfijaaQA7
namespace Go.Proofs.Ytpfdeahcjlfijaa
attribute [local irreducible] FU

noncomputable def intsW (i m : Nat) : List Vl := (List.range' i m).map fun j : Nat => intW (j : Int)
theorem ints_eq (i n : Nat) : intsW i n = ((List.range' i n).map fun j : Nat => (j : Int)).map intW := by simp [intsW]
theorem ints_len (i n : Nat) : (intsW i n).length = n := by simp [intsW]
theorem patternSplits_true (a0 a1 a2 : UInt8) (_ : True) (_ : True) (_ : True) : m_law12_PatternSplits a0 a1 a2 = some true := by
  have hFU := FU_ge
  unfold m_law12_PatternSplits
  obtain ⟨a, ha, ha5⟩ : ∃ a : Nat, (a0 % 5).toNat = a ∧ a < 5 := ⟨_, rfl, by rw [UInt8.toNat_mod]; exact Nat.mod_lt _ (by decide)⟩
  obtain ⟨b, hb, hb5⟩ : ∃ b : Nat, (a1 % 5).toNat = b ∧ b < 5 := ⟨_, rfl, by rw [UInt8.toNat_mod]; exact Nat.mod_lt _ (by decide)⟩
  obtain ⟨k, hk, hk12⟩ : ∃ k : Nat, (a2 % 12).toNat = k ∧ k < 12 := ⟨_, rfl, by rw [UInt8.toNat_mod]; exact Nat.mod_lt _ (by decide)⟩
  have e1 : m_law12_node 30 0 ([] : List (List Cd)) = some [(30, 0, 0)] := lNode 30 0 [] (by simp) (by simp)
  have l2 : ∀ (K : List (List Cd) → Option Bool) (m i n : Nat) (s : List (List Cd)), i + m = a → m < n → s.length + m ≤ 100 → m_law12_PatternSplits_L2 a0 K n s (i : Int) = K (s ++ List.replicate m [(30, 0, 0)]) := by
    intro K m
    induction m with
    | zero =>
      intro i n s hi hn _
      obtain ⟨n, rfl⟩ : ∃ j, n = j + 1 := ⟨n - 1, by omega⟩
      rw [m_law12_PatternSplits_L2, m_law12_PatternSplits_B2, ha, if_neg (by omega)]; simp
    | succ m ih =>
      intro i n s hi hn hs
      obtain ⟨n, rfl⟩ : ∃ j, n = j + 1 := ⟨n - 1, by omega⟩
      rw [m_law12_PatternSplits_L2, m_law12_PatternSplits_B2, ha, if_pos (by omega), e1, bnd1_mk, need_pos (by simp; omega), i64_succ (by omega), ih (i + 1) n _ (by omega) (by omega) (by simp; omega), List.append_assoc, List.replicate_succ]; rfl
  have l4 : ∀ (K : List (List Cd) → Option Bool) (m i n : Nat) (s : List (List Cd)), i + m = b + 1 → m < n → s.length + m ≤ 100 → m_law12_PatternSplits_L4 a1 K n s (i : Int) = K (s ++ List.replicate m [(30, 0, 0)]) := by
    intro K m
    induction m with
    | zero =>
      intro i n s hi hn _
      obtain ⟨n, rfl⟩ : ∃ j, n = j + 1 := ⟨n - 1, by omega⟩
      rw [m_law12_PatternSplits_L4, m_law12_PatternSplits_B4, hb, if_neg (by omega)]; simp
    | succ m ih =>
      intro i n s hi hn hs
      obtain ⟨n, rfl⟩ : ∃ j, n = j + 1 := ⟨n - 1, by omega⟩
      rw [m_law12_PatternSplits_L4, m_law12_PatternSplits_B4, hb, if_pos (by omega), e1, bnd1_mk, need_pos (by simp; omega), i64_succ (by omega), ih (i + 1) n _ (by omega) (by omega) (by simp; omega), List.append_assoc, List.replicate_succ]; rfl
  have l6 : ∀ (K : List Vl → Option Bool) (m i n : Nat) (s : List Vl), i + m = k → m < n → s.length + m ≤ 100 → m_law12_PatternSplits_L6 a2 K n s (i : Int) = K (s ++ intsW i m) := by
    intro K m
    induction m with
    | zero =>
      intro i n s hi hn _
      obtain ⟨n, rfl⟩ : ∃ j, n = j + 1 := ⟨n - 1, by omega⟩
      rw [m_law12_PatternSplits_L6, m_law12_PatternSplits_B6, hk, if_neg (by omega)]; simp [intsW]
    | succ m ih =>
      intro i n s hi hn hs
      obtain ⟨n, rfl⟩ : ∃ j, n = j + 1 := ⟨n - 1, by omega⟩
      rw [m_law12_PatternSplits_L6, m_law12_PatternSplits_B6, hk, if_pos (by omega), rInt, bnd1_mk, need_pos (by simp; omega), i64_succ (by omega), ih (i + 1) n _ (by omega) (by omega) (by simp; omega), List.append_assoc]
      rw [show intsW i (m + 1) = [intW (i : Int)] ++ intsW (i + 1) m from by simp [intsW, List.range'_succ]]
  simp only [jn_eq]
  have g2 := fun K => l2 K a 0 FU [] (by omega) (by omega) (by simp; omega)
  have g4 := fun K => l4 K (b + 1) 0 FU ([] ++ List.replicate a [(30, 0, 0)]) (by omega) (by omega) (by simp; omega)
  have g6 := fun K => l6 K k 0 FU [] (by omega) (by omega) (by simp; omega)
  simp only [Int.natCast_zero, List.nil_append] at g2 g4 g6
  have hrep : List.replicate a [((30 : Int), (0 : Int), (0 : Int))] ++ List.replicate (b + 1) [(30, 0, 0)] = List.replicate (a + (b + 1)) [(30, 0, 0)] := by rw [List.replicate_append_replicate]
  rw [g2, g4, g6, hrep, ha, hb, hk]
  have en : m_law12_node 36 (a : Int) (List.replicate (a + (b + 1)) [(30, 0, 0)]) = some (ser (catT a (a + (b + 1)))) := by
    rw [ser_cat]; exact lNode 36 a _ (by simp; omega) (by rw [flat_one]; simp; omega)
  have hp := parse_cat (a := a) (m := a + (b + 1)) (by omega) (by omega)
  have hlen := ser_cat_len a (a + (b + 1))
  have hil := ints_len 0 k
  obtain ⟨s1, s2, s3, _⟩ := seq_ints (l := (List.range' 0 k).map fun j : Nat => (j : Int)) (by simp; omega)
  rw [← ints_eq] at s1 s2 s3
  rw [en, bnd1_mk, sMake _ (by omega), bnd1_mk, i64_id (x := (a : Int) + b) (by omega)]
  by_cases hab : k < a + b
  · have hM : m_pattern_Match (ser (catT a (a + (b + 1)))) (cmpd 4 (intsW 0 k)) = some ([], false) := by
      rw [pMatchW _ _ (by omega), matchW, hp]
      simp only [show vldB (cmpd 4 (intsW 0 k)) = true from vldB_iff.2 s1, if_true]
      rw [mt_cat_no (by rw [s3, hil]; omega)]
    rw [hM, bnd1_mk, if_pos (by omega), awake12, bnd1_mk]
    simp
  · have hM : m_pattern_Match (ser (catT a (a + (b + 1)))) (cmpd 4 (intsW 0 k)) = some ((intsW 0 k).take a ++ cmpd 4 (((intsW 0 k).drop a).take (k - (a + (b + 1) - 1))) :: (intsW 0 k).drop (k - (a + (b + 1) - 1 - a)), true) := by
      rw [pMatchW _ _ (by omega), matchW, hp]
      simp only [show vldB (cmpd 4 (intsW 0 k)) = true from vldB_iff.2 s1, if_true]
      rw [mt_cat (by omega) s2 (by rw [s3, hil]; omega), s3, hil]
    rw [hM, bnd1_mk, if_neg (by omega), awake12, bnd1_mk]
    have z1 : k - (a + (b + 1) - 1) = k - (a + b) := by omega
    have z2 : k - (a + (b + 1) - 1 - a) = k - b := by omega
    rw [z1, z2]
    obtain ⟨X, hX⟩ : ∃ X, X = cmpd 4 (((intsW 0 k).drop a).take (k - (a + b))) := ⟨_, rfl⟩
    rw [← hX]
    have hol : ((intsW 0 k).take a ++ X :: (intsW 0 k).drop (k - b)).length = a + b + 1 := by simp [hil]; omega
    have hta : ((intsW 0 k).take a).length = a := by simp [hil]; omega
    simp only [Bool.not_true, Bool.false_eq_true, if_false]
    rw [hol, i64_id (x := (a : Int) + b + 1) (by omega), if_neg (by omega), need_pos (by omega), i64_id (x := (k : Int) - b) (by omega), need_pos (by omega), sMake _ (by simp; omega), bnd1_mk]
    have z3 : Int.toNat ((k : Int) - b) - Int.toNat (a : Int) = k - (a + b) := by omega
    have z4 : Int.toNat ((k : Int) - b) = k - b := by omega
    have z5 : Int.toNat (i64 ((a : Int) + 1)) = a + 1 := by rw [i64_id (by omega)]; omega
    have z6 : gi ((intsW 0 k).take a ++ X :: (intsW 0 k).drop (k - b)) (a : Int) = X := by
      rw [gi_nat (by omega), List.getElem_append_right (by omega)]
      simp [hta]
    rw [z3, Int.toNat_natCast, ← hX, z6]
    simp only [not_true_eq_false, decide_false, Bool.false_eq_true, if_false]
    rw [need_pos (by omega), need_pos (by omega), hEqual _ _ (by simp; omega), bnd1_mk]
    have z7 : ((intsW 0 k).take a ++ X :: (intsW 0 k).drop (k - b)).take a = (intsW 0 k).take a := by
      rw [List.take_append_of_le_length (by omega), List.take_of_length_le (by omega)]
    have z8 : ((intsW 0 k).take a ++ X :: (intsW 0 k).drop (k - b)).drop (a + 1) = (intsW 0 k).drop (k - b) := by
      rw [List.drop_append, hta, List.drop_eq_nil_of_le (by omega), show a + 1 - a = 1 by omega]; rfl
    rw [z7, decide_eq_true rfl, if_pos rfl, need_pos (by rw [i64_id (by omega)]; omega), need_pos (by omega), hEqual _ _ (by simp; omega), bnd1_mk, z5, z4, z8, decide_eq_true rfl]
end Go.Proofs.Ytpfdeahcjlfijaa
/- PatternSplits: for every input the call returns true, and the arguments read as before. No condition. -/
namespace Go.Proofs.Ytpfdeahcjlfijaa
open Go.ChangeShapes Go.WideShapes Go.ChangeAt Go.RowKit

theorem o_uint8 : Opens Try.prog 5 1 (fun x : UInt8 => [.exact (.int .u8 (x.toNat : Int))]) (fun _ => 1) (fun _ => True) := fun e0 W fuel cs y h => (opens_u8 Try.underlying5) e0 W fuel cs y h
set_option maxRecDepth 100000 in
theorem patternSplits_lifted (os : Os) (started : os.Started) (H : Type) (enc : TypeId × Value → H) :
    ReturnsInHanded {} Try.checked os 3 .any (Rows.patternSplitsSpec.pre6 enc Try.prog Try.f3 Rows.patternSplitsRow.domain false) (Rows.patternSplitsSpec.post enc Try.prog Try.f3 false true false false) := by
  refine returnsInHanded_of_change (C := Try.checked) Try.own started (by kernel_rfl) Try.func3
    (ChangeSpec.witness6 (enc := enc) (C := Try.checked) false ⟨#[], #[.int .u8 0, .int .u8 0, .int .u8 0], []⟩ 8 (by kernel_rfl) (by kernel_rfl) (by kernel_rfl) (by kernel_rfl)) ?_
  intro W base args ds gs before hval0 hW hcnd _
  have hval : ∀ (j : Nat) t v, Try.f3.params[j]? = some t → args[j]? = some v → Value.okWide Try.prog W .any base t v := hval0
  have hW' := hW
  obtain ⟨p, q, hA0, hV, rfl, hfz, hnd⟩ := hW
  have hA : DataW.TrodAll enc Try.prog W 0 (fun _ => true) true Try.f3.params.toList args.toList ds p := hA0
  rw [Try.params3] at hA hval
  obtain ⟨v0, vs0, d0, ds0, p0, q0, hargs, rfl, rfl, h0, r0⟩ := trodAll_cons hA
  obtain ⟨v1, vs1, d1, ds1, p1, q1, rfl, rfl, rfl, h1, r1⟩ := trodAll_cons r0
  obtain ⟨v2, vs2, d2, ds2, p2, q2, rfl, rfl, rfl, h2, r2⟩ := trodAll_cons r1
  obtain ⟨rfl, rfl, rfl⟩ := trodAll_nil r2
  obtain rfl : args = #[v0, v1, v2] := by cases args; simp_all
  obtain ⟨rfl, rfl⟩ := trodVars_none hV
  clear hA0
  simp only [List.append_nil] at hW'
  have hlt := hW'.lt
  obtain ⟨x0, qq0, g0, s0⟩ := arg_open o_uint8 (plain_int Try.underlying5 (hval 0 5 v0 rfl rfl)) h0
  obtain ⟨x1, qq1, g1, s1⟩ := arg_open o_uint8 (plain_int Try.underlying5 (hval 1 5 v1 rfl rfl)) h1
  obtain ⟨x2, qq2, g2, s2⟩ := arg_open o_uint8 (plain_int Try.underlying5 (hval 2 5 v2 rfl rfl)) h2
  refine (Pure.call (m_law12_PatternSplits_ok x0 x1 x2 true (patternSplits_true x0 x1 x2 qq0 qq1 qq2)) (vs := [v0, v1, v2]) ⟨g0.1, g1.1, g2.1, trivial⟩).mono fun e W' ⟨he, hb⟩ => ?_
  subst he
  exact ⟨_, rfl, post_of_below (pa := p0 ++ (p1 ++ (p2 ++ []))) (pv := []) hW' (fun _ _ _ => trodAll_cons_mk (shut_bool Try.underlying4 true) trodAll_mk0)
    (fun sp hsp => trodAll_cons_mk (trod_after (by kernel_rfl) (of_decide_eq_true (by kernel_rfl)) h0 hb (fun x hx => hlt x (by simp [hx])) (fun x hx => by simp [hx]) sp hsp) (trodAll_cons_mk (trod_after (by kernel_rfl) (of_decide_eq_true (by kernel_rfl)) h1 hb (fun x hx => hlt x (by simp [hx])) (fun x hx => by simp [hx]) sp hsp) (trodAll_cons_mk (trod_after (by kernel_rfl) (of_decide_eq_true (by kernel_rfl)) h2 hb (fun x hx => hlt x (by simp [hx])) (fun x hx => by simp [hx]) sp hsp) (trodAll_mk0))))
    (fun _ _ => rfl) (by simp) hb (ok_one (by kernel_rfl) rfl (okWide_bool_mk Try.underlying4 true))⟩

theorem patternSplits_holds : Rows.PatternSplitsSaid :=
  OpenClaim.holds_of_wide 3 Try.f3 rfl rfl rfl rfl rfl rfl rfl ⟨rfl, rfl, rfl, rfl, rfl⟩ rfl rfl rfl rfl rfl (by kernel_rfl) Try.func3 (by kernel_rfl)
    (of_decide_eq_true (by kernel_rfl)) (by unfold Func.isWrapper; first | (rw [if_pos (by decide +kernel)]; kernel_rfl) | (rw [if_neg (by decide +kernel)]; exact ⟨rfl, rfl⟩))
    (fun os started H enc _ => patternSplits_lifted os started H enc)

end Go.Proofs.Ytpfdeahcjlfijaa
