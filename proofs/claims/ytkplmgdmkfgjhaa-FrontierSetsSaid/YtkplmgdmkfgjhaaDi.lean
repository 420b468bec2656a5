/- The tape's draws. -/
import Derived.Test.YtkplmgdmkfgjhaaDg
import Derived.Test.YtkplmgdmkfgjhaaDh
namespace Go.Proofs.Ytkplmgdmkfgjhaa
attribute [local irreducible] FU

theorem tmod_range (x n : Int) (h : 1 ≤ n) : -n < Int.tmod x n ∧ Int.tmod x n < n := by
  have h1 := Int.natAbs_tmod x n
  have h2 : x.natAbs % n.natAbs < n.natAbs := Nat.mod_lt _ (by omega)
  omega
/-- A tape is the list it reads and the place it stands at. -/
theorem next_spec (xs : List Int) (p n : Int) (h0 : 0 ≤ p) (h1 : p < 4611686018427387904) (hn : n ≤ 4611686018427387904) :
    ∃ v, m_gen2_Tape_Next (xs, p) n = some (v, (xs, p + 1)) ∧ 0 ≤ v ∧ (1 ≤ n → v < n) ∧ (n < 1 → v = 0) := by
  unfold m_gen2_Tape_Next
  simp only [jn_eq, i64_id (show -9223372036854775808 ≤ p + 1 ∧ p + 1 ≤ 9223372036854775807 by omega)]
  have main : ∀ x : Int, ∃ v, (if n < 1 then some ((0 : Int), (xs, p + 1)) else need (n ≠ 0) (if Int.tmod x n < 0 then some (i64 (Int.tmod x n + n), (xs, p + 1)) else some (Int.tmod x n, (xs, p + 1)))) = some (v, (xs, p + 1)) ∧ 0 ≤ v ∧ (1 ≤ n → v < n) ∧ (n < 1 → v = 0) := by
    intro x
    by_cases hn1 : n < 1
    · rw [if_pos hn1]; exact ⟨0, rfl, by omega, by omega, by omega⟩
    · rw [if_neg hn1, need_pos (by omega)]
      have := tmod_range x n (by omega)
      by_cases hx : Int.tmod x n < 0
      · rw [if_pos hx, i64_id (by omega)]; exact ⟨_, rfl, by omega, by omega, by omega⟩
      · rw [if_neg hx]; exact ⟨_, rfl, by omega, by omega, by omega⟩
  by_cases hp : p < (List.length xs : Int)
  · rw [if_pos hp, need_pos (by omega)]; exact main _
  · rw [if_neg hp]; exact main _

theorem pairs_loop (xs : List Int) (K : List Int → Int → List (Int × Int) → Option (List (Int × Int) × (List Int × Int))) : ∀ (m n : Nat) (p : Int) (ps : List (Int × Int)), m < n → m ≤ 1000000 → 0 ≤ p → p + 4 * m < 4611686018427387904 → ps.length + m ≤ 100000000 → (∀ q ∈ ps, OkP q) →
    ∃ l p', m_law36_pairs_L2 K n xs p ps m = K xs p' l ∧ l.length = ps.length + m ∧ p ≤ p' ∧ p' ≤ p + 4 * m ∧ (∀ q ∈ l, OkP q) := by
  intro m
  induction m with
  | zero =>
    intro n p ps h hm h0 h1 h2 h3
    obtain ⟨n, rfl⟩ : ∃ k, n = k + 1 := ⟨n - 1, by omega⟩
    exact ⟨ps, p, by simp [m_law36_pairs_L2, m_law36_pairs_B2], by omega, by omega, by omega, h3⟩
  | succ m ih =>
    intro n p ps h hm h0 h1 h2 h3
    obtain ⟨n, rfl⟩ : ∃ k, n = k + 1 := ⟨n - 1, by omega⟩
    obtain ⟨v1, a1, b1, c1, _⟩ := next_spec xs p 4 (by omega) (by omega) (by omega)
    obtain ⟨v2, a2, b2, c2, _⟩ := next_spec xs (p + 1) 2 (by omega) (by omega) (by omega)
    obtain ⟨v3, a3, b3, c3, _⟩ := next_spec xs (p + 1 + 1) 6 (by omega) (by omega) (by omega)
    obtain ⟨v4, a4, b4, c4, _⟩ := next_spec xs (p + 1 + 1 + 1) 3 (by omega) (by omega) (by omega)
    have c1 := c1 (by omega)
    have c2 := c2 (by omega)
    have c3 := c3 (by omega)
    have c4 := c4 (by omega)
    rw [m_law36_pairs_L2, m_law36_pairs_B2, if_pos (by omega)]
    simp only [a1, a2, a3, a4, bnd1_mk]
    have e1 : i64 (200 * v2) = 200 * v2 := i64_id (by omega)
    have e2 : i64 (1 + 200 * v2) = 1 + 200 * v2 := i64_id (by omega)
    have e3 : i64 (90 * v4) = 90 * v4 := i64_id (by omega)
    have e4 : i64 (1 + 90 * v4) = 1 + 90 * v4 := i64_id (by omega)
    have m1 : 0 ≤ v1 * (1 + 200 * v2) ∧ v1 * (1 + 200 * v2) ≤ 603 := by
      have : v2 = 0 ∨ v2 = 1 := by omega
      rcases this with rfl | rfl <;> omega
    have m2 : 0 ≤ v3 * (1 + 90 * v4) ∧ v3 * (1 + 90 * v4) ≤ 905 := by
      have : v4 = 0 ∨ v4 = 1 ∨ v4 = 2 := by omega
      rcases this with rfl | rfl | rfl <;> omega
    have e5 : i64 (v1 * (1 + 200 * v2)) = v1 * (1 + 200 * v2) := i64_id (by omega)
    have e6 : i64 (v3 * (1 + 90 * v4)) = v3 * (1 + 90 * v4) := i64_id (by omega)
    have e7 : i64 (((m + 1 : Nat) : Int) - 1) = (m : Int) := by rw [i64_id (by omega)]; omega
    simp only [e1, e2, e3, e4, e5, e6, e7]
    rw [need_pos (by simp; omega)]
    obtain ⟨l, p', d1, d2, d3, d4, d5⟩ := ih n (p + 1 + 1 + 1 + 1) (ps ++ [(v1 * (1 + 200 * v2), v3 * (1 + 90 * v4))]) (by omega) (by omega) (by omega) (by omega) (by simp; omega)
      (fun q hq => by
        rcases List.mem_append.1 hq with hq | hq
        · exact h3 q hq
        · simp at hq; subst hq; exact ⟨m1.1, by simp only []; omega, m2.1, by simp only []; omega⟩)
    exact ⟨l, p', d1, by rw [d2]; simp; omega, by omega, by omega, d5⟩

theorem pairs_spec (xs : List Int) (p n : Int) (h0 : 0 ≤ p) (h1 : p < 1000000000000) (hn0 : 0 ≤ n) (hn : n ≤ 100000) :
    ∃ l p', m_law36_pairs (xs, p) n = some (l, (xs, p')) ∧ (l.length : Int) ≤ n ∧ p ≤ p' ∧ p' ≤ p + 4 * n + 1 ∧ (∀ q ∈ l, OkP q) := by
  have := FU_ge
  obtain ⟨v, a, b, c, _⟩ := next_spec xs p (n + 1) h0 (by omega) (by omega)
  have c := c (by omega)
  unfold m_law36_pairs
  rw [jn_eq, i64_id (by omega)]
  simp only [a, bnd1_mk]
  obtain ⟨l, p', d1, d2, d3, d4, d5⟩ := pairs_loop xs (fun (x0_0_j1 : List Int) (x0_1_j1 : Int) (x5_j1 : List (Int × Int)) => some (x5_j1, (x0_0_j1, x0_1_j1))) v.toNat FU (p + 1) [] (by omega) (by omega) (by omega) (by omega) (by simp; omega) (fun q hq => by cases hq)
  rw [show ((v.toNat : Nat) : Int) = v by omega] at d1
  exact ⟨l, p', d1, by rw [d2]; simp; omega, by omega, by omega, d5⟩

theorem run_spec (xs : List Int) (p n : Int) (h0 : 0 ≤ p) (h1 : p < 1000000000000) (hn0 : 0 ≤ n) (hn : n ≤ 100000) :
    ∃ l p', m_law36_run (xs, p) n = some (l, (xs, p')) ∧ (l.length : Int) ≤ n ∧ p ≤ p' ∧ p' ≤ p + 4 * n + 1 ∧ Run l := by
  obtain ⟨l, p', a1, a2, a3, a4, a5⟩ := pairs_spec xs p n h0 h1 hn0 hn
  obtain ⟨s, s1, s2, s3, _⟩ := sorted_spec l (by omega)
  obtain ⟨t1, t2⟩ := s3 a5
  refine ⟨s, p', ?_, by omega, a3, a4, (run_iff s).2 ⟨fun q hq => a5 q ((t2 q).1 hq), t1⟩⟩
  unfold m_law36_run
  simp only [a1, bnd1_mk, s1]

theorem run_ok {l : List (Int × Int)} (h : Run l) (hl : l.length ≤ 1099511627776) : m_ref35_IsRun l = some true := by
  obtain ⟨b, _, r2, r3⟩ := run_agree l hl
  rw [r2, r3.2 h]

theorem enc_ok {l : List (Int × Int)} (h : Run l) (h1 : 1 ≤ l.length) (h2 : l.length ≤ 1024) : ∃ r, m_ref35_EncodeBlock l = some (r, 0) ∧ m_frontier_encode l = some r ∧ r.length ≤ 30000 ∧ 4 ≤ r.length := by
  obtain ⟨b, _, b2, b3, _⟩ := block_agree l (by omega)
  obtain ⟨r, r1, r2, r3, r4⟩ := b3 (b2.2 ⟨h, h1, h2⟩)
  exact ⟨r, r4, r1, r2, r3⟩

theorem bytes_spec (xs : List Int) (p : Int) (d : List UInt8) (h0 : 0 ≤ p) (h1 : p < 1000000000000) (hd : d.length ≤ 1000000000) :
    ∃ o p', m_gen2_Tape_Bytes (xs, p) d = some (o, (xs, p')) ∧ o.length ≤ d.length + 1 ∧ p ≤ p' ∧ p' ≤ p + 3 := by
  unfold m_gen2_Tape_Bytes
  rw [need_pos (by simp; omega), List.nil_append]
  by_cases hz : (List.length d : Int) = 0
  · rw [if_pos hz]
    obtain ⟨v, a, _⟩ := next_spec xs p 256 h0 (by omega) (by omega)
    simp only [a, bnd1_mk]
    exact ⟨_, _, rfl, by simp, by omega, by omega⟩
  · rw [if_neg hz]
    obtain ⟨v, a, b1, b2, _⟩ := next_spec xs p (List.length d : Int) h0 (by omega) (by omega)
    have b2 := b2 (by omega)
    obtain ⟨w, c, c1, c2, _⟩ := next_spec xs (p + 1) 4 (by omega) (by omega) (by omega)
    simp only [a, c, bnd1_mk, jn_eq]
    have n1 : (0 : Int) ≤ v ∧ v < (List.length d : Int) := by omega
    have n2 : (0 : Int) ≤ v ∧ v ≤ (List.length d : Int) := by omega
    by_cases hw0 : w = 0
    · obtain ⟨u, f, _⟩ := next_spec xs (p + 1 + 1) 255 (by omega) (by omega) (by omega)
      simp only [if_pos hw0, need_pos n1, f, bnd1_mk]
      exact ⟨_, _, rfl, by simp, by omega, by omega⟩
    · by_cases hw1 : w = 1
      · simp only [if_neg hw0, if_pos hw1, need_pos n2]
        exact ⟨_, _, rfl, by simp; omega, by omega, by omega⟩
      · by_cases hw2 : w = 2
        · obtain ⟨u, f, _⟩ := next_spec xs (p + 1 + 1) 256 (by omega) (by omega) (by omega)
          simp only [if_neg hw0, if_neg hw1, if_pos hw2, f, bnd1_mk]
          rw [need_pos (by simp; omega)]
          exact ⟨_, _, rfl, by simp, by omega, by omega⟩
        · have e : i64 (v + 1) = v + 1 := i64_id (by omega)
          simp only [if_neg hw0, if_neg hw1, if_neg hw2, e]
          rw [need_pos (by omega), need_pos (by omega), need_pos (by omega)]
          exact ⟨_, _, rfl, by simp; omega, by omega, by omega⟩

theorem uv_small (ys : List UInt8) (x : Int) (h : x < 128) (hl : ys.length ≤ 1000000000) : m_codec_AppendUvarint ys x = some (ys ++ [u8i x]) := by
  obtain ⟨N, hN⟩ := FU_k 1 (by omega)
  unfold m_codec_AppendUvarint
  rw [jn_eq, hN, m_codec_AppendUvarint_L2, m_codec_AppendUvarint_B2, if_neg (by omega), need_pos (by simp; omega)]

theorem sane_true : m_law36_sane = some true := by
  obtain ⟨N, hN⟩ := FU_k 4 (by omega)
  have hr : Run [(0, 5), (0, 7), (2, 1)] := (run_iff _).2 ⟨by decide, by simp [LtP]⟩
  obtain ⟨b, b1, b2, _⟩ := block_agree [(0, 5), (0, 7), (2, 1)] (by simp)
  have hb := b2.2 ⟨hr, by simp, by simp⟩
  subst hb
  obtain ⟨c, c1, c2, c3⟩ := sum_agree [3, 0, 5, 0, 1, 2, 1] (by simp)
  have henc : m_frontier_encode [(0, 5), (0, 7), (2, 1)] = some ([3, 0, 5, 0, 1, 2, 1] ++ sum4 c) := by
    have g0 : gi [((0 : Int), (5 : Int)), (0, 7), (2, 1)] 0 = (0, 5) := rfl
    have g1 : gi [((0 : Int), (5 : Int)), (0, 7), (2, 1)] 1 = (0, 7) := rfl
    have g2 : gi [((0 : Int), (5 : Int)), (0, 7), (2, 1)] 2 = (2, 1) := rfl
    have w0 : i64 0 = 0 := rfl
    have w1 : i64 1 = 1 := rfl
    have w2 : i64 2 = 2 := rfl
    have w3 : i64 3 = 3 := rfl
    have u0 : u8i 0 = 0 := rfl
    have u1 : u8i 1 = 1 := rfl
    have u2 : u8i 2 = 2 := rfl
    have u3 : u8i 3 = 3 := rfl
    have u5 : u8i 5 = 5 := rfl
    unfold m_frontier_encode
    rw [uv_small [] _ (by simp) (by simp), bnd1_mk, jn_eq, hN]
    simp [m_frontier_encode_L2, m_frontier_encode_B2, jn_eq, need, g0, g1, g2, w0, w1, w2, w3, u0, u1, u2, u3, u5, uv_small, bnd1_mk]
    rw [c2, bnd1_mk]
    rfl
  unfold m_law36_sane m_frontier_EncodeBlock
  simp only [b1, bnd1_mk, henc, jn_eq, Bool.not_true, Bool.false_eq_true, if_false]
  rw [if_pos trivial, if_pos (by simp [sum4]), need_pos (by simp [sum4])]
  simp

theorem frontierDecode_true (a0 : List Int) (a1 : List UInt8) (a2 : Int) : m_law36_FrontierDecode a0 a1 a2 = some true := by
  have hFU := FU_ge
  unfold m_law36_FrontierDecode m_gen2_New
  rw [bnd1_mk, jn_eq]
  have fin : (jn (fun (x6_j443 : Bool) => some x6_j443) (fun k443 => if 300 < (List.length a1 : Int) then (k443 true) else (bnd1 (m_law36_decodes a1 a2) (fun y448 => if y448 then (bnd1 (m_ref23_Sealed a1) (fun y449 => bnd1 (m_law36_decodes y449 0) (fun y450 => if y450 then (bnd1 (m_law36_sane) (fun y451 => k443 y451)) else (k443 false)))) else (k443 false))))) = some true := by
    rw [jn_eq]
    by_cases h : 300 < (List.length a1 : Int)
    · rw [if_pos h]
    · rw [if_neg h, decodes_true a1 (by omega), bnd1_mk, if_pos rfl]
      obtain ⟨c, _, _, c3⟩ := sum_agree a1 (by omega)
      rw [c3, bnd1_mk, decodes_true _ (by simp [sum4]; omega), bnd1_mk, if_pos rfl, sane_true, bnd1_mk]
  rw [fin]
  have loop : ∀ (m i n : Nat) (p : Int), i + m = 5 → m < n → 0 ≤ p → p ≤ i * 100 → m_law36_FrontierDecode_L2 a2 (fun _ => some true) n a0 p i = some true := by
    intro m
    induction m with
    | zero =>
      intro i n p hi hn h0 h1
      obtain ⟨n, rfl⟩ : ∃ k, n = k + 1 := ⟨n - 1, by omega⟩
      obtain rfl : i = 5 := by omega
      simp [m_law36_FrontierDecode_L2, m_law36_FrontierDecode_B2]
    | succ m ih =>
      intro i n p hi hn h0 h1
      obtain ⟨n, rfl⟩ : ∃ k, n = k + 1 := ⟨n - 1, by omega⟩
      have e5 : i64 ((i : Int) + 1) = ((i + 1 : Nat) : Int) := by rw [i64_id (by omega)]; omega
      rw [m_law36_FrontierDecode_L2, m_law36_FrontierDecode_B2, if_pos (by omega)]
      obtain ⟨l, p1, a1, a2', a3, a4, a5⟩ := run_spec a0 p 6 h0 (by omega) (by omega) (by omega)
      have hr1 : m_ref35_IsRun [(0, 0)] = some true := run_ok ((run_iff _).2 ⟨by decide, by simp⟩) (by simp)
      have hs := sub_spec l [(0, 0)] (by omega) (by simp)
      rw [if_pos ⟨run_ok a5 (by omega), hr1⟩] at hs
      have hfl : (l.filter (fun x => !decide (x ∈ [((0 : Int), (0 : Int))]))).length ≤ l.length := List.length_filter_le _ _
      have hrun : Run ([(0, 0)] ++ l.filter (fun x => !decide (x ∈ [((0 : Int), (0 : Int))]))) := by
        obtain ⟨ok, sl⟩ := (run_iff l).1 a5
        refine (run_iff _).2 ⟨fun q hq => ?_, ?_⟩
        · rcases List.mem_append.1 hq with hq | hq
          · simp at hq; subst hq; decide
          · exact ok q (List.mem_filter.1 hq).1
        · rw [SL, List.singleton_append, List.pairwise_cons]
          refine ⟨fun q hq => ?_, List.Pairwise.filter _ sl⟩
          obtain ⟨h1, h2⟩ := List.mem_filter.1 hq
          obtain ⟨o1, o2, o3, o4⟩ := ok q h1
          obtain ⟨q1, q2⟩ := q
          simp at h2
          unfold LtP
          simp only [] at *
          omega
      have hrl : ([(0, 0)] ++ l.filter (fun x => !decide (x ∈ [((0 : Int), (0 : Int))]))).length ≤ 1024 := by rw [List.length_append]; simp only [List.length_singleton]; omega
      obtain ⟨r, r1, _, r3, r4⟩ := enc_ok hrun (by simp) hrl
      obtain ⟨v, b1, b2, b3, _⟩ := next_spec a0 p1 300 (by omega) (by omega) (by omega)
      have b3 := b3 (by omega)
      have hrun2 : Run [(1, v), (900, 2)] := by
        refine (run_iff _).2 ⟨fun q hq => ?_, by simp [LtP]⟩
        simp at hq
        rcases hq with rfl | rfl
        · exact ⟨by simp only []; omega, by simp only []; omega, b2, by simp only []; omega⟩
        · decide
      obtain ⟨s, s1, _, s3, s4⟩ := enc_ok hrun2 (by simp) (by simp)
      simp only [a1, hs, bnd1_mk, b1, s1]
      rw [need_pos (by rw [List.length_singleton]; omega), r1, bnd1_mk]
      simp only []
      have e6 : i64 ((List.length r : Int) - 4) = (List.length r : Int) - 4 := i64_id (by omega)
      rw [need_pos (by simp; omega), need_pos (by simp; omega)]
      simp only [e6]
      rw [need_pos (by omega)]
      obtain ⟨o, p2, c1, c2, c3, c4⟩ := bytes_spec a0 (p1 + 1) (List.take (Int.toNat ((List.length r : Int) - 4)) r) (by omega) (by omega) (by simp; omega)
      have c2' : o.length ≤ 30001 := by simp at c2; omega
      rw [c1, bnd1_mk]
      simp only [jn_eq, List.nil_append]
      have hrs : (r ++ s).length ≤ 60000 := by rw [List.length_append]; omega
      obtain ⟨w, d1, d2, _⟩ := next_spec a0 p2 (List.length (r ++ s) : Int) (by omega) (by omega) (by omega)
      obtain ⟨o2, p3, f1, f2, f3, f4⟩ := bytes_spec a0 (p2 + 1) (r ++ s) (by omega) (by omega) (by omega)
      obtain ⟨c, _, _, g3⟩ := sum_agree o (by omega)
      simp only [decodes_true (r ++ s) (by omega), bnd1_mk, Bool.not_true, Bool.false_eq_true, if_false, d1, f1, decodes_true o2 (by omega), g3]
      rw [decodes_true (o ++ sum4 c) (by rw [List.length_append]; simp only [sum4, List.length_cons, List.length_nil]; omega), bnd1_mk]
      simp only [Bool.not_true, Bool.false_eq_true, if_false, e5]
      exact ih (i + 1) n p3 (by omega) (by omega) (by omega) (by omega)
  exact loop 5 0 FU 0 (by omega) (by omega) (by omega) (by omega)
end Go.Proofs.Ytkplmgdmkfgjhaa
