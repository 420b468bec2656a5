/- The plain laws of FrontierSets and FrontierAlgebra. -/
import Derived.Test.YtkplmgdmkfgjhaaDl
namespace Go.Proofs.Ytkplmgdmkfgjhaa
attribute [local irreducible] FU

theorem frontierSets_true (a0 : List Int) (a1 a2 : List (Int × Int)) : m_law36_FrontierSets a0 a1 a2 = some true := by
  have hFU := FU_ge
  unfold m_law36_FrontierSets m_gen2_New
  simp only [bnd1_mk, jn_eq]
  have fin : (if 60 < (List.length a1 : Int) then (some true) else (if 60 < (List.length a2 : Int) then (some true) else (bnd1 (m_law36_combines a1 a2) (fun y266 => if y266 then (bnd1 (m_law36_sane) (fun y267 => some y267)) else (some false))))) = some true := by
    by_cases h : 60 < (List.length a1 : Int)
    · rw [if_pos h]
    · rw [if_neg h]
      by_cases h' : 60 < (List.length a2 : Int)
      · rw [if_pos h']
      · rw [if_neg h', combines_true _ _ (by omega) (by omega), bnd1_mk, if_pos rfl, sane_true, bnd1_mk]
  rw [fin]
  have loop : ∀ (m i n : Nat) (p : Int), i + m = 5 → m < n → 0 ≤ p → p ≤ i * 1000 → m_law36_FrontierSets_L2 (fun _ => some true) n a0 p i = some true := by
    intro m
    induction m with
    | zero =>
      intro i n p hi hn h0 h1
      obtain ⟨n, rfl⟩ : ∃ k, n = k + 1 := ⟨n - 1, by omega⟩
      obtain rfl : i = 5 := by omega
      simp [m_law36_FrontierSets_L2, m_law36_FrontierSets_B2]
    | succ m ih =>
      intro i n p hi hn h0 h1
      obtain ⟨n, rfl⟩ : ∃ k, n = k + 1 := ⟨n - 1, by omega⟩
      rw [m_law36_FrontierSets_L2, m_law36_FrontierSets_B2, if_pos (by omega)]
      obtain ⟨x, p1, a1, a2, a3, a4, _⟩ := run_spec a0 p 9 h0 (by omega) (by omega) (by omega)
      obtain ⟨y, p2, b1, b2, b3, b4, _⟩ := run_spec a0 p1 9 (by omega) (by omega) (by omega) (by omega)
      obtain ⟨z, p3, c1, c2, c3, c4, _⟩ := pairs_spec a0 p2 8 (by omega) (by omega) (by omega) (by omega)
      obtain ⟨u, p4, d1, d2, d3, d4, _⟩ := pairs_spec a0 p3 6 (by omega) (by omega) (by omega) (by omega)
      simp only [jn_eq, a1, b1, c1, d1, bnd1_mk, combines_true x y (by omega) (by omega), combines_true z y (by omega) (by omega), combines_true x u (by omega) (by omega), Bool.not_true, Bool.false_eq_true, if_false]
      rw [need_pos (by simp; omega), combines_true _ y (by simp; omega) (by omega), bnd1_mk]
      simp only [Bool.not_true, Bool.false_eq_true, if_false]
      rw [i64_succ (by omega)]
      exact ih (i + 1) n p4 (by omega) (by omega) (by omega) (by omega)
  exact loop 5 0 FU 0 (by omega) (by omega) (by omega) (by omega)
theorem mergeL_run {a b : List (Int × Int)} (ha : Run a) (hb : Run b) (la : a.length ≤ 10000000) (lb : b.length ≤ 10000000) : Run (mergeL a b) ∧ ∀ x, x ∈ mergeL a b ↔ x ∈ a ∨ x ∈ b := by
  unfold mergeL
  rw [if_pos ⟨run_ok ha (by omega), run_ok hb (by omega)⟩]
  obtain ⟨u1, u2⟩ := sortP_sl (a ++ b)
  refine ⟨(run_iff _).2 ⟨fun p hp => ?_, u1⟩, fun x => by rw [u2, List.mem_append]⟩
  rcases List.mem_append.1 ((u2 p).1 hp) with h | h
  · exact ((run_iff a).1 ha).1 p h
  · exact ((run_iff b).1 hb).1 p h
theorem subL_run {a b : List (Int × Int)} (ha : Run a) (hb : Run b) (la : a.length ≤ 10000000) (lb : b.length ≤ 10000000) : Run (subL a b) ∧ ∀ x, x ∈ subL a b ↔ x ∈ a ∧ ¬ x ∈ b := by
  unfold subL
  rw [if_pos ⟨run_ok ha (by omega), run_ok hb (by omega)⟩]
  obtain ⟨h1, h2⟩ := (run_iff a).1 ha
  refine ⟨(run_iff _).2 ⟨fun p hp => h1 p (List.mem_filter.1 hp).1, h2.filter _⟩, fun x => by simp⟩
theorem nodup_run {a : List (Int × Int)} (ha : Run a) : a.Nodup := ((run_iff a).1 ha).2.imp (fun {x y} h e => by subst e; exact LtP.irrefl h)
theorem frontierAlgebra_true (a0 : List Int) : m_law36_FrontierAlgebra a0 = some true := by
  have hFU := FU_ge
  unfold m_law36_FrontierAlgebra m_gen2_New
  obtain ⟨a, p1, a1, a2, a3, a4, ra⟩ := run_spec a0 0 10 (by omega) (by omega) (by omega) (by omega)
  obtain ⟨b, p2, b1, b2, b3, b4, rb⟩ := run_spec a0 p1 10 (by omega) (by omega) (by omega) (by omega)
  obtain ⟨rm, hm⟩ := mergeL_run ra rb (by omega) (by omega)
  obtain ⟨rm', hm'⟩ := mergeL_run rb ra (by omega) (by omega)
  obtain ⟨rs, hs⟩ := subL_run ra rb (by omega) (by omega)
  have lm := mergeL_len a b
  have lm' := mergeL_len b a
  have ls := subL_len a b
  have lms := mergeL_len (subL a b) b
  have e1 : mergeL b a = mergeL a b := sl_ext ((run_iff _).1 rm').2 ((run_iff _).1 rm).2 (fun x => by rw [hm, hm', or_comm])
  obtain ⟨rms, hms⟩ := subL_run rm rb (by omega) (by omega)
  have e2 : subL (mergeL a b) b = subL a b := sl_ext ((run_iff _).1 rms).2 ((run_iff _).1 rs).2 (fun x => by rw [hms, hm, hs]; by_cases h : x ∈ b <;> simp [h])
  obtain ⟨rsm, hsm⟩ := mergeL_run rs rb (by omega) (by omega)
  have e3 : mergeL (subL a b) b = mergeL a b := sl_ext ((run_iff _).1 rsm).2 ((run_iff _).1 rm).2 (fun x => by rw [hsm, hs, hm]; by_cases h : x ∈ b <;> simp [h])
  have e4 : sortedL (([] ++ b) ++ a) = mergeL a b := by
    rw [List.nil_append, ← e1]
    unfold sortedL mergeL
    rw [if_pos, if_pos ⟨run_ok rb (by omega), run_ok ra (by omega)⟩]
    rw [allOk_iff]
    intro p hp
    rcases List.mem_append.1 hp with h | h
    · exact ((run_iff b).1 rb).1 p h
    · exact ((run_iff a).1 ra).1 p h
  have e5 : (mergeL a b).length = (subL a b).length + b.length := by
    have hnd : (subL a b ++ b).Nodup := List.nodup_append.2 ⟨nodup_run rs, nodup_run rb, fun x hx y hy e => by subst e; exact ((hs x).1 hx).2 hy⟩
    have hp : (mergeL a b).Perm (subL a b ++ b) := (List.perm_ext_iff_of_nodup (nodup_run rm) hnd).2 (fun x => by rw [hm, List.mem_append, hs]; by_cases h : x ∈ b <;> simp [h])
    rw [hp.length_eq, List.length_append]
  have e6 : subL a a = [] := by
    obtain ⟨_, h⟩ := subL_run ra ra (by omega) (by omega)
    exact List.eq_nil_iff_forall_not_mem.2 (fun x hx => ((h x).1 hx).2 ((h x).1 hx).1)
  simp only [jn_eq, a1, b1, bnd1_mk, fMerge a b (by omega) (by omega), fMerge b a (by omega) (by omega), fSub a b (by omega) (by omega), e1, same_refl _ (show (mergeL a b).length ≤ 1099511627776 by omega), if_true, fSub (mergeL a b) b (by omega) (by omega), e2, same_refl _ (show (subL a b).length ≤ 1099511627776 by omega), fMerge (subL a b) b (by omega) (by omega), e3]
  rw [need_pos (by simp; omega), need_pos (by simp; omega), fSorted _ (by simp; omega), bnd1_mk, e4, same_refl _ (by omega), bnd1_mk, if_pos rfl, if_pos, fSub a a (by omega) (by omega), bnd1_mk, e6]
  · simp [sane_true, bnd1_mk]
  · rw [e5, i64_id (by omega)]; omega
end Go.Proofs.Ytkplmgdmkfgjhaa
