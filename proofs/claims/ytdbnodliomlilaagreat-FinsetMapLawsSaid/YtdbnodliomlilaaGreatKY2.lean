/- Making values: program and reference agree. -/
import Derived.Test.YtdbnodliomlilaaGreatKY1
import Derived.Test.YtdbnodliomlilaaGreatKY0
namespace Go.Proofs.YtdbnodliomlilaaGreat
attribute [local irreducible] FU

/-- The bytes of a compound value. -/
def raw (c : UInt8) (l : List (List UInt8)) : List UInt8 := c :: u8i ((l.length / 256 : Nat) : Int) :: u8i ((l.length : Nat) : Int) :: l.flatten
theorem raw_len (c : UInt8) (l : List (List UInt8)) : (raw c l).length = l.flatten.length + 3 := rfl
theorem raw_count {l : List (List UInt8)} (h : l.length ≤ 65535) : l.length = (u8i ((l.length / 256 : Nat) : Int)).toNat * 256 + (u8i ((l.length : Nat) : Int)).toNat := by
  rw [u8i_nat, u8i_nat]; omega
noncomputable def cmpd (c : UInt8) (l : List (List UInt8)) : List UInt8 := by
  classical exact if l.length ≤ 65535 ∧ (∀ x ∈ l, Vd x) ∧ Vd (raw c l) then raw c l else []
theorem cmpd_yes {c : UInt8} {l : List (List UInt8)} (h : l.length ≤ 65535 ∧ (∀ x ∈ l, Vd x) ∧ Vd (raw c l)) : cmpd c l = raw c l := by unfold cmpd; rw [if_pos h]
theorem cmpd_no {c : UInt8} {l : List (List UInt8)} (h : ¬ (l.length ≤ 65535 ∧ (∀ x ∈ l, Vd x) ∧ Vd (raw c l))) : cmpd c l = [] := by unfold cmpd; rw [if_neg h]
theorem prt_raw {c : UInt8} {l : List (List UInt8)} (hc : 3 ≤ c.toNat ∧ c.toNat ≤ 9) (hl : l.length ≤ 65535) (hv : ∀ x ∈ l, Vd x) : prt (raw c l) = l := prt_comp hc (raw_count hl) (fun x h => (hv x h).1.sh) (by omega)
theorem indexFunc_eq (f : List UInt8 → Option Bool) (p : List UInt8 → Bool) (hf : ∀ x, f x = some (p x)) (l : List (List UInt8)) (hl : l.length ≤ 1099511627776) : m_slices_ContainsFunc_L_api_Value_api_Value l f = some (l.any p) := by
  have hFU := FU_ge
  unfold m_slices_ContainsFunc_L_api_Value_api_Value m_slices_IndexFunc_L_api_Value_api_Value
  rw [jn_eq]
  have loop : ∀ (m i n : Nat), i + m = l.length → m < n → ∃ r, m_slices_IndexFunc_L_api_Value_api_Value_L2 l f (fun _ => some (-1)) n i = some r ∧ decide (0 ≤ r) = (l.drop i).any p := by
    intro m
    induction m with
    | zero =>
      intro i n hi hn
      obtain ⟨n, rfl⟩ : ∃ k, n = k + 1 := ⟨n - 1, by omega⟩
      refine ⟨-1, by rw [m_slices_IndexFunc_L_api_Value_api_Value_L2, m_slices_IndexFunc_L_api_Value_api_Value_B2, if_neg (by omega)], ?_⟩
      rw [List.drop_eq_nil_of_le (by omega)]; rfl
    | succ m ih =>
      intro i n hi hn
      obtain ⟨n, rfl⟩ : ∃ k, n = k + 1 := ⟨n - 1, by omega⟩
      have hil : i < l.length := by omega
      rw [m_slices_IndexFunc_L_api_Value_api_Value_L2, m_slices_IndexFunc_L_api_Value_api_Value_B2, if_pos (by omega), need_pos (by omega), gi_nat hil, hf, bnd1_mk, List.drop_eq_getElem_cons hil, List.any_cons]
      cases hp : p l[i] with
      | true => exact ⟨i, rfl, by simp⟩
      | false =>
        rw [if_neg (by simp), i64_succ (by omega)]
        obtain ⟨r, h1, h2⟩ := ih (i + 1) n (by omega) (by omega)
        exact ⟨r, h1, by rw [h2]; simp⟩
  obtain ⟨r, h1, h2⟩ := loop l.length 0 FU (by omega) (by omega)
  rw [Int.natCast_zero] at h1
  rw [h1, bnd1_mk, h2, List.drop_zero]
theorem vChecked (b : List UInt8) : m_value_checked b = some (if vldB b = true then b else []) := by
  unfold m_value_checked
  rw [vValid, bnd1_mk]
  cases vldB b <;> rfl
theorem rChecked (b : List UInt8) : m_ref9_checked b = some (if vldB b = true then b else []) := by
  unfold m_ref9_checked
  rw [rValid, bnd1_mk]
  cases vldB b <;> rfl
theorem vCompound (c : UInt8) (l : List (List UInt8)) (hx : ∀ x ∈ l, x.length ≤ 1099511627776) : m_value_compound (c.toNat : Int) l = some (cmpd c l) := by
  have hFU := FU_ge
  unfold m_value_compound
  by_cases hl : (65535 : Int) < l.length
  · rw [if_pos hl, cmpd_no (fun h => by have := h.1; omega)]
  · rw [if_neg hl, u8i_toNat]
    have e16 : IntKind.u16.wrap (l.length : Int) = (l.length : Int) := by
      unfold IntKind.wrap IntKind.bits IntKind.signed
      simp; omega
    have e8 : Int.fdiv (l.length : Int) (2 ^ min (Int.toNat 8) IntKind.u16.bits) = ((l.length / 256 : Nat) : Int) := by
      rw [show (2 : Int) ^ min (Int.toNat 8) IntKind.u16.bits = 256 from rfl, Int.fdiv_eq_ediv_of_nonneg _ (by omega)]; omega
    unfold m_value_append16
    rw [e16, e8, need_pos (by simp), bnd1_mk, jn_eq]
    have loop : ∀ (K : List UInt8 → Option (List UInt8)) (m i n : Nat) (b : List UInt8), i + m = l.length → m < n → b.length ≤ 131072 →
        ((∀ x ∈ l.drop i, x ≠ []) ∧ b.length + (l.drop i).flatten.length ≤ 131072 ∧ m_value_compound_L2 l K n b i = K (b ++ (l.drop i).flatten)) ∨ (¬ ((∀ x ∈ l.drop i, x ≠ []) ∧ b.length + (l.drop i).flatten.length ≤ 131072) ∧ m_value_compound_L2 l K n b i = some []) := by
      intro K m
      induction m with
      | zero =>
        intro i n b hi hn hb
        obtain ⟨n, rfl⟩ : ∃ k, n = k + 1 := ⟨n - 1, by omega⟩
        rw [List.drop_eq_nil_of_le (by omega)]
        refine .inl ⟨by simp, by simpa using hb, ?_⟩
        rw [m_value_compound_L2, m_value_compound_B2, if_neg (by omega)]; simp
      | succ m ih =>
        intro i n b hi hn hb
        obtain ⟨n, rfl⟩ : ∃ k, n = k + 1 := ⟨n - 1, by omega⟩
        have hil : i < l.length := by omega
        have hxi := hx _ (List.getElem_mem hil)
        rw [m_value_compound_L2, m_value_compound_B2, if_pos (by omega), need_pos (by omega)]
        simp only [jn_eq]
        rw [gi_nat hil, List.drop_eq_getElem_cons hil]
        by_cases he : l[i] = []
        · rw [if_pos he, if_pos trivial]
          exact .inr ⟨fun h => h.1 _ List.mem_cons_self he, rfl⟩
        · have e1 : i64 ((b.length : Int) + (l[i].length : Int)) = ((b.length + l[i].length : Nat) : Int) := by rw [i64_id (by omega)]; omega
          rw [if_neg he, e1]
          by_cases hs : (131072 : Int) < ((b.length + l[i].length : Nat) : Int)
          · rw [if_pos (decide_eq_true hs)]
            exact .inr ⟨fun h => by have := h.2; simp only [List.flatten_cons, List.length_append] at this; omega, rfl⟩
          · rw [if_neg (fun h => hs (of_decide_eq_true h)), need_pos (by omega), i64_succ (by omega)]
            have hlb : (b ++ l[i]).length = b.length + l[i].length := List.length_append
            rcases ih (i + 1) n (b ++ l[i]) (by omega) (by omega) (by omega) with ⟨h1, h2, h3⟩ | ⟨h1, h2⟩
            · refine .inl ⟨fun x h => ?_, ?_, ?_⟩
              · rcases List.mem_cons.1 h with rfl | h
                · exact he
                · exact h1 x h
              · rw [hlb] at h2; simp only [List.flatten_cons, List.length_append]; omega
              · rw [h3, List.append_assoc, List.flatten_cons]
            · refine .inr ⟨fun h => h1 ⟨fun x hx' => h.1 x (List.mem_cons_of_mem _ hx'), ?_⟩, h2⟩
              have := h.2
              simp only [List.flatten_cons, List.length_append] at this
              rw [hlb]; omega
    have hraw : [c] ++ [u8i ((l.length / 256 : Nat) : Int), u8i ((l.length : Nat) : Int)] ++ l.flatten = raw c l := rfl
    rcases loop _ l.length 0 FU ([c] ++ [u8i ((l.length / 256 : Nat) : Int), u8i ((l.length : Nat) : Int)]) (by omega) (by omega) (by simp) with ⟨h1, h2, h3⟩ | ⟨h1, h2⟩
    · rw [Int.natCast_zero, List.drop_zero, hraw] at h3
      rw [List.drop_zero] at h1 h2
      rw [h3, indexFunc_eq m_value_compound_1 (fun x => !vldB x) (fun x => by unfold m_value_compound_1; rw [vValid, bnd1_mk]) l (by omega), bnd1_mk]
      cases hall : l.any (fun x => !vldB x) with
      | true =>
        rw [if_neg (by simp), cmpd_no]
        intro h
        obtain ⟨x, hx, hv⟩ := List.any_eq_true.1 hall
        rw [vldB_iff.2 (h.2.1 x hx)] at hv; cases hv
      | false =>
        have hv : ∀ x ∈ l, Vd x := fun x hx => by
          have := List.any_eq_false.1 hall x hx
          simp at this; exact vldB_iff.1 this
        rw [if_pos (show (!false) = true from rfl), vChecked, bnd1_mk]
        by_cases hr : Vd (raw c l)
        · rw [if_pos (vldB_iff.2 hr), cmpd_yes ⟨by omega, hv, hr⟩]
        · rw [if_neg (fun h => hr (vldB_iff.1 h)), cmpd_no (fun h => hr h.2.2)]
    · rw [Int.natCast_zero] at h2
      rw [h2, cmpd_no]
      intro h
      rw [List.drop_zero] at h1
      refine h1 ⟨fun x hx => (h.2.1 x hx).ne, ?_⟩
      have := h.2.2.2
      rw [raw_len] at this
      simp; simp at this; omega
theorem rCompound (c : UInt8) (hc : 3 ≤ c.toNat ∧ c.toNat ≤ 9) (l : List (List UInt8)) (hv : ∀ x ∈ l, Vd x) : m_ref9_compound (c.toNat : Int) l = some (cmpd c l) := by
  have hFU := FU_ge
  unfold m_ref9_compound
  by_cases hl : (65535 : Int) < l.length
  · rw [if_pos hl, cmpd_no (fun h => by have := h.1; omega)]
  · rw [if_neg hl, u8i_toNat]
    have e8 : Int.fdiv (l.length : Int) (2 ^ min (Int.toNat 8) IntKind.i64.bits) = ((l.length / 256 : Nat) : Int) := by
      rw [show (2 : Int) ^ min (Int.toNat 8) IntKind.i64.bits = 256 from rfl, Int.fdiv_eq_ediv_of_nonneg _ (by omega)]; omega
    unfold m_ref9_two
    rw [e8, bnd1_mk, need_pos (by simp), jn_eq]
    have hraw : [c] ++ [u8i ((l.length / 256 : Nat) : Int), u8i ((l.length : Nat) : Int)] ++ l.flatten = raw c l := rfl
    -- what is done with the bytes
    have hK : ∀ s : List UInt8, s.length ≤ 1000000 → (131072 < s.length ∨ s = raw c l) → bnd1 (m_ref9_read s 32) (fun y122 => jn (fun (x59_j123 : Bool) => if x59_j123 then (some ([] : List UInt8)) else (bnd1 (m_ref9_checked s) (fun y124 => some y124))) (fun k123 => if ¬ y122.1 = (List.length s : Int) then (k123 true) else (k123 (decide (¬ (List.length y122.2.1 : Int) = (List.length l : Int)))))) = some (if 131072 < s.length then [] else cmpd c l) := by
      intro s hs hcase
      unfold m_ref9_read m_ref9_walk
      have h := rWalk 32 (Nat.le_refl _) FU (by omega) s (by omega)
      rw [show ((32 : Nat) : Int) = 32 from rfl] at h
      simp only [jn_eq, rChecked, bnd1_mk]
      by_cases hlong : 131072 < s.length
      · rw [if_pos hlong]
        have hno : vldB s = false := vldB_no (fun h => by have := h.2; omega)
        rcases h with ⟨w, r, d, e, hv', h⟩ | ⟨_, h⟩
        · rw [h, bnd1_mk, bnd1_mk, hno]
          simp only []
          split
          · rfl
          · split <;> rfl
        · rw [h, bnd1_mk, bnd1_mk, hno]
          simp only []
          split
          · rfl
          · split <;> rfl
      · have hs' : s = raw c l := hcase.resolve_left hlong
        rw [if_neg hlong]
        rcases h with ⟨w, r, d, e, hv', h⟩ | ⟨hno, h⟩
        · rw [h, bnd1_mk, bnd1_mk]
          simp only []
          by_cases hr : r = []
          · subst hr
            rw [List.append_nil] at e
            subst e
            have hvr : Vd (raw c l) := by rw [← hs']; exact ⟨hv', by omega⟩
            rw [if_neg (fun h => h rfl), hs', prt_raw hc (by omega) hv, if_neg (by simp), if_pos (vldB_iff.2 hvr), cmpd_yes ⟨by omega, hv, hvr⟩]
          · have hlr : 0 < r.length := List.length_pos_iff.2 hr
            rw [if_pos (by rw [e]; simp; omega), if_pos trivial, cmpd_no]
            intro hh
            have := (hv'.sh.uniq hh.2.2.1.sh r [] (by rw [List.append_nil, ← e, hs'])).2
            exact hr this
        · rw [h, bnd1_mk, bnd1_mk]
          simp only []
          have h3 : 3 ≤ s.length := by rw [hs', raw_len]; omega
          rw [if_pos (by omega), if_pos trivial, cmpd_no (fun hh => hno s [] (by simp) (by rw [hs']; exact hh.2.2.1))]
    have loop : ∀ (K : List UInt8 → Option (List UInt8)) (m i n : Nat) (b : List UInt8), i + m = l.length → m < n → b.length ≤ 262144 →
        (∃ s, s.length ≤ 262144 ∧ (131072 < s.length ∨ s = b ++ (l.drop i).flatten) ∧ (b.length ≤ s.length) ∧ (131072 < s.length → 131072 < (b ++ (l.drop i).flatten).length) ∧ m_ref9_compound_L2 l K n b i = K s) ∨ (131072 < (b ++ (l.drop i).flatten).length ∧ m_ref9_compound_L2 l K n b i = some []) := by
      intro K m
      induction m with
      | zero =>
        intro i n b hi hn hb
        obtain ⟨n, rfl⟩ : ∃ k, n = k + 1 := ⟨n - 1, by omega⟩
        rw [List.drop_eq_nil_of_le (by omega)]
        refine .inl ⟨b, hb, .inr (by simp), Nat.le_refl _, fun h => by simpa using h, ?_⟩
        rw [m_ref9_compound_L2, m_ref9_compound_B2, if_neg (by omega)]
      | succ m ih =>
        intro i n b hi hn hb
        obtain ⟨n, rfl⟩ : ∃ k, n = k + 1 := ⟨n - 1, by omega⟩
        have hil : i < l.length := by omega
        have hvi := hv _ (List.getElem_mem hil)
        rw [m_ref9_compound_L2, m_ref9_compound_B2, if_pos (by omega)]
        simp only [jn_eq]
        rw [need_pos (by omega), gi_nat hil, List.drop_eq_getElem_cons hil, if_neg hvi.ne]
        by_cases hs : (131072 : Int) < (b.length : Int)
        · rw [if_pos (decide_eq_true hs)]
          exact .inr ⟨by simp; omega, rfl⟩
        · have hvl := hvi.2
          rw [if_neg (fun h => hs (of_decide_eq_true h)), need_pos (by omega), need_pos (by omega), i64_succ (by omega)]
          have hlb : (b ++ l[i]).length = b.length + l[i].length := List.length_append
          have hap : (b ++ l[i]) ++ (l.drop (i + 1)).flatten = b ++ (l[i] :: l.drop (i + 1)).flatten := by simp only [List.flatten_cons, List.append_assoc]
          rcases ih (i + 1) n (b ++ l[i]) (by omega) (by omega) (by omega) with ⟨s, h1, h2, h3, h4, h5⟩ | ⟨h1, h2⟩
          · rw [hap] at h2 h4
            exact .inl ⟨s, h1, h2, by omega, h4, h5⟩
          · rw [hap] at h1
            exact .inr ⟨h1, h2⟩
    rcases loop _ l.length 0 FU ([c] ++ [u8i ((l.length / 256 : Nat) : Int), u8i ((l.length : Nat) : Int)]) (by omega) (by omega) (by simp) with ⟨s, h1, h2, _, h4, h5⟩ | ⟨h1, h2⟩
    · rw [Int.natCast_zero] at h5
      rw [List.drop_zero, hraw] at h2 h4
      rw [h5, hK s (by omega) h2]
      split
      · rename_i hlong
        have := h4 hlong
        rw [cmpd_no (fun h => by have := h.2.2.2; omega)]
      · rfl
    · rw [Int.natCast_zero] at h2
      rw [List.drop_zero, hraw] at h1
      rw [h2, cmpd_no (fun h => by have := h.2.2.2; omega)]
theorem rAll (l : List (List UInt8)) (hl : l.length ≤ 1099511627776) : m_ref9_all l = some (l.all vldB) := by
  unfold m_ref9_all
  rw [jn_eq]
  have h := loop_all l (by omega) (fun n (_ : Unit) i => m_ref9_all_L2 l (fun _ => some true) n i) (fun s x k => if !vldB x then some false else k s) (fun _ => some true) (fun n s i hi => by
      show m_ref9_all_L2 l _ (n + 1) i = _
      rw [m_ref9_all_L2, m_ref9_all_B2]
      simp (disch := omega) only [if_pos, need_pos, gi_nat, rValid, bnd1_mk, i64_succ]) (fun n s => by
      show m_ref9_all_L2 l _ (n + 1) _ = _
      rw [m_ref9_all_L2, m_ref9_all_B2, if_neg (by omega)]) ()
  refine h.trans ?_
  rw [foldK_any]
  cases h : l.all vldB with
  | true => rw [if_neg]; simp at h ⊢; exact h
  | false => rw [if_pos]; simp at h ⊢; exact h
theorem rMake (c : UInt8) (hc : 3 ≤ c.toNat ∧ c.toNat ≤ 9) (l : List (List UInt8)) (hl : l.length ≤ 1099511627776) : m_ref9_Make (c.toNat : Int) l = some (cmpd c l) := by
  unfold m_ref9_Make
  rw [rAll l hl, bnd1_mk]
  cases h : l.all vldB with
  | true =>
    simp at h
    rw [if_neg (by simp), rCompound c hc l (fun x hx => vldB_iff.1 (h x hx)), bnd1_mk]
  | false =>
    rw [if_pos (show (!false) = true from rfl), cmpd_no]
    intro hh
    simp at h
    obtain ⟨x, hx, hv⟩ := h
    rw [vldB_iff.2 (hh.2.1 x hx)] at hv; cases hv
noncomputable def setW (l : List (List UInt8)) : List UInt8 := cmpd 5 (sortW l)
theorem vSet (l : List (List UInt8)) (hl : l.length ≤ 10000000) (hx : ∀ x ∈ l, x.length ≤ 1099511627776) : m_value_Set l = some (setW l) := by
  unfold m_value_Set setW
  have := vCompound 5 (sortW l) (fun x h => hx x ((sortW_spec l).2.1 x |>.1 h))
  rw [show ((5 : UInt8).toNat : Int) = 5 from rfl] at this
  rw [vSort l (by omega), bnd1_mk, this, bnd1_mk]
theorem rSet (l : List (List UInt8)) (hl : l.length ≤ 10000000) : m_ref9_Set l = some (setW l) := by
  unfold m_ref9_Set setW
  rw [rAll l (by omega), bnd1_mk]
  have hmem := (sortW_spec l).2.1
  cases h : l.all vldB with
  | true =>
    simp at h
    have := rCompound 5 (by decide) (sortW l) (fun x hx => vldB_iff.1 (h x ((hmem x).1 hx)))
    rw [show ((5 : UInt8).toNat : Int) = 5 from rfl] at this
    rw [if_neg (by simp), rSort l hl, bnd1_mk, this, bnd1_mk]
  | false =>
    rw [if_pos (show (!false) = true from rfl), cmpd_no]
    intro hh
    simp at h
    obtain ⟨x, hx, hv⟩ := h
    rw [vldB_iff.2 (hh.2.1 x ((hmem x).2 hx))] at hv; cases hv
end Go.Proofs.YtdbnodliomlilaaGreat
/- Sets of values: elements, merging, bounded results. -/
namespace Go.Proofs.YtdbnodliomlilaaGreat
attribute [local irreducible] FU

theorem cmpC_val {a b : List UInt8} (ha : Vd a) (hb : Vd b) : cmpC a b = cmpW a b := by unfold cmpC; rw [if_pos ⟨vldB_iff.2 ha, vldB_iff.2 hb⟩]
theorem ascB_SLC : ∀ {ps : List (List UInt8)}, (∀ p ∈ ps, Vd p) → ascB ps = true → SLC ps
  | [], _, _ => List.Pairwise.nil
  | [x], _, _ => by simp [SLC]
  | x :: y :: t, hv, h => by
    simp only [ascB, Bool.and_eq_true, decide_eq_true_eq] at h
    have ih := ascB_SLC (ps := y :: t) (fun p hp => hv p (List.mem_cons_of_mem _ hp)) h.2
    have hxy : cmpC x y < 0 := by rw [cmpC_val (hv x (by simp)) (hv y (by simp))]; exact h.1
    refine List.pairwise_cons.2 ⟨fun z hz => ?_, ih⟩
    rcases List.mem_cons.1 hz with rfl | hz
    · exact hxy
    · exact cmpC_trans hxy ((List.pairwise_cons.1 ih).1 z hz)
theorem flat_mem {ps : List (List UInt8)} {p : List UInt8} (h : p ∈ ps) : p.length ≤ ps.flatten.length := by
  obtain ⟨a, b, rfl⟩ := List.append_of_mem h
  simp; omega
theorem flatV_len {ps : List (List UInt8)} (h : ∀ p ∈ ps, p ≠ []) : ps.length ≤ ps.flatten.length := by
  induction ps with
  | nil => simp
  | cons p ps ih =>
    have := ih (fun q hq => h q (List.mem_cons_of_mem _ hq))
    have := List.length_pos_iff.2 (h p (by simp))
    simp only [List.flatten_cons, List.length_append, List.length_cons]; omega
/-- What the parts of a value are like. -/
theorem prtW_spec (v : List UInt8) : (∀ x ∈ prtW v, Vd x) ∧ (prtW v).length ≤ 65535 ∧ (prtW v).flatten.length ≤ v.length ∧ (prtW v).flatten.length ≤ 131072 ∧ (3 ≤ kindW v → kindW v ≤ 9 → formedB (gi v 0) (prtW v) = true ∧ v = raw (gi v 0) (prtW v)) := by
  unfold prtW kindW
  cases h0 : vldB v with
  | false => simp
  | true =>
    obtain ⟨hv, hl⟩ := vldB_iff.1 h0
    simp only [if_true]
    cases hv with
    | int k b h => simp [prt, gi_0]
    | bool k b h => simp [prt, gi_0]
    | name k h l => simp [prt, gi_0]
    | comp k c h l ps hc hn hp hf =>
      rw [prt_comp hc hn (fun p hp' => (hp p hp').sh) (by omega), gi_0]
      simp only [List.length_cons] at hl ⊢
      have hh := UInt8.toNat_lt h
      have hh' := UInt8.toNat_lt l
      refine ⟨fun x hx => ⟨(hp x hx).mono, by have := flat_mem hx; omega⟩, by omega, by omega, by omega, fun _ _ => ⟨hf, ?_⟩⟩
      have e1 : u8i ((ps.length / 256 : Nat) : Int) = h := u8_inj (by rw [u8i_nat]; omega)
      have e2 : u8i ((ps.length : Nat) : Int) = l := u8_inj (by rw [u8i_nat]; omega)
      unfold raw
      rw [e1, e2]
noncomputable def isSet (v : List UInt8) : Bool := decide (kindW v = 5)
theorem kind_gi {v : List UInt8} {c : UInt8} (h : kindW v = (c.toNat : Int)) (hc : c ≠ 0) : gi v 0 = c := by
  unfold kindW at h
  split at h
  · exact u8_inj (by omega)
  · exact absurd (u8_inj (a := c) (b := 0) (by rw [show ((0 : UInt8).toNat) = 0 from rfl]; omega)) hc
theorem prtW_SLC {v : List UInt8} (h : isSet v = true) : SLC (prtW v) := by
  have hk : kindW v = 5 := of_decide_eq_true h
  obtain ⟨h1, _, _, _, h3⟩ := prtW_spec v
  have h0 : gi v 0 = 5 := kind_gi (by rw [hk]; rfl) (by decide)
  have := (h3 (by omega) (by omega)).1
  rw [h0] at this
  exact ascB_SLC h1 (by simpa [formedB] using this)
theorem prtW_len (v : List UInt8) : (prtW v).length ≤ v.length :=
  Nat.le_trans (flatV_len (fun p hp => ((prtW_spec v).1 p hp).ne)) (prtW_spec v).2.2.1

/-- All have it, else R. -/
theorem foldK_all {α β ρ : Type} (p : α → Bool) (g : α → β) (R : Option ρ) (K : List β → Option ρ) : ∀ (l : List α) (r : List β), r.length + l.length ≤ 137438953472 →
    foldK (fun r x k => if p x then need (List.length r + 1 ≤ 137438953472) (k (r ++ [g x])) else R) K l r = if l.all p then K (r ++ l.map g) else R
  | [], r, _ => by simp [foldK]
  | x :: xs, r, h => by
    simp only [List.length_cons] at h
    rw [foldK]
    cases hp : p x with
    | true => simp only [if_true]; rw [need_pos (by omega), foldK_all p g R K xs _ (by simp; omega)]; simp [hp]
    | false => simp [hp]
theorem vElements (l : List (List UInt8)) (hl : l.length ≤ 137438953472) : m_finset_elements l = some (if l.all isSet then (l.map prtW, 0) else ([], 6)) := by
  unfold m_finset_elements
  rw [jn_eq]
  have h := loop_all l (by omega) (fun n (s : List (List (List UInt8))) i => m_finset_elements_L2 l (fun x => some (x, 0)) n s i) (fun r x k => if isSet x then need (List.length r + 1 ≤ 137438953472) (k (r ++ [prtW x])) else some ([], 6)) (fun x => some (x, 0)) (fun n s i hi => by
      show m_finset_elements_L2 l _ (n + 1) _ _ = _
      rw [m_finset_elements_L2, m_finset_elements_B2, if_pos (by omega), need_pos (by omega), gi_nat hi, vKind, bnd1_mk]
      by_cases hk : kindW l[i] = 5
      · rw [if_neg (fun h => h hk), vPartsW, bnd1_mk, if_pos (show isSet l[i] = true from decide_eq_true hk), i64_succ (by omega)]; rfl
      · rw [if_pos hk, if_neg (show ¬ isSet l[i] = true from fun h => hk (of_decide_eq_true h))]) (fun n s => by
      show m_finset_elements_L2 l _ (n + 1) _ _ = _
      rw [m_finset_elements_L2, m_finset_elements_B2, if_neg (by omega)]) []
  refine h.trans ?_
  rw [foldK_all _ _ _ _ _ _ (by simp; omega)]
  split <;> simp
/-! ### Results -/
theorem sortW_id {l : List (List UInt8)} (h : SLC l) : sortW l = l := slc_ext (sortW_spec l).1 h (sortW_spec l).2.1
theorem sortW_congr {l l' : List (List UInt8)} (h : ∀ x, x ∈ l ↔ x ∈ l') : sortW l = sortW l' :=
  slc_ext (sortW_spec l).1 (sortW_spec l').1 (fun x => by rw [(sortW_spec l).2.1, (sortW_spec l').2.1, h])
noncomputable def bndW (l : List (List UInt8)) : List UInt8 × Int := if 4096 < (sortW l).length ∨ setW l = [] then ([], 9) else (setW l, 0)
theorem setW_congr {l l' : List (List UInt8)} (h : ∀ x, x ∈ l ↔ x ∈ l') : setW l = setW l' := by unfold setW; rw [sortW_congr h]
theorem bndW_congr {l l' : List (List UInt8)} (h : ∀ x, x ∈ l ↔ x ∈ l') : bndW l = bndW l' := by unfold bndW; rw [sortW_congr h, setW_congr h]
theorem vSized (n : Nat) (v : List UInt8) : m_finset_sized n v = some (if 4096 < n ∨ v = [] then ([], 9) else (v, 0)) := by
  unfold m_finset_sized
  simp only [jn_eq]
  by_cases h : 4096 < n
  · rw [if_pos (by omega), if_pos trivial, if_pos (.inl h)]
  · rw [if_neg (by omega)]
    by_cases h' : v = []
    · rw [if_pos (decide_eq_true h'), if_pos (.inr h')]
    · rw [if_neg (fun h => h' (of_decide_eq_true h)), if_neg (by simp [h, h'])]
theorem vSetF (l : List (List UInt8)) (hl : l.length ≤ 10000000) (hx : ∀ x ∈ l, x.length ≤ 1099511627776) (h : SLC l ∨ l.length ≤ 4096) : m_finset_set l = some (bndW l) := by
  unfold m_finset_set bndW
  have hs := (sortW_spec l).2.2
  by_cases hc : 4096 < l.length
  · have : sortW l = l := sortW_id (h.resolve_right (by omega))
    rw [if_pos (by omega), if_pos (.inl (by rw [this]; exact hc))]
  · rw [if_neg (by omega), vSet l hl hx, bnd1_mk, vSized, bnd1_mk]
    have h1 : ¬ 4096 < (sortW l).length := by omega
    by_cases h' : setW l = []
    · rw [if_pos (.inr h'), if_pos (.inr h')]
    · rw [if_neg (by simp [hc, h']), if_neg (by simp [h1, h'])]

/-! ### Merging -/
def MS (F : Bool → Bool → Bool) (A B r : List (List UInt8)) : Prop := SLC r ∧ ∀ y, y ∈ r ↔ F (decide (y ∈ A)) (decide (y ∈ B)) = true ∧ (y ∈ A ∨ y ∈ B)
theorem MS.push {F : Bool → Bool → Bool} {x : List UInt8} {A B r : List (List UInt8)} (fa fb : Bool) (hor : (fa || fb) = true) (hxA : ∀ y ∈ A, cmpC x y < 0) (hxB : ∀ y ∈ B, cmpC x y < 0) (h : MS F A B r) :
    MS F ((if fa then [x] else []) ++ A) ((if fb then [x] else []) ++ B) ((if F fa fb then [x] else []) ++ r) := by
  obtain ⟨hr, hm⟩ := h
  have hA : x ∉ A := fun hh => by have := hxA x hh; rw [cmpC_self] at this; omega
  have hB : x ∉ B := fun hh => by have := hxB x hh; rw [cmpC_self] at this; omega
  refine ⟨?_, fun y => ?_⟩
  · split
    · refine List.pairwise_cons.2 ⟨fun y hy => ?_, hr⟩
      rcases ((hm y).1 hy).2 with h | h
      · exact hxA y h
      · exact hxB y h
    · exact hr
  · by_cases hy : y = x
    · subst hy
      have hnr : y ∉ r := fun hh => by rcases ((hm y).1 hh).2 with h | h; exact hA h; exact hB h
      cases fa <;> cases fb <;> simp_all <;> split <;> simp_all
    · have e1 : (y ∈ (if fa = true then [x] else []) ++ A) ↔ y ∈ A := by cases fa <;> simp [hy]
      have e2 : (y ∈ (if fb = true then [x] else []) ++ B) ↔ y ∈ B := by cases fb <;> simp [hy]
      have e3 : (y ∈ (if F fa fb = true then [x] else []) ++ r) ↔ y ∈ r := by cases F fa fb <;> simp [hy]
      rw [e3, hm]
      simp only [e1, e2]
theorem slc_head {l : List (List UInt8)} (h : SLC l) {i : Nat} (hi : i < l.length) : ∀ y ∈ l.drop (i + 1), cmpC l[i] y < 0 := by
  have h' : SLC (l.drop i) := List.Pairwise.sublist (List.drop_sublist i l) h
  rw [List.drop_eq_getElem_cons hi] at h'
  exact (List.pairwise_cons.1 h').1
theorem vMerge_loop (a b : List (List UInt8)) (f : Bool → Bool → Option Bool) (F : Bool → Bool → Bool) (hf : ∀ p q, f p q = some (F p q)) (ha : SLC a) (hb : SLC b) (la : a.length ≤ 10000000) (lb : b.length ≤ 10000000) :
    ∀ (m i k n : Nat) (out : List (List UInt8)), i ≤ a.length → k ≤ b.length → (a.length - i) + (b.length - k) ≤ m → m < n → out.length + m ≤ 100000000 →
    ∃ r, m_finset_merge_L2 a b f (fun x => some x) n out i k = some (out ++ r) ∧ MS F (a.drop i) (b.drop k) r := by
  intro m
  induction m with
  | zero =>
    intro i k n out hi hk hm hn ho
    obtain ⟨n, rfl⟩ : ∃ q, n = q + 1 := ⟨n - 1, by omega⟩
    refine ⟨[], ?_, ?_⟩
    · rw [m_finset_merge_L2, m_finset_merge_B2]
      simp only [jn_eq]
      rw [if_neg (by omega), if_neg (fun h => by have := of_decide_eq_true h; omega), List.append_nil]
    · rw [List.drop_eq_nil_of_le (by omega), List.drop_eq_nil_of_le (by omega)]
      exact ⟨List.Pairwise.nil, fun y => by simp⟩
  | succ m ih =>
    intro i k n out hi hk hm hn ho
    obtain ⟨n, rfl⟩ : ∃ q, n = q + 1 := ⟨n - 1, by omega⟩
    rw [m_finset_merge_L2, m_finset_merge_B2]
    simp only [jn_eq]
    by_cases hai : i < a.length
    · rw [if_pos (by omega), if_pos trivial, if_neg (by omega)]
      have da := List.drop_eq_getElem_cons hai
      have hA := slc_head ha hai
      by_cases hbk : k < b.length
      · have db := List.drop_eq_getElem_cons hbk
        have hB := slc_head hb hbk
        rw [if_neg (by omega), need_pos (by omega), need_pos (by omega), gi_nat hai, gi_nat hbk, vCompareW, bnd1_mk]
        have anti := cmpC_anti a[i] b[k]
        rcases Int.lt_trichotomy (cmpC a[i] b[k]) 0 with hc | hc | hc
        · rw [if_pos (by omega), need_pos (by omega), i64_succ (by omega), if_neg (by omega), hf, bnd1_mk, decide_eq_true (show cmpC a[i] b[k] ≤ 0 by omega), decide_eq_false (show ¬ 0 ≤ cmpC a[i] b[k] by omega)]
          have hxB : ∀ y ∈ b.drop k, cmpC a[i] y < 0 := by
            rw [db]; intro y hy
            rcases List.mem_cons.1 hy with rfl | hy
            · exact hc
            · exact cmpC_trans hc (hB y hy)
          by_cases hF : F true false = true
          · rw [if_pos hF, need_pos (by simp; omega)]
            obtain ⟨r, h1, h2⟩ := ih (i + 1) k n (out ++ [a[i]]) (by omega) hk (by omega) (by omega) (by simp; omega)
            refine ⟨a[i] :: r, by rw [h1]; simp, ?_⟩
            have := h2.push true false rfl hA hxB
            simpa [hF, ← da] using this
          · rw [if_neg hF]
            obtain ⟨r, h1, h2⟩ := ih (i + 1) k n out (by omega) hk (by omega) (by omega) (by omega)
            refine ⟨r, h1, ?_⟩
            have := h2.push true false rfl hA hxB
            simpa [hF, ← da] using this
        · have he := cmpC_eq.1 hc
          rw [if_pos (by omega), need_pos (by omega), i64_succ (by omega), if_pos (by omega), need_pos (by omega), i64_succ (by omega), hf, bnd1_mk, decide_eq_true (show cmpC a[i] b[k] ≤ 0 by omega), decide_eq_true (show 0 ≤ cmpC a[i] b[k] by omega)]
          have hxB : ∀ y ∈ b.drop (k + 1), cmpC a[i] y < 0 := by rw [he]; exact hB
          by_cases hF : F true true = true
          · rw [if_pos hF, need_pos (by simp; omega)]
            obtain ⟨r, h1, h2⟩ := ih (i + 1) (k + 1) n (out ++ [b[k]]) (by omega) (by omega) (by omega) (by omega) (by simp; omega)
            refine ⟨b[k] :: r, by rw [h1]; simp, ?_⟩
            have := h2.push true true rfl hA hxB
            rw [da, db]
            simpa [hF, ← he] using this
          · rw [if_neg hF]
            obtain ⟨r, h1, h2⟩ := ih (i + 1) (k + 1) n out (by omega) (by omega) (by omega) (by omega) (by omega)
            refine ⟨r, h1, ?_⟩
            have := h2.push true true rfl hA hxB
            rw [da, db]
            simpa [hF, ← he] using this
        · rw [if_neg (by omega), if_pos (by omega), need_pos (by omega), i64_succ (by omega), hf, bnd1_mk, decide_eq_false (show ¬ cmpC a[i] b[k] ≤ 0 by omega), decide_eq_true (show 0 ≤ cmpC a[i] b[k] by omega)]
          have hxA : ∀ y ∈ a.drop i, cmpC b[k] y < 0 := by
            rw [da]; intro y hy
            rcases List.mem_cons.1 hy with rfl | hy
            · omega
            · exact cmpC_trans (show cmpC b[k] a[i] < 0 by omega) (hA y hy)
          by_cases hF : F false true = true
          · rw [if_pos hF, need_pos (by simp; omega)]
            obtain ⟨r, h1, h2⟩ := ih i (k + 1) n (out ++ [b[k]]) hi (by omega) (by omega) (by omega) (by simp; omega)
            refine ⟨b[k] :: r, by rw [h1]; simp, ?_⟩
            have := h2.push false true rfl hxA hB
            simpa [hF, ← db] using this
          · rw [if_neg hF]
            obtain ⟨r, h1, h2⟩ := ih i (k + 1) n out hi (by omega) (by omega) (by omega) (by omega)
            refine ⟨r, h1, ?_⟩
            have := h2.push false true rfl hxA hB
            simpa [hF, ← db] using this
      · have hbn : b.drop k = [] := List.drop_eq_nil_of_le (by omega)
        rw [if_pos (by omega), if_pos (by omega), need_pos (by omega), i64_succ (by omega), if_neg (by omega), hf, bnd1_mk, gi_nat hai, decide_eq_true (show (-1 : Int) ≤ 0 by omega), decide_eq_false (show ¬ (0 : Int) ≤ -1 by omega)]
        by_cases hF : F true false = true
        · rw [if_pos hF, need_pos (by simp; omega)]
          obtain ⟨r, h1, h2⟩ := ih (i + 1) k n (out ++ [a[i]]) (by omega) hk (by omega) (by omega) (by simp; omega)
          refine ⟨a[i] :: r, by rw [h1]; simp, ?_⟩
          have := h2.push true false rfl hA (by rw [hbn]; simp)
          simpa [hF, ← da] using this
        · rw [if_neg hF]
          obtain ⟨r, h1, h2⟩ := ih (i + 1) k n out (by omega) hk (by omega) (by omega) (by omega)
          refine ⟨r, h1, ?_⟩
          have := h2.push true false rfl hA (by rw [hbn]; simp)
          simpa [hF, ← da] using this
    · by_cases hbk : k < b.length
      · have db := List.drop_eq_getElem_cons hbk
        have hB := slc_head hb hbk
        have han : a.drop i = [] := List.drop_eq_nil_of_le (by omega)
        rw [if_neg (by omega), if_pos (decide_eq_true (by omega)), if_pos (by omega), if_neg (by omega), if_pos (by omega), need_pos (by omega), i64_succ (by omega), hf, bnd1_mk, gi_nat hbk, decide_eq_false (show ¬ (1 : Int) ≤ 0 by omega), decide_eq_true (show (0 : Int) ≤ 1 by omega)]
        by_cases hF : F false true = true
        · rw [if_pos hF, need_pos (by simp; omega)]
          obtain ⟨r, h1, h2⟩ := ih i (k + 1) n (out ++ [b[k]]) hi (by omega) (by omega) (by omega) (by simp; omega)
          refine ⟨b[k] :: r, by rw [h1]; simp, ?_⟩
          have := h2.push false true rfl (by rw [han]; simp) hB
          simpa [hF, ← db] using this
        · rw [if_neg hF]
          obtain ⟨r, h1, h2⟩ := ih i (k + 1) n out hi (by omega) (by omega) (by omega) (by omega)
          refine ⟨r, h1, ?_⟩
          have := h2.push false true rfl (by rw [han]; simp) hB
          simpa [hF, ← db] using this
      · rw [if_neg (by omega), if_neg (fun h => by have := of_decide_eq_true h; omega)]
        refine ⟨[], by rw [List.append_nil], ?_⟩
        rw [List.drop_eq_nil_of_le (by omega), List.drop_eq_nil_of_le (by omega)]
        exact ⟨List.Pairwise.nil, fun y => by simp⟩
theorem vMerge (a b : List (List UInt8)) (f : Bool → Bool → Option Bool) (F : Bool → Bool → Bool) (hf : ∀ p q, f p q = some (F p q)) (ha : SLC a) (hb : SLC b) (la : a.length ≤ 10000000) (lb : b.length ≤ 10000000) :
    ∃ r, m_finset_merge a b f = some r ∧ MS F a b r := by
  have hFU := FU_ge
  unfold m_finset_merge
  rw [jn_eq]
  obtain ⟨r, h1, h2⟩ := vMerge_loop a b f F hf ha hb la lb (a.length + b.length) 0 0 FU [] (by omega) (by omega) (by omega) (by omega) (by simp; omega)
  rw [Int.natCast_zero] at h1
  exact ⟨r, by rw [h1]; rfl, by simpa using h2⟩
theorem nodup_len {α : Type} : ∀ {r l : List α}, r.Nodup → (∀ x ∈ r, x ∈ l) → r.length ≤ l.length
  | [], _, _, _ => by simp
  | x :: r, l, hn, hs => by
    obtain ⟨s, t, rfl⟩ := List.append_of_mem (hs x (by simp))
    obtain ⟨h1, h2⟩ := List.nodup_cons.1 hn
    have := nodup_len (r := r) (l := s ++ t) h2 (fun y hy => by
      have h := hs y (List.mem_cons_of_mem _ hy)
      have hne : y ≠ x := fun e => h1 (e ▸ hy)
      simpa [hne] using h)
    simp only [List.length_append, List.length_cons] at this ⊢
    omega
theorem slc_nodup {r : List (List UInt8)} (h : SLC r) : r.Nodup := h.imp (fun {a b} hab he => by subst he; rw [cmpC_self] at hab; omega)
theorem MS.len {F : Bool → Bool → Bool} {A B r : List (List UInt8)} (h : MS F A B r) : r.length ≤ A.length + B.length := by
  have := nodup_len (l := A ++ B) (slc_nodup h.1) (fun x hx => by rcases ((h.2 x).1 hx).2 with h | h <;> simp [h])
  simpa using this
end Go.Proofs.YtdbnodliomlilaaGreat
/- Operations on sets: program and reference agree. -/
namespace Go.Proofs.YtdbnodliomlilaaGreat
attribute [local irreducible] FU

end Go.Proofs.YtdbnodliomlilaaGreat
/- Operations on sets of sets and maps: program and reference agree. -/
namespace Go.Proofs.YtdbnodliomlilaaGreat
attribute [local irreducible] FU

theorem setW_len (l : List (List UInt8)) : (setW l).length ≤ 131072 := by
  unfold setW cmpd
  split
  · rename_i h; exact h.2.2.2
  · simp
theorem sub_flat : ∀ l : List (List UInt8), ((l.map prtW).flatten).length ≤ l.flatten.length
  | [] => by simp
  | x :: l => by
    have := sub_flat l
    have := prtW_len x
    simp only [List.map_cons, List.flatten_cons, List.length_append]
    omega
theorem vSetsF (a : List UInt8) : m_finset_sets a = some (if isSet a = true ∧ (prtW a).all isSet = true then ((prtW a).map prtW, 0) else ([], 6)) := by
  unfold m_finset_sets
  have hl := (prtW_spec a).2.1
  rw [vElements _ (by simp), bnd1_mk]
  by_cases h : isSet a = true
  · rw [if_pos (show [a].all isSet = true by simp [h]), if_neg (fun h => h rfl), need_pos (by simp), show gi (([a].map prtW, (0 : Int)) : List (List (List UInt8)) × Int).1 0 = prtW a from rfl, vElements _ (by omega), bnd1_mk]
    by_cases h2 : (prtW a).all isSet = true
    · rw [if_pos h2, if_pos ⟨h, h2⟩]
    · rw [if_neg h2, if_neg (fun hh => h2 hh.2)]
  · rw [if_neg (show ¬ [a].all isSet = true by simpa using h), if_pos (by decide), if_neg (fun hh => h hh.1)]
theorem foldK_and {ρ : Type} (K : List (List UInt8) → Option ρ) : ∀ (L : List (List (List UInt8))) (out : List (List UInt8)), SLC out → (∀ x ∈ L, SLC x) → out.length ≤ 100000 → (∀ x ∈ L, x.length ≤ 100000) →
    ∃ r, foldK (fun s x k => bnd1 (m_finset_merge s x m_finset_common) k) K L out = K r ∧ SLC r ∧ (∀ y, y ∈ r ↔ y ∈ out ∧ ∀ x ∈ L, y ∈ x) ∧ r.length ≤ 100000
  | [], out, ho, _, hl, _ => ⟨out, rfl, ho, fun y => by simp, by omega⟩
  | x :: L, out, ho, hL, hl, hl' => by
    have hx := hl' x (by simp)
    obtain ⟨r, h1, h2⟩ := vMerge out x m_finset_common (fun p q => p && q) (fun p q => by unfold m_finset_common; rw [jn_eq]; cases p <;> rfl) ho (hL x (by simp)) (by omega) (by omega)
    have hm : ∀ y, y ∈ r ↔ y ∈ out ∧ y ∈ x := fun y => by rw [h2.2]; simp only [Bool.and_eq_true, decide_eq_true_eq]; exact ⟨fun h => h.1, fun h => ⟨h, .inl h.1⟩⟩
    have hlen := nodup_len (slc_nodup h2.1) (fun y hy => ((hm y).1 hy).1)
    obtain ⟨s, g1, g2, g3, g4⟩ := foldK_and K L r h2.1 (fun y hy => hL y (by simp [hy])) (by omega) (fun y hy => hl' y (by simp [hy]))
    refine ⟨s, by rw [foldK, h1, bnd1_mk, g1], g2, fun y => ?_, g4⟩
    rw [g3, hm]
    simp [and_assoc]
theorem sub_spec (a : List UInt8) : (((prtW a).map prtW).flatten).length ≤ 131072 ∧ (∀ x ∈ ((prtW a).map prtW).flatten, x.length ≤ 131072) ∧ (∀ x ∈ (prtW a).map prtW, x.length ≤ 65535) := by
  refine ⟨Nat.le_trans (sub_flat _) (prtW_spec a).2.2.2.1, fun x hx => ?_, fun x hx => ?_⟩
  · obtain ⟨l, hl, hx⟩ := List.mem_flatten.1 hx
    obtain ⟨v, hv, rfl⟩ := List.mem_map.1 hl
    exact ((prtW_spec v).1 x hx).2
  · obtain ⟨v, hv, rfl⟩ := List.mem_map.1 hx
    exact (prtW_spec v).2.1
theorem sub_slc {a : List UInt8} (h : (prtW a).all isSet = true) : ∀ x ∈ (prtW a).map prtW, SLC x := fun x hx => by
  obtain ⟨v, hv, rfl⟩ := List.mem_map.1 hx
  exact prtW_SLC (List.all_eq_true.1 h v hv)
noncomputable def biW (a : List UInt8) : List UInt8 × Int := if isSet a = true ∧ (prtW a).all isSet = true then (if prtW a = [] then ([], 12) else bndW ((prtW (gi (prtW a) 0)).filter (fun z => ((prtW a).drop 1).all (fun x => decide (z ∈ prtW x))))) else ([], 6)
theorem vBigInter (a : List UInt8) : m_finset_BigInter a = some (biW a) := by
  unfold m_finset_BigInter biW
  have hl := (prtW_spec a).2.1
  obtain ⟨s1, s2, s3⟩ := sub_spec a
  rw [vSetsF, bnd1_mk]
  by_cases h : isSet a = true ∧ (prtW a).all isSet = true
  · rw [if_pos h, if_pos h]
    generalize hy : (((prtW a).map prtW, 0) : List (List (List UInt8)) × Int) = y1
    have hg : y1.1 = (prtW a).map prtW := by rw [← hy]
    have hg0 : y1.2 = 0 := by rw [← hy]
    have hgl : y1.1.length = (prtW a).length := by rw [hg]; simp
    rw [if_neg (fun h => h hg0)]
    by_cases he : prtW a = []
    · rw [if_pos (by rw [hgl, he]; rfl), if_pos he]
    · have hpos : 0 < (prtW a).length := List.length_pos_iff.2 he
      rw [if_neg (by omega), if_neg he, need_pos (by omega), jn_eq, need_pos (by omega)]
      have hdl : (List.drop (Int.toNat 1) y1.1).length ≤ 65535 := by simp; omega
      have hh := loop_all (List.drop (Int.toNat 1) y1.1) (by omega) (fun n s i => m_finset_BigInter_L2 y1 (fun x => bnd1 (m_finset_set x) (fun y16 => some (y16.1, y16.2))) n s i) (fun s x k => bnd1 (m_finset_merge s x m_finset_common) k) (fun x => bnd1 (m_finset_set x) (fun y16 => some (y16.1, y16.2))) (fun n s i hi => by
          show m_finset_BigInter_L2 y1 _ (n + 1) _ _ = _
          rw [m_finset_BigInter_L2, m_finset_BigInter_B2, if_pos (by omega), need_pos (by omega), gi_nat hi, i64_succ (by omega)]) (fun n s => by
          show m_finset_BigInter_L2 y1 _ (n + 1) _ _ = _
          rw [m_finset_BigInter_L2, m_finset_BigInter_B2, if_neg (by omega)]) (gi y1.1 0)
      refine hh.trans ?_
      have hd : List.drop (Int.toNat 1) y1.1 = ((prtW a).drop 1).map prtW := by rw [hg, show Int.toNat 1 = 1 from rfl, List.map_drop]
      have h0 : gi y1.1 0 = prtW (gi (prtW a) 0) := by
        rw [hg]
        match prtW a, he with
        | x :: t, _ => rfl
      have hm0 : gi (prtW a) 0 ∈ prtW a := by
        match prtW a, he with
        | x :: t, _ => exact List.mem_cons_self
      rw [hd, h0]
      have hsl := sub_slc h.2
      obtain ⟨r, h1, h2, h3, h4⟩ := foldK_and (fun x => bnd1 (m_finset_set x) (fun y16 => some (y16.1, y16.2))) (((prtW a).drop 1).map prtW) (prtW (gi (prtW a) 0)) (hsl _ (List.mem_map_of_mem hm0)) (fun x hx => hsl x (by rw [List.map_drop] at hx; exact List.mem_of_mem_drop hx)) (by have := (prtW_spec (gi (prtW a) 0)).2.1; omega) (fun x hx => by have := s3 x (by rw [List.map_drop] at hx; exact List.mem_of_mem_drop hx); omega)
      rw [h1, vSetF r (by omega) (fun x hx => by
        have := ((prtW_spec (gi (prtW a) 0)).1 x ((h3 x).1 hx).1).2; omega) (.inl h2), bnd1_mk, bndW_congr (l := r) (l' := (prtW (gi (prtW a) 0)).filter (fun z => ((prtW a).drop 1).all (fun x => decide (z ∈ prtW x)))) (fun x => by rw [h3]; simp only [List.mem_filter, List.all_eq_true, decide_eq_true_eq, List.forall_mem_map])]
  · rw [if_neg h, if_neg h, if_pos (by decide)]
end Go.Proofs.YtdbnodliomlilaaGreat
/- Subsets and keys: program and reference agree. -/
namespace Go.Proofs.YtdbnodliomlilaaGreat
attribute [local irreducible] FU

noncomputable def bitB (b : Int) (i : Nat) : Bool := decide (bAnd .i64 (Int.fdiv b (2 ^ min i IntKind.i64.bits)) 1 = 1)
/-- The elements whose bits are set. -/
noncomputable def pickW (b : Int) : Nat → List (List UInt8) → List (List UInt8)
  | _, [] => []
  | i, x :: xs => if bitB b i = true then x :: pickW b (i + 1) xs else pickW b (i + 1) xs
theorem pickW_len (b : Int) : ∀ (l : List (List UInt8)) (i : Nat), (pickW b i l).length ≤ l.length
  | [], _ => by simp [pickW]
  | x :: xs, i => by
    have := pickW_len b xs (i + 1)
    rw [pickW]; split <;> simp <;> omega
theorem pickW_mem (b : Int) {y : List UInt8} : ∀ (l : List (List UInt8)) (i : Nat), y ∈ pickW b i l → y ∈ l
  | [], _, h => by simp [pickW] at h
  | x :: xs, i, h => by
    rw [pickW] at h
    split at h
    · rcases List.mem_cons.1 h with rfl | h
      · simp
      · simp [pickW_mem b xs (i + 1) h]
    · simp [pickW_mem b xs (i + 1) h]
theorem pow_i64 {n : Nat} (h : n ≤ 61) : i64 (1 * 2 ^ min (Int.toNat (n : Int)) IntKind.i64.bits) = ((2 ^ n : Nat) : Int) := by
  have h1 : 2 ^ n ≤ 2 ^ 61 := Nat.pow_le_pow_right (by omega) h
  rw [Int.toNat_natCast, show IntKind.i64.bits = 64 from rfl, Nat.min_eq_left (by omega), Int.one_mul]
  have : (2 : Int) ^ n = ((2 ^ n : Nat) : Int) := by simp
  rw [this]
  generalize 2 ^ n = N at h1 ⊢
  rw [i64_id (by omega)]
theorem u64_nat {n : Nat} (h : n ≤ 4611686018427387904) : IntKind.u64.wrap (n : Int) = (n : Int) := by
  unfold IntKind.wrap IntKind.bits IntKind.signed
  simp; omega
theorem vSub_in {y1 : List (List (List UInt8)) × Int} {l : List (List UInt8)} (hg : gi y1.1 0 = l) (hl : l.length ≤ 65535) (b : Int) (K : List (List UInt8) → Option (List UInt8 × Int)) : ∀ (m i n : Nat) (out : List (List UInt8)), i + m = l.length → m < n → out.length + m ≤ 100000 →
    m_finset_Subsets_L26 y1 b K n out i = K (out ++ pickW b i (l.drop i)) := by
  intro m
  induction m with
  | zero =>
    intro i n out hi hn ho
    obtain ⟨n, rfl⟩ : ∃ q, n = q + 1 := ⟨n - 1, by omega⟩
    rw [m_finset_Subsets_L26, m_finset_Subsets_B26, hg, if_neg (by omega), List.drop_eq_nil_of_le (by omega), pickW, List.append_nil]
  | succ m ih =>
    intro i n out hi hn ho
    obtain ⟨n, rfl⟩ : ∃ q, n = q + 1 := ⟨n - 1, by omega⟩
    have hil : i < l.length := by omega
    rw [m_finset_Subsets_L26, m_finset_Subsets_B26, hg, if_pos (by omega)]
    simp only [jn_eq]
    rw [need_pos (by omega), need_pos (by omega), gi_nat hil, i64_succ (by omega), List.drop_eq_getElem_cons hil, pickW, Int.toNat_natCast]
    by_cases hb : bAnd .i64 (Int.fdiv b (2 ^ min i IntKind.i64.bits)) 1 = 1
    · rw [if_pos hb, if_pos (show bitB b i = true from decide_eq_true hb), need_pos (by simp; omega), ih (i + 1) n _ (by omega) (by omega) (by simp; omega)]; simp
    · rw [if_neg hb, if_neg (show ¬ bitB b i = true from fun h => hb (of_decide_eq_true h)), ih (i + 1) n _ (by omega) (by omega) (by omega)]
/-- The sets for the numbers from j, m of them. -/
noncomputable def subsF (l : List (List UInt8)) (j m : Nat) : List (List UInt8) := (List.range' j m).map (fun b : Nat => setW (pickW (b : Int) 0 l))
theorem vSub_out {y1 : List (List (List UInt8)) × Int} {l : List (List UInt8)} (hg : gi y1.1 0 = l) (h1 : y1.1.length = 1) (hl : l.length ≤ 12) (hx : ∀ x ∈ l, x.length ≤ 1099511627776) (K : List (List UInt8) → Option (List UInt8 × Int)) : ∀ (m j n : Nat) (out : List (List UInt8)), j + m = 2 ^ l.length → m < n → out.length + m ≤ 100000 →
    m_finset_Subsets_L14 y1 K n out j = K (out ++ subsF l j m) := by
  have hFU := FU_ge
  have h2 : 2 ^ l.length ≤ 2 ^ 12 := Nat.pow_le_pow_right (by omega) hl
  intro m
  induction m with
  | zero =>
    intro j n out hi hn ho
    obtain ⟨n, rfl⟩ : ∃ q, n = q + 1 := ⟨n - 1, by omega⟩
    rw [m_finset_Subsets_L14, m_finset_Subsets_B14, hg, pow_i64 (by omega), if_neg (by omega)]
    simp [subsF]
  | succ m ih =>
    intro j n out hi hn ho
    obtain ⟨n, rfl⟩ : ∃ q, n = q + 1 := ⟨n - 1, by omega⟩
    rw [m_finset_Subsets_L14, m_finset_Subsets_B14, hg, pow_i64 (by omega), if_pos (by omega)]
    simp only [jn_eq]
    have hin := vSub_in hg (by omega) (j : Int) (fun x9_j658 => bnd1 (m_value_Set x9_j658) (fun y712 => need (List.length out + List.length [y712] ≤ 137438953472) (m_finset_Subsets_L14 y1 K n (out ++ [y712]) (i64 ((j : Int) + 1))))) l.length 0 FU [] (by omega) (by omega) (by simp; omega)
    rw [Int.natCast_zero] at hin
    have hp := pickW_len (j : Int) l 0
    rw [need_pos (by omega), hin, List.nil_append, List.drop_zero, vSet _ (by omega) (fun x h => hx x (pickW_mem _ _ _ h)), bnd1_mk, need_pos (by simp; omega), i64_succ (by omega), ih (j + 1) n _ (by omega) (by omega) (by simp; omega)]
    simp [subsF, List.range'_succ]
noncomputable def ssW (a : List UInt8) : List UInt8 × Int := if isSet a = true then (if 12 < (prtW a).length then ([], 9) else bndW (subsF (prtW a) 0 (2 ^ (prtW a).length))) else ([], 6)
theorem vSubsets (a : List UInt8) : m_finset_Subsets a = some (ssW a) := by
  have hFU := FU_ge
  unfold m_finset_Subsets ssW
  have hl := (prtW_spec a).2.1
  rw [vElements _ (by simp), bnd1_mk]
  by_cases h : isSet a = true
  · rw [if_pos (show [a].all isSet = true by simp [h]), if_pos h, List.map_cons, List.map_nil]
    generalize hy : (([prtW a], 0) : List (List (List UInt8)) × Int) = y1
    have hg : gi y1.1 0 = prtW a := by rw [← hy]; rfl
    have hg0 : y1.2 = 0 := by rw [← hy]
    have hgl : y1.1.length = 1 := by rw [← hy]; rfl
    rw [if_neg (fun h => h hg0), need_pos (by omega), hg]
    simp only [jn_eq]
    by_cases h62 : 62 ≤ (prtW a).length
    · rw [if_pos (by omega), if_pos trivial, if_pos (by omega)]
    · rw [if_neg (by omega), need_pos (by omega), pow_i64 (by omega)]
      by_cases h12 : 12 < (prtW a).length
      · have : 2 ^ 13 ≤ 2 ^ (prtW a).length := Nat.pow_le_pow_right (by omega) h12
        rw [if_pos (decide_eq_true (by omega)), if_pos h12]
      · have h2 : 2 ^ (prtW a).length ≤ 2 ^ 12 := Nat.pow_le_pow_right (by omega) (by omega)
        have hx : ∀ x ∈ prtW a, x.length ≤ 1099511627776 := fun x hx => by have := ((prtW_spec a).1 x hx).2; omega
        have hout := vSub_out hg hgl (by omega) hx (fun x => bnd1 (m_finset_set x) (fun y715 => some (y715.1, y715.2))) (2 ^ (prtW a).length) 0 FU [] (by omega) (by omega) (by simp; omega)
        rw [Int.natCast_zero] at hout
        have hlen : (subsF (prtW a) 0 (2 ^ (prtW a).length)).length = 2 ^ (prtW a).length := by simp [subsF]
        rw [if_neg (fun h => by have := of_decide_eq_true h; omega), if_neg h12, need_pos (by omega), hout, List.nil_append, vSetF _ (by omega) (fun x hx => by
          obtain ⟨b, _, rfl⟩ := List.mem_map.1 hx
          have := setW_len (pickW (b : Int) 0 (prtW a)); omega) (.inr (by omega)), bnd1_mk]
  · rw [if_neg (show ¬ [a].all isSet = true by simpa using h), if_pos (by decide), if_neg h]
/-! ### Keys -/
def oddsW : List (List UInt8) → List (List UInt8)
  | _ :: y :: t => y :: oddsW t
  | _ => []
theorem vPairs_loop (l : List (List UInt8)) (hl : l.length ≤ 100000) (K : List (List UInt8) → List (List UInt8) → Option (List (List UInt8) × List (List UInt8) × Int)) : ∀ (m i n : Nat) (x y : List (List UInt8)), i + 2 * m = l.length → m < n → x.length + m ≤ 1000000 → y.length + m ≤ 1000000 →
    m_finset_pairs_L2 l K n x y i = K (x ++ evens (l.drop i)) (y ++ oddsW (l.drop i)) := by
  intro m
  induction m with
  | zero =>
    intro i n x y hi hn hx hy
    obtain ⟨n, rfl⟩ : ∃ q, n = q + 1 := ⟨n - 1, by omega⟩
    rw [m_finset_pairs_L2, m_finset_pairs_B2, if_neg (by omega), List.drop_eq_nil_of_le (by omega)]
    simp [evens, oddsW]
  | succ m ih =>
    intro i n x y hi hn hx hy
    obtain ⟨n, rfl⟩ : ∃ q, n = q + 1 := ⟨n - 1, by omega⟩
    have h1 : i < l.length := by omega
    have h2 : i + 1 < l.length := by omega
    have e2 : i64 ((i : Int) + 2) = ((i + 2 : Nat) : Int) := by rw [i64_id (by omega)]; omega
    rw [m_finset_pairs_L2, m_finset_pairs_B2, if_pos (by omega), i64_succ (by omega), e2, need_pos (by omega), gi_nat h1, gi_nat h2, need_pos (by simp; omega), need_pos (by omega), need_pos (by simp; omega), ih (i + 2) n _ _ (by omega) (by omega) (by simp; omega) (by simp; omega), List.drop_eq_getElem_cons h1, List.drop_eq_getElem_cons h2]
    simp [evens, oddsW]
theorem map_spec {v : List UInt8} (h : kindW v = 6) : (prtW v).length % 2 = 0 ∧ SLC (evens (prtW v)) := by
  obtain ⟨h1, _, _, _, h3⟩ := prtW_spec v
  have h0 : gi v 0 = 6 := kind_gi (by rw [h]; rfl) (by decide)
  have := (h3 (by omega) (by omega)).1
  rw [h0] at this
  have hh : (prtW v).length % 2 = 0 ∧ ascB (evens (prtW v)) = true := by simpa [formedB] using this
  exact ⟨hh.1, ascB_SLC (fun p hp => h1 p (evens_mem hp)) hh.2⟩
theorem vPairs (v : List UInt8) : m_finset_pairs v = some (if kindW v = 6 then (evens (prtW v), oddsW (prtW v), 0) else ([], [], 6)) := by
  have hFU := FU_ge
  unfold m_finset_pairs
  have hl := (prtW_spec v).2.1
  rw [vKind, bnd1_mk]
  by_cases h : kindW v = 6
  · have := (map_spec h).1
    have hh := vPairs_loop (prtW v) (by omega) (fun x y => some (x, y, 0)) ((prtW v).length / 2) 0 FU [] [] (by omega) (by omega) (by simp; omega) (by simp; omega)
    rw [Int.natCast_zero] at hh
    rw [if_neg (fun hn => hn h), vPartsW, bnd1_mk, jn_eq, hh, if_pos h]; simp
  · rw [if_pos h, if_neg h]
end Go.Proofs.YtdbnodliomlilaaGreat
/- Integers as values; sets of them; the check of awake. -/
namespace Go.Proofs.YtdbnodliomlilaaGreat
attribute [local irreducible] FU

/-- The last k bytes of w. -/
def byD (w : Nat) : Nat → List UInt8
  | 0 => []
  | k + 1 => u8i ((w / 2 ^ (8 * k) : Nat) : Int) :: byD w k
theorem byD_len (w : Nat) : ∀ k, (byD w k).length = k
  | 0 => rfl
  | k + 1 => by simp [byD, byD_len w k]
theorem beNat_cons (b : UInt8) (l : List UInt8) : beNat (b :: l) = b.toNat * 256 ^ l.length + beNat l := by
  have key : ∀ (l : List UInt8) (a : Nat), l.foldl (fun n b => n * 256 + b.toNat) a = a * 256 ^ l.length + beNat l := by
    intro l
    induction l with
    | nil => intro a; simp [beNat]
    | cons x l ih =>
      intro a
      have e : beNat (x :: l) = x.toNat * 256 ^ l.length + beNat l := by
        have := ih (0 * 256 + x.toNat)
        simpa [beNat] using this
      rw [List.foldl_cons, ih, e, List.length_cons, Nat.pow_succ, Nat.add_mul, Nat.mul_assoc, Nat.mul_comm 256]
      omega
  have := key l b.toNat
  simpa [beNat] using this
theorem pow8 (k : Nat) : 256 ^ k = 2 ^ (8 * k) := by rw [Nat.pow_mul]
theorem beNat_byD (w : Nat) : ∀ k, beNat (byD w k) = w % 2 ^ (8 * k)
  | 0 => by simp [byD, beNat, Nat.mod_one]
  | k + 1 => by
    rw [byD, beNat_cons, byD_len, u8i_nat, beNat_byD w k, pow8, show 8 * (k + 1) = 8 * k + 8 by omega, Nat.pow_add, Nat.mod_mul, Nat.mul_comm, Nat.add_comm, Nat.mul_comm]
def wOf (n : Int) : Nat := (n % 18446744073709551616).toNat
theorem u64_mod (x : Int) : IntKind.u64.wrap x = (wOf x : Int) := by rw [wrap_u64]; unfold wOf; omega
theorem fdiv_pow (w k : Nat) (hk : 8 * k ≤ 64) : Int.fdiv (w : Int) (2 ^ min (Int.toNat ((8 * k : Nat) : Int)) IntKind.u64.bits) = ((w / 2 ^ (8 * k) : Nat) : Int) := by
  rw [Int.toNat_natCast, show IntKind.u64.bits = 64 from rfl, Nat.min_eq_left hk]
  have : (2 : Int) ^ (8 * k) = ((2 ^ (8 * k) : Nat) : Int) := by simp
  rw [this, Int.fdiv_eq_ediv_of_nonneg _ (Int.natCast_nonneg _)]
  rfl
noncomputable def intW (n : Int) : List UInt8 := 1 :: byD (wOf n) 8
theorem vAppend64 (w : Nat) (K : List UInt8 → Option (List UInt8)) : ∀ (k n : Nat) (out : List UInt8), k ≤ 8 → k < n → out.length + k ≤ 100 → m_value_append64_L2 w K n out (8 * (k : Int) - 8) = K (out ++ byD w k) := by
  intro k
  induction k with
  | zero =>
    intro n out hk hn ho
    obtain ⟨n, rfl⟩ : ∃ q, n = q + 1 := ⟨n - 1, by omega⟩
    rw [m_value_append64_L2, m_value_append64_B2, if_neg (by omega)]
    simp [byD]
  | succ k ih =>
    intro n out hk hn ho
    obtain ⟨n, rfl⟩ : ∃ q, n = q + 1 := ⟨n - 1, by omega⟩
    have e : 8 * ((k + 1 : Nat) : Int) - 8 = ((8 * k : Nat) : Int) := by omega
    have e2 : i64 (((8 * k : Nat) : Int) - 8) = 8 * (k : Int) - 8 := by rw [i64_id (by omega)]; omega
    rw [e, m_value_append64_L2, m_value_append64_B2, if_pos (by omega), need_pos (by omega), fdiv_pow w k (by omega), need_pos (by simp; omega), e2, ih n _ (by omega) (by omega) (by simp; omega)]
    simp [byD]
theorem vInt (n : Int) : m_value_Int n = some (intW n) := by
  have hFU := FU_ge
  unfold m_value_Int m_value_append64
  have h := vAppend64 (wOf n) (fun x => some x) 8 FU [1] (by omega) (by omega) (by simp)
  rw [show 8 * ((8 : Nat) : Int) - 8 = 56 from rfl] at h
  rw [u64_mod, jn_eq]
  rw [h, bnd1_mk]; rfl
theorem set_byD (w k : Nat) (hk : k < 8) : List.set (List.replicate (8 - k) (0 : UInt8) ++ byD w k) (7 - k) (u8i ((w / 2 ^ (8 * k) : Nat) : Int)) = List.replicate (8 - (k + 1)) (0 : UInt8) ++ byD w (k + 1) := by
  rw [show 8 - k = (8 - (k + 1)) + 1 by omega, List.replicate_succ', List.append_assoc, List.set_append_right _ _ (by simp)]
  have : 7 - k - (List.replicate (8 - (k + 1)) (0 : UInt8)).length = 0 := by simp
  rw [this]; rfl
theorem rEight_loop (n0 : Int) (K : List UInt8 → Option (List UInt8)) : ∀ (m k n : Nat), k + m = 8 → m < n → m_ref9_eight_L2 n0 K n (List.replicate (8 - k) (0 : UInt8) ++ byD (wOf n0) k) k = K (byD (wOf n0) 8) := by
  intro m
  induction m with
  | zero =>
    intro k n hk hn
    obtain ⟨n, rfl⟩ : ∃ q, n = q + 1 := ⟨n - 1, by omega⟩
    obtain rfl : k = 8 := by omega
    rw [m_ref9_eight_L2, m_ref9_eight_B2, if_neg (by omega)]
    simp
  | succ m ih =>
    intro k n hk hn
    obtain ⟨n, rfl⟩ : ∃ q, n = q + 1 := ⟨n - 1, by omega⟩
    have e1 : i64 (8 * (k : Int)) = ((8 * k : Nat) : Int) := by rw [i64_id (by omega)]; omega
    have e2 : i64 (7 - (k : Int)) = ((7 - k : Nat) : Int) := by rw [i64_id (by omega)]; omega
    rw [m_ref9_eight_L2, m_ref9_eight_B2, if_pos (by omega), e1, u64_nat (by omega), need_pos (by omega), e2, need_pos (by simp [byD_len]; omega), Int.toNat_natCast (7 - k), u64_mod, fdiv_pow _ k (by omega), i64_succ (by omega)]
    rw [set_byD (wOf n0) k (by omega)]
    exact ih (k + 1) n (by omega) (by omega)
theorem rInt (n : Int) : m_ref9_Int n = some (intW n) := by
  have hFU := FU_ge
  unfold m_ref9_Int m_ref9_eight
  have h := rEight_loop n (fun x => some x) 8 0 FU (by omega) (by omega)
  rw [Int.natCast_zero] at h
  rw [need_pos (by omega), jn_eq]
  rw [show List.replicate (Int.toNat 8) (0 : UInt8) = List.replicate (8 - 0) (0 : UInt8) ++ byD (wOf n) 0 from rfl, h, bnd1_mk, need_pos (by simp [byD_len])]
  rfl
theorem intW_IsV (n : Int) (k : Nat) : IsV (k + 1) (intW n) := .int k _ (byD_len _ 8)
theorem intW_len (n : Int) : (intW n).length = 9 := by simp [intW, byD_len]
theorem numV_intW {n : Int} (h : -9223372036854775808 ≤ n ∧ n ≤ 9223372036854775807) : numV (intW n) = n := by
  unfold numV intW
  rw [List.drop_succ_cons, List.drop_zero, beNat_byD]
  have e : wOf n % 2 ^ (8 * 8) = wOf n := Nat.mod_eq_of_lt (by unfold wOf; omega)
  rw [e]
  unfold wOf i64
  rw [show (((n % 18446744073709551616).toNat : Nat) : Int) = n % 18446744073709551616 by omega]
  unfold IntKind.wrap IntKind.bits IntKind.signed
  simp; split <;> omega
theorem intW_inj {a b : Int} (ha : -9223372036854775808 ≤ a ∧ a ≤ 9223372036854775807) (hb : -9223372036854775808 ≤ b ∧ b ≤ 9223372036854775807) (h : intW a = intW b) : a = b := by
  rw [← numV_intW ha, ← numV_intW hb, h]

/-! ### Sets that are valid -/
theorem flat_le {l : List (List UInt8)} {c : Nat} (h : ∀ x ∈ l, x.length ≤ c) : l.flatten.length ≤ c * l.length := by
  induction l with
  | nil => simp
  | cons x l ih =>
    have h1 := h x (by simp)
    have h2 := ih (fun y hy => h y (by simp [hy]))
    simp only [List.flatten_cons, List.length_append, List.length_cons, Nat.mul_add, Nat.mul_one]
    omega
theorem SLC_ascB : ∀ {ps : List (List UInt8)}, (∀ p ∈ ps, Vd p) → SLC ps → ascB ps = true
  | [], _, _ => rfl
  | [_], _, _ => rfl
  | x :: y :: t, hv, h => by
    obtain ⟨h1, h2⟩ := List.pairwise_cons.1 h
    have := h1 y (by simp)
    rw [cmpC_val (hv x (by simp)) (hv y (by simp))] at this
    rw [ascB, SLC_ascB (fun p hp => hv p (by simp [hp])) h2, decide_eq_true this]; rfl
/-- A set of valid values that is neither too deep nor too long. -/
theorem set_ok {l : List (List UInt8)} {k : Nat} (hk : k ≤ 31) (hv : ∀ x ∈ l, IsV k x) (hl : (sortW l).length ≤ 65535) (hs : 3 + (sortW l).flatten.length ≤ 131072) :
    setW l = raw 5 (sortW l) ∧ IsV (k + 1) (setW l) ∧ prtW (setW l) = sortW l ∧ isSet (setW l) = true ∧ setW l ≠ [] ∧ (setW l).length ≤ 131072 := by
  have hm := (sortW_spec l).2.1
  have hV : ∀ x ∈ sortW l, Vd x := fun x hx => ⟨(hv x ((hm x).1 hx)).le (by omega), by have := flat_mem hx; omega⟩
  have hI : IsV (k + 1) (raw 5 (sortW l)) := .comp k 5 _ _ (sortW l) (by decide) (raw_count hl) (fun x hx => hv x ((hm x).1 hx)) (by
    have := SLC_ascB hV (sortW_spec l).1
    simpa [formedB] using this)
  have hVr : Vd (raw 5 (sortW l)) := ⟨hI.le (by omega), by rw [raw_len]; omega⟩
  have he : setW l = raw 5 (sortW l) := cmpd_yes ⟨hl, hV, hVr⟩
  have hvb := vldB_iff.2 hVr
  rw [he]
  refine ⟨rfl, hI, ?_, ?_, by simp [raw], hVr.2⟩
  · unfold prtW; rw [if_pos hvb]; exact prt_raw (by decide) hl hV
  · unfold isSet kindW; rw [if_pos hvb]; rfl
theorem bnd_ok {l : List (List UInt8)} (h : (sortW l).length ≤ 4096) (hn : setW l ≠ []) : bndW l = (setW l, 0) := by
  unfold bndW; rw [if_neg]; rintro (h' | h')
  · omega
  · exact hn h'
theorem sort_nodup {l : List (List UInt8)} (h : l.Nodup) : (sortW l).length = l.length :=
  Nat.le_antisymm (sortW_spec l).2.2 (nodup_len h (fun x hx => ((sortW_spec l).2.1 x).2 hx))

/-! ### The subsets are different -/
theorem bitB_test (b i : Nat) (hb : b < 2 ^ 62) (hi : i ≤ 62) : bitB (b : Int) i = b.testBit i := by
  unfold bitB
  rw [show IntKind.i64.bits = 64 from rfl, Nat.min_eq_left (by omega)]
  have : (2 : Int) ^ i = ((2 ^ i : Nat) : Int) := by simp
  have h2 : b / 2 ^ i ≤ b := Nat.div_le_self _ _
  have e : Int.fdiv (b : Int) ((2 ^ i : Nat) : Int) = ((b / 2 ^ i : Nat) : Int) := by rw [Int.fdiv_eq_ediv_of_nonneg _ (Int.natCast_nonneg _)]; rfl
  rw [this, e, show (1 : Int) = ((1 : Nat) : Int) from rfl, bAnd_nat _ _ (by omega) (by omega), Nat.and_one_is_mod, Nat.testBit_eq_decide_div_mod_eq]
  congr 1
  simp only [eq_iff_iff]; omega
theorem pickW_iff (b : Nat) (hb : b < 2 ^ 62) : ∀ (l : List (List UInt8)) (i : Nat), l.Nodup → i + l.length ≤ 62 → ∀ q (h : q < l.length), l[q] ∈ pickW b i l ↔ b.testBit (i + q) = true
  | [], _, _, _, q, h => by simp at h
  | x :: xs, i, hn, hl, q, h => by
    obtain ⟨n1, n2⟩ := List.nodup_cons.1 hn
    simp only [List.length_cons] at hl h
    have hx : x ∉ pickW b (i + 1) xs := fun hh => n1 (pickW_mem _ _ _ hh)
    rw [pickW, bitB_test b i hb (by omega)]
    cases q with
    | zero =>
      simp only [List.getElem_cons_zero, Nat.add_zero]
      split
      · rename_i ht; simp [ht]
      · rename_i ht; simp [ht, hx]
    | succ q =>
      have ih := pickW_iff b hb xs (i + 1) n2 (by omega) q (by omega)
      rw [show i + 1 + q = i + (q + 1) by omega] at ih
      have hne : xs[q] ≠ x := fun e => n1 (e ▸ List.getElem_mem _)
      simp only [List.getElem_cons_succ]
      split
      · rw [List.mem_cons, ih]; simp [hne]
      · exact ih
theorem pickW_sub (b : Int) : ∀ (l : List (List UInt8)) (i : Nat), (pickW b i l).Sublist l
  | [], _ => by simp [pickW]
  | x :: xs, i => by
    rw [pickW]; split
    · exact (pickW_sub b xs (i + 1)).cons_cons x
    · exact (pickW_sub b xs (i + 1)).cons x
theorem pickW_inj {l : List (List UInt8)} (hn : l.Nodup) (hl : l.length ≤ 61) {a b : Nat} (ha : a < 2 ^ l.length) (hb : b < 2 ^ l.length) (h : pickW (a : Int) 0 l = pickW (b : Int) 0 l) : a = b := by
  have h62 : 2 ^ l.length ≤ 2 ^ 61 := Nat.pow_le_pow_right (by omega) hl
  refine Nat.eq_of_testBit_eq fun i => ?_
  by_cases hi : i < l.length
  · have h1 := pickW_iff a (by omega) l 0 hn (by omega) i hi
    have h2 := pickW_iff b (by omega) l 0 hn (by omega) i hi
    rw [Nat.zero_add] at h1 h2
    rw [h, h2] at h1
    cases e1 : a.testBit i <;> cases e2 : b.testBit i <;> simp_all
  · have : 2 ^ l.length ≤ 2 ^ i := Nat.pow_le_pow_right (by omega) (by omega)
    rw [Nat.testBit_lt_two_pow (by omega), Nat.testBit_lt_two_pow (by omega)]
/-- The set of subsets of a set of small values. -/
theorem subs_ok {l : List (List UInt8)} {k : Nat} (hk : k ≤ 30) (hs : SLC l) (hv : ∀ x ∈ l, IsV k x) (hl : l.length ≤ 12) (hx : ∀ x ∈ l, x.length ≤ 9) (hsz : 2 ^ l.length * (9 * l.length + 3) + 3 ≤ 131072) :
    let S := subsF l 0 (2 ^ l.length)
    (∀ x ∈ S, IsV (k + 1) x) ∧ (∀ b : Nat, b < 2 ^ l.length → prtW (setW (pickW (b : Int) 0 l)) = pickW (b : Int) 0 l ∧ isSet (setW (pickW (b : Int) 0 l)) = true) ∧ S.Nodup ∧ S.length = 2 ^ l.length ∧ bndW S = (setW S, 0) ∧ prtW (setW S) = sortW S ∧ isSet (setW S) = true ∧ (sortW S).length = 2 ^ l.length := by
  intro S
  have h2 : 2 ^ l.length ≤ 2 ^ 12 := Nat.pow_le_pow_right (by omega) hl
  have hpos : 0 < 2 ^ l.length := Nat.two_pow_pos _
  have hbig : 9 * l.length + 3 ≤ 2 ^ l.length * (9 * l.length + 3) := Nat.le_mul_of_pos_left _ hpos
  have hone : ∀ b : Nat, setW (pickW (b : Int) 0 l) = raw 5 (sortW (pickW (b : Int) 0 l)) ∧ IsV (k + 1) (setW (pickW (b : Int) 0 l)) ∧ prtW (setW (pickW (b : Int) 0 l)) = pickW (b : Int) 0 l ∧ isSet (setW (pickW (b : Int) 0 l)) = true ∧ (setW (pickW (b : Int) 0 l)).length ≤ 9 * l.length + 3 := by
    intro b
    have hsl : SLC (pickW (b : Int) 0 l) := List.Pairwise.sublist (pickW_sub _ _ _) hs
    have hid := sortW_id hsl
    have hle := pickW_len (b : Int) l 0
    have hfl : (pickW (b : Int) 0 l).flatten.length ≤ 9 * (pickW (b : Int) 0 l).length := flat_le (fun x h => hx x (pickW_mem _ _ _ h))
    obtain ⟨a1, a2, a3, a4, _, _⟩ := set_ok (l := pickW (b : Int) 0 l) (k := k) (by omega) (fun x h => hv x (pickW_mem _ _ _ h)) (by rw [hid]; omega) (by rw [hid]; omega)
    rw [hid] at a3
    refine ⟨a1, a2, a3, a4, ?_⟩
    rw [a1, raw_len, hid]; omega
  have hlen : S.length = 2 ^ l.length := by simp [S, subsF]
  have hnd : S.Nodup := by
    refine List.pairwise_map.2 (List.Pairwise.imp_of_mem ?_ (List.nodup_range' (s := 0) (n := 2 ^ l.length)))
    intro a b ha hb hab he
    simp at ha hb
    have := congrArg prtW he
    rw [(hone a).2.2.1, (hone b).2.2.1] at this
    exact hab (pickW_inj (slc_nodup hs) (by omega) ha hb this)
  have hall : ∀ x ∈ S, IsV (k + 1) x ∧ x.length ≤ 9 * l.length + 3 := fun x hx => by
    obtain ⟨b, _, rfl⟩ := List.mem_map.1 hx
    exact ⟨(hone b).2.1, (hone b).2.2.2.2⟩
  have hsl := sort_nodup hnd
  have hfl : (sortW S).flatten.length ≤ (9 * l.length + 3) * (sortW S).length := flat_le (fun x h => (hall x (((sortW_spec S).2.1 x).1 h)).2)
  rw [hsl, hlen, Nat.mul_comm] at hfl
  obtain ⟨b1, b2, b3, b4, b5, _⟩ := set_ok (l := S) (k := k + 1) (by omega) (fun x h => (hall x h).1) (by omega) (by omega)
  exact ⟨fun x h => (hall x h).1, fun b _ => ⟨(hone b).2.2.1, (hone b).2.2.2.1⟩, hnd, hlen, bnd_ok (by omega) b5, b3, b4, by omega⟩

/-! ### Ranges -/
/-- m integers from a on. -/
noncomputable def runW (a : Int) (m : Nat) : List (List UInt8) := (List.range m).map (fun i : Nat => intW (a + i))
theorem runW_len (a : Int) (m : Nat) : (runW a m).length = m := by simp [runW]
theorem runW_succ (a : Int) (m : Nat) : runW a (m + 1) = intW a :: runW (a + 1) m := by
  unfold runW
  rw [List.range_succ_eq_map, List.map_cons, List.map_map]
  simp only [Int.natCast_zero, Int.add_zero]
  congr 1
  refine List.map_congr_left fun i _ => ?_
  show intW (a + ((i + 1 : Nat) : Int)) = intW (a + 1 + (i : Int))
  congr 1; omega
theorem runW_nodup {a : Int} {m : Nat} (h : -9223372036854775808 ≤ a ∧ a + m ≤ 9223372036854775808) : (runW a m).Nodup := by
  refine List.pairwise_map.2 (List.Pairwise.imp_of_mem ?_ List.nodup_range)
  intro i j hi hj hne he
  simp at hi hj
  have := intW_inj (a := a + i) (b := a + j) (by omega) (by omega) he
  omega
theorem runW_spec (a : Int) (m : Nat) : (∀ x ∈ runW a m, x.length ≤ 9) ∧ ∀ k, ∀ x ∈ runW a m, IsV (k + 1) x := by
  refine ⟨fun x hx => ?_, fun k x hx => ?_⟩
  · obtain ⟨i, _, rfl⟩ := List.mem_map.1 hx; rw [intW_len]; omega
  · obtain ⟨i, _, rfl⟩ := List.mem_map.1 hx; exact intW_IsV _ _
theorem vRange_loop (b : Int) (hb : b ≤ 9223372036854775807) (K : List (List UInt8) → Option (List UInt8 × Int)) : ∀ (m n : Nat) (a : Int) (out : List (List UInt8)), -9223372036854775808 ≤ a → a + m = b + 1 → 0 < m → m ≤ n → out.length + m ≤ 1000000 → m_finset_Range_L2 b K n out a = K (out ++ runW a m) := by
  intro m
  induction m with
  | zero => intro n a out _ _ h; omega
  | succ m ih =>
    intro n a out h1 h2 _ hn ho
    obtain ⟨n, rfl⟩ : ∃ q, n = q + 1 := ⟨n - 1, by omega⟩
    rw [m_finset_Range_L2, m_finset_Range_B2, if_pos (by omega), vInt, bnd1_mk, need_pos (by simp; omega)]
    by_cases h : a = b
    · obtain rfl : m = 0 := by omega
      rw [if_pos h, runW_succ]; rfl
    · rw [if_neg h, i64_id (by omega), ih n (a + 1) _ (by omega) (by omega) (by omega) (by omega) (by simp; omega), runW_succ]; simp
theorem run_set {a : Int} {m : Nat} (h : -9223372036854775808 ≤ a ∧ a + m ≤ 9223372036854775808) (hm : m ≤ 4096) : bndW (runW a m) = (setW (runW a m), 0) ∧ prtW (setW (runW a m)) = sortW (runW a m) ∧ isSet (setW (runW a m)) = true ∧ (sortW (runW a m)).length = m ∧ IsV 2 (setW (runW a m)) := by
  have hn := sort_nodup (runW_nodup h)
  rw [runW_len] at hn
  have hfl : (sortW (runW a m)).flatten.length ≤ 9 * (sortW (runW a m)).length := flat_le (fun x hx => (runW_spec a m).1 x (((sortW_spec _).2.1 x).1 hx))
  obtain ⟨b1, b2, b3, b4, b5, _⟩ := set_ok (l := runW a m) (k := 1) (by omega) ((runW_spec a m).2 0) (by omega) (by omega)
  exact ⟨bnd_ok (by omega) b5, b3, b4, hn, b2⟩
theorem vRange {a b : Int} (ha : -9223372036854775808 ≤ a) (hb : b ≤ 9223372036854775807) (hb0 : -9223372036854775808 ≤ b) (ha1 : a ≤ 9223372036854775807) : m_finset_Range a b = some (if a ≤ b ∧ 4096 ≤ b - a then ([], 9) else bndW (runW a (b - a + 1).toNat)) := by
  have hFU := FU_ge
  unfold m_finset_Range
  simp only [jn_eq]
  have hset : ∀ m : Nat, m ≤ 4096 → m_finset_set (runW a m) = some (bndW (runW a m)) := fun m hm => vSetF _ (by rw [runW_len]; omega) (fun x hx => by have := (runW_spec a m).1 x hx; omega) (.inr (by rw [runW_len]; omega))
  by_cases hab : a ≤ b
  · have e : IntKind.u64.wrap (IntKind.u64.wrap b - IntKind.u64.wrap a) = b - a := by simp only [wrap_u64]; omega
    rw [if_pos hab, e]
    by_cases hc : 4096 ≤ b - a
    · rw [if_pos (decide_eq_true hc), if_pos ⟨hab, hc⟩]
    · rw [if_neg (fun h => hc (of_decide_eq_true h)), if_neg (fun h => hc h.2)]
      rw [vRange_loop b hb _ (b - a + 1).toNat FU a [] ha (by omega) (by omega) (by omega) (by simp; omega), List.nil_append, hset _ (by omega), bnd1_mk]
  · obtain ⟨n, hn⟩ := FU_k 1 (by omega)
    rw [if_neg hab, if_neg (by simp), if_neg (fun h => hab h.1), hn, m_finset_Range_L2, m_finset_Range_B2, if_neg hab, show (b - a + 1).toNat = 0 by omega]
    have := hset 0 (by omega)
    rw [show runW a 0 = [] from rfl] at this ⊢
    rw [this, bnd1_mk]
theorem awake_true : m_law10_awake = some true := by
  unfold m_law10_awake
  rw [vRange (by omega) (by omega) (by omega) (by omega), if_neg (by omega), show ((2 : Int) - 1 + 1).toNat = 2 from rfl]
  obtain ⟨r1, r2, r3, r4, r5⟩ := run_set (a := 1) (m := 2) (by omega) (by omega)
  have hl : (sortW (runW 1 2)).length = 2 := r4
  have hmm := (sortW_spec (runW 1 2)).2.1
  obtain ⟨_, _, _, _, s1, s2, s3, s4⟩ := subs_ok (l := sortW (runW 1 2)) (k := 1) (by omega) (sortW_spec _).1 (fun x hx => (runW_spec 1 2).2 0 x ((hmm x).1 hx)) (by omega) (fun x hx => (runW_spec 1 2).1 x ((hmm x).1 hx)) (by rw [hl]; omega)
  have hss : ssW (setW (runW 1 2)) = (setW (subsF (sortW (runW 1 2)) 0 (2 ^ (sortW (runW 1 2)).length)), 0) := by
    unfold ssW
    rw [if_pos r3, r2, if_neg (by omega), s1]
  have h0 : sortW [] = [] := by
    have := (sortW_spec []).2.2
    exact List.length_eq_zero_iff.1 (by simpa using this)
  obtain ⟨n1, n2, n3, n4, _, _⟩ := set_ok (l := []) (k := 1) (by omega) (by simp) (by rw [h0]; simp) (by rw [h0]; simp)
  rw [h0] at n3
  have hbi : biW (setW []) = ([], 12) := by
    unfold biW
    rw [if_pos ⟨n4, by rw [n3]; rfl⟩, if_pos n3]
  rw [r1, bnd1_mk, vSubsets, hss, bnd1_mk, rSet [] (by simp), bnd1_mk, vBigInter, hbi, bnd1_mk]
  simp only [jn_eq]
  rw [if_pos trivial, rInt, rInt, bnd1_mk, bnd1_mk, rSet _ (by simp), bnd1_mk, if_pos (show setW (runW 1 2) = setW [intW 1, intW 2] from rfl), if_pos trivial, rPartsW, s2, bnd1_mk, s4, hl, if_pos (by decide)]
  rfl
end Go.Proofs.YtdbnodliomlilaaGreat
/- The generator of values always returns. -/
namespace Go.Proofs.YtdbnodliomlilaaGreat
attribute [local irreducible] FU

/-- The state of the choices. -/
def GS (l : List Int) (i : Int) : Prop := 0 ≤ i ∧ i ≤ l.length ∧ l.length ≤ 9223372036854775807
theorem gNext {l : List Int} {i : Int} (h : GS l i) {n : Int} (h0 : 0 < n) (h1 : n ≤ 1000000) : ∃ y i', m_gen_Choices_Next (l, i) n = some (y, (l, i')) ∧ GS l i' ∧ 0 ≤ y ∧ y < n := by
  obtain ⟨g1, g2, g3⟩ := h
  unfold m_gen_Choices_Next
  simp only []
  by_cases hc : (List.length l : Int) ≤ i
  · rw [if_pos hc]; exact ⟨0, i, rfl, ⟨g1, g2, g3⟩, by omega, h0⟩
  · have e : i64 (i64 (i + 1) - 1) = i := by rw [i64_id (x := i + 1) (by omega), i64_id (by omega)]; omega
    have en : IntKind.u64.wrap n = n := by rw [wrap_u64]; omega
    unfold m_help_Mod
    rw [if_neg hc, e, need_pos (by omega), en, need_pos (by omega), bnd1_mk, i64_id (x := i + 1) (by omega)]
    have ha := wrap_u64 (gi l i)
    have h3 : 0 ≤ Int.tmod (IntKind.u64.wrap (gi l i)) n := Int.tmod_nonneg _ (by omega)
    have h4 : Int.tmod (IntKind.u64.wrap (gi l i)) n < n := Int.tmod_lt_of_pos _ h0
    exact ⟨_, _, rfl, ⟨by omega, by omega, g3⟩, by rw [i64_id (by omega)]; exact h3, by rw [i64_id (by omega)]; exact h4⟩
theorem gNumber {l : List Int} {i : Int} (h : GS l i) : ∃ v i', m_gen_Choices_Number (l, i) = some (v, (l, i')) ∧ GS l i' := by
  unfold m_gen_Choices_Number
  obtain ⟨y, i1, e1, g1, y0, y1⟩ := gNext h (n := 9) (by omega) (by omega)
  obtain ⟨a, ia, ea, ga, _⟩ := gNext g1 (n := 2) (by omega) (by omega)
  obtain ⟨b, ib, eb, gb, _⟩ := gNext g1 (n := 7) (by omega) (by omega)
  simp only [e1, bnd1_mk, ea, eb]
  split
  · exact ⟨_, _, rfl, g1⟩
  · split
    · exact ⟨_, _, rfl, ga⟩
    · split
      · exact ⟨_, _, rfl, ga⟩
      · exact ⟨_, _, rfl, gb⟩
/-! ### What is made always comes back -/
end Go.Proofs.YtdbnodliomlilaaGreat
/- The generator makes valid values. -/
namespace Go.Proofs.YtdbnodliomlilaaGreat
attribute [local irreducible] FU

/-- A compound of valid parts. -/
theorem comp_ok {c : UInt8} (hc : 3 ≤ c.toNat ∧ c.toNat ≤ 9) {l : List (List UInt8)} {k : Nat} (hk : k ≤ 31) (hv : ∀ x ∈ l, IsV k x) (hn : l.length ≤ 65535) (hl : l.flatten.length ≤ 131069) (hf : formedB c l = true) :
    cmpd c l = raw c l ∧ IsV (k + 1) (raw c l) ∧ prtW (raw c l) = l ∧ kindW (raw c l) = (c.toNat : Int) ∧ Vd (raw c l) := by
  have hV : ∀ x ∈ l, Vd x := fun x hx => ⟨(hv x hx).le (by omega), by have := flat_mem hx; omega⟩
  have hI : IsV (k + 1) (raw c l) := .comp k c _ _ l hc (raw_count hn) hv hf
  have hVr : Vd (raw c l) := ⟨hI.le (by omega), by rw [raw_len]; omega⟩
  refine ⟨cmpd_yes ⟨hn, hV, hVr⟩, hI, ?_, ?_, hVr⟩
  · unfold prtW; rw [if_pos (vldB_iff.2 hVr)]; exact prt_raw hc hn hV
  · unfold kindW; rw [if_pos (vldB_iff.2 hVr)]; rfl
theorem gi2_00 {α : Type} [Inhabited α] (x : α) (l : List α) : gi (x :: l) 0 = x := rfl
def nameW (k : Int) : List UInt8 := [10, u8i (k / 256), u8i k]
theorem nameW_IsV (k : Int) (j : Nat) : IsV (j + 1) (nameW k) := .name j _ _
theorem rNameW {k : Int} (h0 : 0 ≤ k) (h1 : k ≤ 65535) : m_ref9_Name k = some (nameW k) := by
  unfold m_ref9_Name
  simp only [jn_eq]
  unfold m_ref9_two
  rw [if_neg (by omega), if_neg (by simp; omega), bnd1_mk, need_pos (by simp), show (2 : Int) ^ min (Int.toNat 8) IntKind.i64.bits = 256 from rfl, Int.fdiv_eq_ediv_of_nonneg _ (by omega)]; rfl
theorem rBoolW (b : Bool) : ∃ v, m_ref9_Bool b = some v ∧ ∀ k, IsV (k + 1) v ∧ v.length = 2 := by
  unfold m_ref9_Bool
  cases b
  · exact ⟨_, rfl, fun k => ⟨.bool k 0 (by decide), rfl⟩⟩
  · exact ⟨_, rfl, fun k => ⟨.bool k 1 (by decide), rfl⟩⟩
theorem rDotW {k : Int} (h0 : 0 ≤ k) (h1 : k ≤ 65535) (l : List (List UInt8)) (hl : l.length ≤ 1000) : m_ref9_Dot k l = some (cmpd 7 (nameW k :: l)) := by
  unfold m_ref9_Dot
  have := rMake 7 (by decide) ([nameW k] ++ l) (by simp; omega)
  rw [show ((7 : UInt8).toNat : Int) = 7 from rfl] at this
  rw [rNameW h0 h1, bnd1_mk, need_pos (by simp; omega), this, bnd1_mk]; rfl
theorem rNumberedW (c : UInt8) (hc : 3 ≤ c.toNat ∧ c.toNat ≤ 9) (k : Int) (l : List (List UInt8)) (hl : l.length ≤ 1000) : m_ref9_Numbered (c.toNat : Int) k l = some (cmpd c (intW k :: l)) := by
  unfold m_ref9_Numbered
  rw [rInt, bnd1_mk, need_pos (by simp; omega), rMake c hc _ (by simp; omega), bnd1_mk]; rfl

/-! ### Maps -/
/-- The parts of a map: by ascending key. -/
noncomputable def mapW (a b : List (List UInt8)) : List (List UInt8) := (sortW a).flatMap (fun k => (a.zip b).flatMap (fun p => if p.1 = k then [k, p.2] else []))
def zipP : List (List UInt8) → List (List UInt8) → List (List UInt8)
  | x :: xs, y :: ys => x :: y :: zipP xs ys
  | _, _ => []
theorem zip_none {k : List UInt8} : ∀ (a b : List (List UInt8)), k ∉ a → (a.zip b).flatMap (fun p => if p.1 = k then [k, p.2] else []) = []
  | [], _, _ => rfl
  | _ :: _, [], _ => rfl
  | x :: xs, y :: ys, h => by
    simp only [List.mem_cons, not_or] at h
    rw [List.zip_cons_cons, List.flatMap_cons, zip_none xs ys h.2]
    simp only []
    rw [if_neg (fun e => h.1 e.symm)]; rfl
theorem flatMap_congr' {α β : Type} {f g : α → List β} : ∀ {l : List α}, (∀ x ∈ l, f x = g x) → l.flatMap f = l.flatMap g
  | [], _ => rfl
  | x :: xs, h => by rw [List.flatMap_cons, List.flatMap_cons, h x (by simp), flatMap_congr' (fun y hy => h y (by simp [hy]))]
theorem zip_all : ∀ (a b : List (List UInt8)), a.Nodup → a.flatMap (fun k => (a.zip b).flatMap (fun p => if p.1 = k then [k, p.2] else [])) = zipP a b
  | [], _, _ => rfl
  | x :: xs, [], _ => by simp [zipP]
  | x :: xs, y :: ys, h => by
    obtain ⟨h1, h2⟩ := List.nodup_cons.1 h
    rw [zipP, List.flatMap_cons, ← zip_all xs ys h2, List.zip_cons_cons, List.flatMap_cons, zip_none xs ys h1]
    simp only [if_true, List.append_nil, List.cons_append, List.nil_append]
    congr 2
    refine flatMap_congr' (fun k hk => ?_)
    rw [List.flatMap_cons, if_neg (fun e => h1 (by rw [show x = k from e]; exact hk)), List.nil_append]
theorem mapW_sorted {a b : List (List UInt8)} (h : SLC a) : mapW a b = zipP a b := by
  unfold mapW; rw [sortW_id h]; exact zip_all a b (slc_nodup h)
theorem zipP_len : ∀ (a b : List (List UInt8)), a.length = b.length → (zipP a b).length = 2 * a.length
  | [], _, _ => by simp [zipP]
  | x :: xs, [], h => by simp at h
  | x :: xs, y :: ys, h => by simp only [zipP, List.length_cons]; rw [zipP_len xs ys (by simpa using h)]; omega
theorem zipP_evens : ∀ (a b : List (List UInt8)), a.length = b.length → evens (zipP a b) = a
  | [], _, _ => by simp [zipP, evens]
  | x :: xs, [], h => by simp at h
  | x :: xs, y :: ys, h => by simp only [zipP, evens]; rw [zipP_evens xs ys (by simpa using h)]
theorem zipP_mem {z : List UInt8} : ∀ {a b : List (List UInt8)}, z ∈ zipP a b → z ∈ a ∨ z ∈ b
  | [], _, h => by simp [zipP] at h
  | x :: xs, [], h => by simp [zipP] at h
  | x :: xs, y :: ys, h => by
    simp only [zipP, List.mem_cons] at h
    rcases h with h | h | h
    · exact .inl (by simp [h])
    · exact .inr (by simp [h])
    · rcases zipP_mem h with h | h
      · exact .inl (by simp [h])
      · exact .inr (by simp [h])
theorem rMap_in2 (a b y : List (List UInt8)) (hab : a.length = b.length) (ha : a.length ≤ 10000000) (q : Nat) (hq : q < y.length) (K : List (List UInt8) → Option (List UInt8)) : ∀ (m i n : Nat) (out : List (List UInt8)), i + m = a.length → m < n → out.length + 2 * m ≤ 100000000000 →
    m_ref9_Map_L14 a b y q K n out i = K (out ++ ((a.zip b).drop i).flatMap (fun p => if p.1 = y[q] then [y[q], p.2] else [])) := by
  intro m
  induction m with
  | zero =>
    intro i n out hi hn ho
    obtain ⟨n, rfl⟩ : ∃ q, n = q + 1 := ⟨n - 1, by omega⟩
    rw [m_ref9_Map_L14, m_ref9_Map_B14, if_neg (by omega), List.drop_eq_nil_of_le (by simp; omega)]; simp
  | succ m ih =>
    intro i n out hi hn ho
    obtain ⟨n, rfl⟩ : ∃ q, n = q + 1 := ⟨n - 1, by omega⟩
    have h1 : i < a.length := by omega
    have h2 : i < b.length := by omega
    have h3 : i < (a.zip b).length := by simp; omega
    rw [m_ref9_Map_L14, m_ref9_Map_B14, if_pos (by omega)]
    simp only [jn_eq]
    rw [need_pos (by omega), need_pos (by omega), need_pos (by omega), need_pos (by omega), need_pos (by simp; omega), gi_nat h1, gi_nat h2, gi_nat hq, i64_succ (by omega), List.drop_eq_getElem_cons h3, List.flatMap_cons, List.getElem_zip]
    by_cases he : a[i] = y[q]
    · simp only [he, if_true]
      rw [ih (i + 1) n (out ++ [y[q], b[i]]) (by omega) (by omega) (by simp; omega), List.append_assoc]
    · simp only [he, if_false]
      rw [ih (i + 1) n out (by omega) (by omega) (by omega), List.nil_append]
theorem rMap_len (a b : List (List UInt8)) (hab : a.length = b.length) (k : List UInt8) : ((a.zip b).flatMap (fun p => if p.1 = k then [k, p.2] else [])).length ≤ 2 * a.length := by
  have key : ∀ (l : List (List UInt8 × List UInt8)), (l.flatMap (fun p => if p.1 = k then [k, p.2] else [])).length ≤ 2 * l.length := by
    intro l
    induction l with
    | nil => simp
    | cons p l ih =>
      simp only [List.flatMap_cons, List.length_append, List.length_cons]
      split
      · simp only [List.length_cons, List.length_nil]; omega
      · simp only [List.length_nil]; omega
  have := key (a.zip b)
  simp at this ⊢; omega
theorem rMap_out2 (a b y : List (List UInt8)) (hab : a.length = b.length) (ha : a.length ≤ 200000) (hy : y.length ≤ 200000) (K : List (List UInt8) → Option (List UInt8)) : ∀ (m i n : Nat) (out : List (List UInt8)), i + m = y.length → m < n → out.length + 400000 * m ≤ 90000000000 →
    m_ref9_Map_L8 a b y K n out i = K (out ++ (y.drop i).flatMap (fun k => (a.zip b).flatMap (fun p => if p.1 = k then [k, p.2] else []))) := by
  have hFU := FU_ge
  intro m
  induction m with
  | zero =>
    intro i n out hi hn ho
    obtain ⟨n, rfl⟩ : ∃ q, n = q + 1 := ⟨n - 1, by omega⟩
    rw [m_ref9_Map_L8, m_ref9_Map_B8, if_neg (by omega), List.drop_eq_nil_of_le (by omega)]; simp
  | succ m ih =>
    intro i n out hi hn ho
    obtain ⟨n, rfl⟩ : ∃ q, n = q + 1 := ⟨n - 1, by omega⟩
    have h3 : i < y.length := by omega
    rw [m_ref9_Map_L8, m_ref9_Map_B8, if_pos (by omega)]
    simp only [jn_eq]
    have g1 := rMap_in2 a b y hab (by omega) i h3 (fun x6_j420 => m_ref9_Map_L8 a b y K n x6_j420 (i64 ((i : Int) + 1))) a.length 0 FU out (by omega) (by omega) (by omega)
    have hlen := rMap_len a b hab y[i]
    rw [Int.natCast_zero, List.drop_zero] at g1
    rw [g1, i64_succ (by omega), ih (i + 1) n _ (by omega) (by omega) (by rw [List.length_append]; omega), List.drop_eq_getElem_cons h3, List.flatMap_cons, List.append_assoc]
noncomputable def mpW (a b : List (List UInt8)) : List UInt8 := by
  classical exact if a.length = b.length ∧ (∀ x ∈ a, Vd x) ∧ (∀ x ∈ b, Vd x) ∧ (sortW a).length = a.length then cmpd 6 (mapW a b) else []
theorem mpW_yes {a b : List (List UInt8)} (h : a.length = b.length ∧ (∀ x ∈ a, Vd x) ∧ (∀ x ∈ b, Vd x) ∧ (sortW a).length = a.length) : mpW a b = cmpd 6 (mapW a b) := by unfold mpW; rw [if_pos h]
theorem mpW_no {a b : List (List UInt8)} (h : ¬ (a.length = b.length ∧ (∀ x ∈ a, Vd x) ∧ (∀ x ∈ b, Vd x) ∧ (sortW a).length = a.length)) : mpW a b = [] := by unfold mpW; rw [if_neg h]
theorem mapW_mem {a b : List (List UInt8)} {z : List UInt8} (h : z ∈ mapW a b) : z ∈ a ∨ z ∈ b := by
  unfold mapW at h
  obtain ⟨k, hk, h⟩ := List.mem_flatMap.1 h
  obtain ⟨p, hp, h⟩ := List.mem_flatMap.1 h
  obtain ⟨p1, p2⟩ := p
  split at h
  · simp only [List.mem_cons, List.not_mem_nil, or_false] at h
    rcases h with h | h
    · exact .inl (by rw [h]; exact ((sortW_spec a).2.1 k).1 hk)
    · exact .inr (by rw [h]; exact (List.of_mem_zip hp).2)
  · simp at h
theorem rMapW (a b : List (List UInt8)) (ha : a.length ≤ 200000) (hb : b.length ≤ 1000000000) : m_ref9_Map a b = some (mpW a b) := by
  have hFU := FU_ge
  unfold m_ref9_Map
  simp only [jn_eq]
  by_cases hl : a.length = b.length
  · rw [if_neg (fun h => h (by omega)), rAll a (by omega), bnd1_mk, rAll b (by omega)]
    simp only [bnd1_mk, rSort a (show a.length ≤ 10000000 by omega)]
    cases h1 : a.all vldB with
    | false =>
      rw [mpW_no (by
        rintro ⟨_, h, _⟩
        have : a.all vldB = true := List.all_eq_true.2 (fun x hx => vldB_iff.2 (h x hx))
        rw [h1] at this; cases this)]
      simp
    | true =>
      rw [if_neg (by simp)]
      have hA : ∀ x ∈ a, Vd x := fun x hx => vldB_iff.1 (List.all_eq_true.1 h1 x hx)
      cases h2 : b.all vldB with
      | false =>
        rw [mpW_no (by
          rintro ⟨_, _, h, _⟩
          have : b.all vldB = true := List.all_eq_true.2 (fun x hx => vldB_iff.2 (h x hx))
          rw [h2] at this; cases this)]
        simp
      | true =>
        have hB : ∀ x ∈ b, Vd x := fun x hx => vldB_iff.1 (List.all_eq_true.1 h2 x hx)
        rw [if_neg (by simp)]
        have hlen := (sortW_spec a).2.2
        by_cases hs : (sortW a).length = a.length
        · rw [if_neg (fun h => h (by omega)), mpW_yes ⟨hl, hA, hB, hs⟩]
          have g1 := rMap_out2 a b (sortW a) hl ha (by omega) (fun x6_j13 => bnd1 (m_ref9_compound 6 x6_j13) (fun y500 => some y500)) (sortW a).length 0 FU [] (by omega) (by omega) (by simp; omega)
          rw [Int.natCast_zero, List.drop_zero, List.nil_append] at g1
          have := rCompound 6 (by decide) (mapW a b) (fun x hx => (mapW_mem hx).elim (hA x) (hB x))
          rw [show ((6 : UInt8).toNat : Int) = 6 from rfl] at this
          unfold mapW at this
          rw [g1, this, bnd1_mk]
          rfl
        · rw [if_pos (fun h => hs (by omega)), mpW_no (fun h => hs h.2.2.2)]
  · rw [if_pos (fun h => hl (by omega)), if_pos trivial, mpW_no (fun h => hl h.1)]

/-! ### The generator -/
def PV (k c : Nat) (v : List UInt8) : Prop := IsV k v ∧ v.length ≤ c
theorem PV.le {k c k' c' : Nat} {v : List UInt8} (h : PV k c v) (hk : k ≤ k') (hc : c ≤ c') : PV k' c' v := ⟨h.1.le hk, Nat.le_trans h.2 hc⟩
theorem PV_all {k c : Nat} {l : List (List UInt8)} (h : ∀ x ∈ l, PV k c x) : (∀ x ∈ l, IsV k x) ∧ l.flatten.length ≤ c * l.length := ⟨fun x hx => (h x hx).1, flat_le (fun x hx => (h x hx).2)⟩
/-- A value with a property, and the choices go on. -/
def GVP (P : List UInt8 → Prop) (f : List Int × Int → Option (List UInt8 × (List Int × Int))) : Prop := ∀ (l : List Int) (i : Int), GS l i → ∃ v i', f (l, i) = some (v, (l, i')) ∧ GS l i' ∧ P v
theorem gValuesP_loop (self : List Int × Int → Int → Option (List UInt8 × (List Int × Int))) (d : Int) (P : List UInt8 → Prop) (hs : GVP P (fun s => self s d)) (K : List Int → Int → List (List UInt8) → Option (List (List UInt8) × (List Int × Int))) : ∀ (m n : Nat) (l : List Int) (i : Int) (out : List (List UInt8)), m < n → GS l i → out.length + m ≤ 1000 → (∀ x ∈ out, P x) →
    ∃ i' out', m_gen_Choices_Values_L2 self d K n l i out m = K l i' out' ∧ GS l i' ∧ out'.length = out.length + m ∧ ∀ x ∈ out', P x := by
  intro m
  induction m with
  | zero =>
    intro n l i out hn hg ho hx
    obtain ⟨n, rfl⟩ : ∃ q, n = q + 1 := ⟨n - 1, by omega⟩
    exact ⟨i, out, by rw [m_gen_Choices_Values_L2, m_gen_Choices_Values_B2, if_neg (by omega)], hg, rfl, hx⟩
  | succ m ih =>
    intro n l i out hn hg ho hx
    obtain ⟨n, rfl⟩ : ∃ q, n = q + 1 := ⟨n - 1, by omega⟩
    obtain ⟨v, i1, e1, g1, p1⟩ := hs l i hg
    have e2 : i64 (((m + 1 : Nat) : Int) - 1) = (m : Int) := by rw [i64_id (by omega)]; omega
    obtain ⟨i', out', h1, h2, h3, h4⟩ := ih n l i1 (out ++ [v]) (by omega) g1 (by simp; omega) (fun x h => by
      rcases List.mem_append.1 h with h | h
      · exact hx x h
      · rw [List.mem_singleton.1 h]; exact p1)
    refine ⟨i', out', ?_, h2, by rw [h3]; simp; omega, h4⟩
    simp only [] at e1
    rw [m_gen_Choices_Values_L2, m_gen_Choices_Values_B2, if_pos (by omega), e1, bnd1_mk]
    simp only []
    rw [need_pos (by simp; omega), e2, h1]
theorem gValuesP (self : List Int × Int → Int → Option (List UInt8 × (List Int × Int))) (d : Int) (P : List UInt8 → Prop) (hs : GVP P (fun s => self s d)) {l : List Int} {i : Int} (h : GS l i) {most : Int} (h0 : 0 < most) (h1 : most ≤ 100) :
    ∃ L i', m_gen_Choices_Values self (l, i) d most = some (L, (l, i')) ∧ GS l i' ∧ (L.length : Int) < most ∧ ∀ x ∈ L, P x := by
  have hFU := FU_ge
  unfold m_gen_Choices_Values
  rw [jn_eq]
  obtain ⟨y, i1, e1, g1, y0, y1⟩ := gNext h (n := most) (by omega) (by omega)
  obtain ⟨m, rfl⟩ : ∃ m : Nat, y = m := ⟨y.toNat, by omega⟩
  obtain ⟨i', L, h1, h2, h3, h4⟩ := gValuesP_loop self d P hs (fun x0_0_j1 x0_1_j1 x3_j1 => some (x3_j1, (x0_0_j1, x0_1_j1))) m FU l i1 [] (by omega) g1 (by simp; omega) (by simp)
  simp only []
  rw [e1, bnd1_mk]
  simp only []
  rw [h1]
  exact ⟨L, i', rfl, h2, by simp at h3; omega, h4⟩
theorem gValP_loop (self : List Int × Int → Int → Option (List UInt8 × (List Int × Int))) (d : Int) (P : List UInt8 → Prop) (hs : GVP P (fun s => self s (i64 (d - 1)))) (y : List (List UInt8)) (hy : y.length ≤ 1000) (K : List Int → Int → List (List UInt8) → Option (List UInt8 × (List Int × Int))) : ∀ (m q n : Nat) (l : List Int) (i : Int) (out : List (List UInt8)), q + m = y.length → m < n → GS l i → out.length + m ≤ 1000 → (∀ x ∈ out, P x) →
    ∃ i' out', m_gen_Choices_Value_L4 self d y K n l i out q = K l i' out' ∧ GS l i' ∧ out'.length = out.length + m ∧ ∀ x ∈ out', P x := by
  intro m
  induction m with
  | zero =>
    intro q n l i out hq hn hg ho hx
    obtain ⟨n, rfl⟩ : ∃ q, n = q + 1 := ⟨n - 1, by omega⟩
    exact ⟨i, out, by rw [m_gen_Choices_Value_L4, m_gen_Choices_Value_B4, if_neg (by omega)], hg, rfl, hx⟩
  | succ m ih =>
    intro q n l i out hq hn hg ho hx
    obtain ⟨n, rfl⟩ : ∃ q, n = q + 1 := ⟨n - 1, by omega⟩
    obtain ⟨v, i1, e1, g1, p1⟩ := hs l i hg
    obtain ⟨i', out', h1, h2, h3, h4⟩ := ih (q + 1) n l i1 (out ++ [v]) (by omega) (by omega) g1 (by simp; omega) (fun x h => by
      rcases List.mem_append.1 h with h | h
      · exact hx x h
      · rw [List.mem_singleton.1 h]; exact p1)
    refine ⟨i', out', ?_, h2, by rw [h3]; simp; omega, h4⟩
    simp only [] at e1
    rw [m_gen_Choices_Value_L4, m_gen_Choices_Value_B4, if_pos (by omega), e1, bnd1_mk]
    simp only []
    rw [need_pos (by simp; omega), i64_succ (by omega), h1]
/-- A compound of generated parts. -/
theorem comp_PV {c : UInt8} (hc : 3 ≤ c.toNat ∧ c.toNat ≤ 9) {l : List (List UInt8)} {k m : Nat} (hk : k ≤ 31) (hv : ∀ x ∈ l, IsV k x) (hl : l.flatten.length + 3 ≤ m) (hm : m ≤ 65535) (hf : formedB c l = true) : PV (k + 1) m (cmpd c l) := by
  have hn : l.length ≤ 65535 := by
    have := flatV_len (ps := l) (fun p hp => (show Vd p from ⟨(hv p hp).le (by omega), by have := flat_mem hp; omega⟩).ne)
    omega
  obtain ⟨h1, h2, _⟩ := comp_ok hc hk hv hn (by omega) hf
  rw [h1]; exact ⟨h2, by rw [raw_len]; omega⟩
theorem betB_int {k : Int} (h : 0 ≤ k ∧ k ≤ 65535) : betB (intW k) 0 65535 = true := by
  unfold betB
  rw [numV_intW (by omega), show gi (intW k) 0 = 1 from rfl, decide_eq_true h.1, decide_eq_true h.2]; rfl
theorem gValueP_leaf {l : List Int} {i1 : Int} (g1 : GS l i1) (x : Int) (hx : x = 0 ∨ x = 1 ∨ x = 2) (R3 R4 R5 R6 R7 R8 : Option (List UInt8 × (List Int × Int))) : ∃ v i', (if x = 1 then (bnd1 (m_gen_Choices_Next (l, i1) 2) (fun y45 => bnd1 (m_ref9_Bool (decide (y45.1 = 1))) (fun y46 => some (y46, (y45.2.1, y45.2.2))))) else (if x = 2 then (bnd1 (m_gen_Choices_Next (l, i1) 4) (fun y47 => bnd1 (m_ref9_Name y47.1) (fun y48 => some (y48, (y47.2.1, y47.2.2))))) else (if x = 3 then R3 else (if x = 4 then R4 else (if x = 5 then R5 else (if x = 6 then R6 else (if x = 7 then R7 else (if x = 8 then R8 else (bnd1 (m_gen_Choices_Number (l, i1)) (fun y85 => bnd1 (m_ref9_Int y85.1) (fun y86 => some (y86, (y85.2.1, y85.2.2)))))))))))) ) = some (v, (l, i')) ∧ GS l i' ∧ PV 1 9 v := by
  rcases hx with rfl | rfl | rfl
  · obtain ⟨v, i2, e2, g2⟩ := gNumber g1
    simp only [e2, bnd1_mk, rInt]
    exact ⟨_, _, rfl, g2, intW_IsV _ 0, by rw [intW_len]; omega⟩
  · obtain ⟨v, i2, e2, g2, _⟩ := gNext g1 (n := 2) (by omega) (by omega)
    obtain ⟨w, hw, hw2⟩ := rBoolW (decide (v = 1))
    simp only [e2, bnd1_mk, hw]
    exact ⟨_, _, rfl, g2, (hw2 0).1, by rw [(hw2 0).2]; omega⟩
  · obtain ⟨v, i2, e2, g2, h0, h1⟩ := gNext g1 (n := 4) (by omega) (by omega)
    have hw := rNameW (k := v) h0 (by omega)
    simp only [e2, bnd1_mk, hw]
    exact ⟨_, _, rfl, g2, nameW_IsV _ 0, by simp [nameW]⟩
theorem gValueP_F (self : List Int × Int → Int → Option (List UInt8 × (List Int × Int))) (d : Int) (k c : Nat) (hk : 1 ≤ k ∧ k ≤ 31) (hc : 9 ≤ c ∧ c ≤ 10000) (hd : d ≤ 1 ∨ (1 < d ∧ d ≤ 1000 ∧ GVP (PV k c) (fun s => self s (d - 1)))) : GVP (PV (if d ≤ 1 then 1 else k + 1) (if d ≤ 1 then 9 else 4 * c + 12)) (fun s => m_gen_Choices_Value_F self s d) := by
  have hFU := FU_ge
  intro l i h
  show ∃ v i', m_gen_Choices_Value_F self (l, i) d = some (v, (l, i')) ∧ GS l i' ∧ _
  unfold m_gen_Choices_Value_F
  obtain ⟨y, i1, e1, g1, y0, y1⟩ := gNext h (n := 9) (by omega) (by omega)
  rw [e1, bnd1_mk]
  simp only [jn_eq]
  by_cases hd1 : d ≤ 1
  · simp only [if_pos hd1]
    have t1 : 0 ≤ Int.tmod y 3 := Int.tmod_nonneg _ y0
    have t2 : Int.tmod y 3 < 3 := Int.tmod_lt_of_pos _ (by omega)
    exact gValueP_leaf g1 (Int.tmod y 3) (by omega) _ _ _ _ _ _
  · obtain ⟨_, hd2, hs⟩ := hd.resolve_left hd1
    simp only [if_neg hd1]
    have ed : i64 (d - 1) = d - 1 := i64_id (by omega)
    by_cases hy : y = 0 ∨ y = 1 ∨ y = 2
    · obtain ⟨v, i', a1, a2, a3⟩ := gValueP_leaf g1 y hy _ _ _ _ _ _
      exact ⟨v, i', a1, a2, a3.le (by omega) (by omega)⟩
    · rw [if_neg (by omega), if_neg (by omega), ed]
      rcases (show y = 3 ∨ y = 4 ∨ y = 5 ∨ y = 6 ∨ y = 7 ∨ y = 8 by omega) with rfl | rfl | rfl | rfl | rfl | rfl
      · obtain ⟨v, i2, e2, g2, p2⟩ := hs l i1 g1
        obtain ⟨w, i3, e3, g3, p3⟩ := hs l i2 g2
        have := rMake 3 (by decide) [v, w] (by simp)
        rw [show ((3 : UInt8).toNat : Int) = 3 from rfl] at this
        simp only [] at e2 e3
        simp only [if_true, e2, bnd1_mk, e3, this]
        refine ⟨_, _, rfl, g3, comp_PV (by decide) hk.2 (fun x hx => ?_) ?_ (by omega) rfl⟩
        · simp at hx; rcases hx with rfl | rfl
          · exact p2.1
          · exact p3.1
        · have a1 := p2.2; have a2 := p3.2; simp; omega
      · obtain ⟨L, i2, e2, g2, hl, hp⟩ := gValuesP self (d - 1) _ hs g1 (most := 4) (by omega) (by omega)
        have := rMake 4 (by decide) L (by omega)
        obtain ⟨q1, q2⟩ := PV_all hp
        have q3 : c * L.length ≤ c * 3 := Nat.mul_le_mul_left c (by omega)
        rw [show ((4 : UInt8).toNat : Int) = 4 from rfl] at this
        rw [if_neg (by omega), if_pos rfl, e2, bnd1_mk, this, bnd1_mk]
        exact ⟨_, _, rfl, g2, comp_PV (by decide) hk.2 q1 (by omega) (by omega) rfl⟩
      · obtain ⟨L, i2, e2, g2, hl, hp⟩ := gValuesP self (d - 1) _ hs g1 (most := 4) (by omega) (by omega)
        have hm := (sortW_spec L).2.1
        have hsl := (sortW_spec L).2.2
        obtain ⟨q1, q2⟩ := PV_all (fun x hx => hp x ((hm x).1 hx))
        have q3 : c * (sortW L).length ≤ c * 3 := Nat.mul_le_mul_left c (by omega)
        rw [if_neg (by omega), if_neg (by omega), if_pos rfl, e2, bnd1_mk, rSet L (by omega), bnd1_mk]
        refine ⟨_, _, rfl, g2, comp_PV (by decide) hk.2 q1 (by omega) (by omega) ?_⟩
        have := SLC_ascB (fun x hx => (show Vd x from ⟨(q1 x hx).le (by omega), by have := flat_mem hx; omega⟩)) (sortW_spec L).1
        simpa [formedB] using this
      · obtain ⟨j, i2, e2, g2, j0, j1⟩ := gNext g1 (n := 3) (by omega) (by omega)
        obtain ⟨L, i3, e3, g3, hl, hp⟩ := gValuesP self (d - 1) _ hs g2 (most := 3) (by omega) (by omega)
        obtain ⟨q1, q2⟩ := PV_all hp
        have q3 : c * L.length ≤ c * 2 := Nat.mul_le_mul_left c (by omega)
        have hv := rDotW (k := j) j0 (by omega) L (by omega)
        rw [if_neg (by omega), if_neg (by omega), if_neg (by omega), if_pos rfl, e2, bnd1_mk]
        simp only []
        rw [e3, bnd1_mk, hv, bnd1_mk]
        refine ⟨_, _, rfl, g3, comp_PV (by decide) hk.2 (fun x hx => ?_) ?_ (by omega) ?_⟩
        · rcases List.mem_cons.1 hx with rfl | hx
          · exact (nameW_IsV j 0).le hk.1
          · exact q1 x hx
        · simp [nameW]; simp at q2; omega
        · simp [formedB, gi2_00, nameW]; omega
      · obtain ⟨L, i2, e2, g2, hl, hp⟩ := gValuesP self (d - 1) _ hs g1 (most := 3) (by omega) (by omega)
        have hm := (sortW_spec L).2.1
        have hsl := (sortW_spec L).2.2
        rw [if_neg (by omega), if_neg (by omega), if_neg (by omega), if_neg (by omega), if_pos rfl, e2, bnd1_mk, rSort L (by omega), bnd1_mk]
        obtain ⟨i3, O, h1, h2, h3, h4⟩ := gValP_loop self d _ (by rw [ed]; exact hs) (sortW L) (by omega) (fun x0_0_j61 x0_1_j61 x7_j61 => bnd1 (m_ref9_Map (sortW L) x7_j61) (fun y81 => some (y81, (x0_0_j61, x0_1_j61)))) (sortW L).length 0 FU l i2 [] (by omega) (by omega) g2 (by simp; omega) (by simp)
        rw [Int.natCast_zero] at h1
        have h3' : (sortW L).length = O.length := by simp at h3; omega
        have hs1 := (sortW_spec L).1
        have hPk : ∀ x ∈ sortW L, PV k c x := fun x hx => hp x ((hm x).1 hx)
        have hVk : ∀ x, PV k c x → Vd x := fun x hx => ⟨hx.1.le (by omega), by have := hx.2; omega⟩
        have hz : ∀ x ∈ zipP (sortW L) O, PV k c x := fun x hx => (zipP_mem hx).elim (hPk x) (h4 x)
        obtain ⟨q1, q2⟩ := PV_all hz
        have hzl := zipP_len (sortW L) O h3'
        have q3 : c * (zipP (sortW L) O).length ≤ c * 4 := Nat.mul_le_mul_left c (by omega)
        have hmp : mpW (sortW L) O = cmpd 6 (zipP (sortW L) O) := by
          rw [mpW_yes ⟨h3', fun x hx => hVk x (hPk x hx), fun x hx => hVk x (h4 x hx), by rw [sortW_id hs1]⟩, mapW_sorted hs1]
        simp only []
        rw [h1, rMapW (sortW L) O (by omega) (by omega), hmp, bnd1_mk]
        refine ⟨_, _, rfl, h2, comp_PV (by decide) hk.2 q1 (by omega) (by omega) ?_⟩
        have := SLC_ascB (fun x hx => hVk x (hPk x hx)) hs1
        simp [formedB, zipP_evens _ _ h3', this, hzl]
      · obtain ⟨j, i2, e2, g2, j0, j1⟩ := gNext g1 (n := 3) (by omega) (by omega)
        obtain ⟨L, i3, e3, g3, hl, hp⟩ := gValuesP self (d - 1) _ hs g2 (most := 2) (by omega) (by omega)
        obtain ⟨q1, q2⟩ := PV_all hp
        have q3 : c * L.length ≤ c * 1 := Nat.mul_le_mul_left c (by omega)
        have hv := rNumberedW 8 (by decide) j L (by omega)
        rw [show ((8 : UInt8).toNat : Int) = 8 from rfl] at hv
        rw [if_neg (by omega), if_neg (by omega), if_neg (by omega), if_neg (by omega), if_neg (by omega), if_pos rfl, e2, bnd1_mk]
        simp only []
        rw [e3, bnd1_mk, hv, bnd1_mk]
        refine ⟨_, _, rfl, g3, comp_PV (by decide) hk.2 (fun x hx => ?_) ?_ (by omega) ?_⟩
        · rcases List.mem_cons.1 hx with rfl | hx
          · exact (intW_IsV j 0).le hk.1
          · exact q1 x hx
        · simp [intW_len]; simp at q2; omega
        · simp [formedB, gi2_00, betB_int (k := j) ⟨j0, by omega⟩]; omega
/-- How long a generated value of depth d can be. -/
def szV : Nat → Nat
  | 0 => 9
  | 1 => 9
  | d + 2 => 4 * szV (d + 1) + 12
theorem gValueP_S : ∀ (k : Nat), k ≤ 5 → ∀ n, k < n → GVP (PV (max k 1) (szV k)) (fun s => m_gen_Choices_Value_S n s (k : Int))
  | 0, _, n, hn => by
    obtain ⟨n, rfl⟩ : ∃ q, n = q + 1 := ⟨n - 1, by omega⟩
    exact gValueP_F _ _ 1 9 (by omega) (by omega) (.inl (by omega))
  | 1, _, n, hn => by
    obtain ⟨n, rfl⟩ : ∃ q, n = q + 1 := ⟨n - 1, by omega⟩
    exact gValueP_F _ _ 1 9 (by omega) (by omega) (.inl (by omega))
  | k + 2, hk, n, hn => by
    obtain ⟨n, rfl⟩ : ∃ q, n = q + 1 := ⟨n - 1, by omega⟩
    have ih := gValueP_S (k + 1) (by omega) n (by omega)
    have hsz : 9 ≤ szV (k + 1) ∧ szV (k + 1) ≤ 10000 := by
      have : k ≤ 3 := by omega
      rcases (show k = 0 ∨ k = 1 ∨ k = 2 ∨ k = 3 by omega) with rfl | rfl | rfl | rfl <;> decide
    have := gValueP_F (m_gen_Choices_Value_S n) ((k + 2 : Nat) : Int) (max (k + 1) 1) (szV (k + 1)) (by omega) hsz (.inr ⟨by omega, by omega, by
      rw [show ((k + 2 : Nat) : Int) - 1 = ((k + 1 : Nat) : Int) by omega]; exact ih⟩)
    rw [if_neg (by omega), if_neg (by omega)] at this
    intro l i h
    obtain ⟨v, i', a1, a2, a3⟩ := this l i h
    exact ⟨v, i', a1, a2, a3.le (by omega) (Nat.le_refl _)⟩
theorem gValueP (k : Nat) (hk : k ≤ 5) : GVP (PV (max k 1) (szV k)) (fun s => m_gen_Choices_Value s (k : Int)) := by
  have hFU := FU_ge
  exact gValueP_S k hk FU (by omega)

/-! ### Lists -/
end Go.Proofs.YtdbnodliomlilaaGreat
/- The check of layer 9: text, kind and order of one set. -/
namespace Go.Proofs.YtdbnodliomlilaaGreat
attribute [local irreducible] FU

theorem cmpC_int {a b : Int} (ha : -9223372036854775808 ≤ a ∧ a ≤ 9223372036854775807) (hb : -9223372036854775808 ≤ b ∧ b ≤ 9223372036854775807) : cmpC (intW a) (intW b) = sgn a b := by
  have va : Vd (intW a) := ⟨intW_IsV a 31, by rw [intW_len]; omega⟩
  have vb : Vd (intW b) := ⟨intW_IsV b 31, by rw [intW_len]; omega⟩
  rw [cmpC_val va vb]
  unfold cmpW
  show (if intW a = intW b then 0 else if gi (intW a) 0 ≠ gi (intW b) 0 then sgnB (gi (intW a) 0) (gi (intW b) 0) else if gi (intW a) 0 = 1 then sgn (numV (intW a)) (numV (intW b)) else _) = _
  by_cases h : intW a = intW b
  · rw [if_pos h, intW_inj ha hb h]; unfold sgn; simp
  · rw [if_neg h, if_neg (fun hn => hn rfl), if_pos (show gi (intW a) 0 = 1 from rfl), numV_intW ha, numV_intW hb]
end Go.Proofs.YtdbnodliomlilaaGreat
/- Comparing is a total order. -/
namespace Go.Proofs.YtdbnodliomlilaaGreat
attribute [local irreducible] FU

section
variable (a3 : List UInt8) (y3 y6 y9 : (List UInt8) × ((List Int) × Int))
end
end Go.Proofs.YtdbnodliomlilaaGreat
/- Kind and Parts of a value return what it was made from. -/
namespace Go.Proofs.YtdbnodliomlilaaGreat
attribute [local irreducible] FU

end Go.Proofs.YtdbnodliomlilaaGreat
/- value.Map, the program's and the reference's; the other makers. -/
namespace Go.Proofs.YtdbnodliomlilaaGreat
attribute [local irreducible] FU

theorem nodup_of_len : ∀ {l r : List (List UInt8)}, r.Nodup → (∀ x ∈ r, x ∈ l) → (∀ x ∈ l, x ∈ r) → l.length ≤ r.length → l.Nodup
  | [], _, _, _, _, _ => List.nodup_nil
  | x :: l, r, hr, h1, h2, hl => by
    have hx : x ∉ l := fun hx => by
      have := nodup_len hr (l := l) (fun y hy => by
        rcases List.mem_cons.1 (h1 y hy) with rfl | h
        · exact hx
        · exact h)
      simp at hl; omega
    have hxr := h2 x (by simp)
    refine List.nodup_cons.2 ⟨hx, nodup_of_len (r := r.erase x) (hr.erase x) (fun y hy => ?_) (fun y hy => ?_) ?_⟩
    · obtain ⟨hne, hy⟩ := hr.mem_erase_iff.1 hy
      exact (List.mem_cons.1 (h1 y hy)).resolve_left hne
    · exact hr.mem_erase_iff.2 ⟨fun e => hx (e ▸ hy), h2 y (by simp [hy])⟩
    · rw [List.length_erase_of_mem hxr]; simp at hl; omega
theorem nodup_sort {a : List (List UInt8)} (h : (sortW a).length = a.length) : a.Nodup :=
  nodup_of_len (slc_nodup (sortW_spec a).1) (fun x hx => ((sortW_spec a).2.1 x).1 hx) (fun x hx => ((sortW_spec a).2.1 x).2 hx) (by omega)
abbrev pick2 (a b : List (List UInt8)) (k : List UInt8) : List (List UInt8) := (a.zip b).flatMap (fun p => if p.1 = k then [k, p.2] else [])
theorem pick2_at : ∀ (a b : List (List UInt8)), a.Nodup → a.length = b.length → ∀ (i : Nat) (h : i < a.length) (h' : i < b.length), pick2 a b a[i] = [a[i], b[i]]
  | [], _, _, _, i, h, _ => by simp at h
  | x :: xs, [], _, hl, _, _, _ => by simp at hl
  | x :: xs, y :: ys, hn, hl, 0, h, h' => by
    obtain ⟨h1, h2⟩ := List.nodup_cons.1 hn
    simp only [pick2, List.zip_cons_cons, List.flatMap_cons, List.getElem_cons_zero, if_true]
    rw [zip_none xs ys h1]; rfl
  | x :: xs, y :: ys, hn, hl, i + 1, h, h' => by
    obtain ⟨h1, h2⟩ := List.nodup_cons.1 hn
    have hi : i < xs.length := by simpa using h
    have hi' : i < ys.length := by simpa using h'
    have hne : ¬ x = xs[i] := fun e => h1 (e ▸ List.getElem_mem hi)
    simp only [pick2, List.zip_cons_cons, List.flatMap_cons, List.getElem_cons_succ, hne, if_false, List.nil_append]
    exact pick2_at xs ys h2 (by simpa using hl) i hi hi'
theorem mapW_flat (a b : List (List UInt8)) : mapW a b = (sortW a).flatMap (pick2 a b) := rfl
theorem rMap_out3 (a b y : List (List UInt8)) (hn : a.Nodup) (hya : ∀ x ∈ y, x ∈ a) (hab : a.length = b.length) (ha : a.length ≤ 10000000) (hy : y.length ≤ 10000000) (K : List (List UInt8) → Option (List UInt8)) : ∀ (m i n : Nat) (out : List (List UInt8)), i + m = y.length → m < n → out.length + 2 * m ≤ 90000000000 →
    m_ref9_Map_L8 a b y K n out i = K (out ++ (y.drop i).flatMap (pick2 a b)) := by
  have hFU := FU_ge
  intro m
  induction m with
  | zero =>
    intro i n out hi hn ho
    obtain ⟨n, rfl⟩ : ∃ q, n = q + 1 := ⟨n - 1, by omega⟩
    rw [m_ref9_Map_L8, m_ref9_Map_B8, if_neg (by omega), List.drop_eq_nil_of_le (by omega)]; simp
  | succ m ih =>
    intro i n out hi hn' ho
    obtain ⟨n, rfl⟩ : ∃ q, n = q + 1 := ⟨n - 1, by omega⟩
    have h3 : i < y.length := by omega
    rw [m_ref9_Map_L8, m_ref9_Map_B8, if_pos (by omega)]
    simp only [jn_eq]
    have g1 := rMap_in2 a b y hab (by omega) i h3 (fun x6_j420 => m_ref9_Map_L8 a b y K n x6_j420 (i64 ((i : Int) + 1))) a.length 0 FU out (by omega) (by omega) (by omega)
    obtain ⟨j, hj, ej⟩ := List.getElem_of_mem (hya y[i] (List.getElem_mem h3))
    have hlen : (pick2 a b y[i]).length = 2 := by rw [← ej, pick2_at a b hn hab j hj (by omega)]; rfl
    rw [Int.natCast_zero, List.drop_zero] at g1
    rw [g1, i64_succ (by omega), ih (i + 1) n _ (by omega) (by omega) (by rw [List.length_append]; show _ + (pick2 a b y[i]).length + _ ≤ _; omega), List.drop_eq_getElem_cons h3, List.flatMap_cons, List.append_assoc]
theorem rMapX (a b : List (List UInt8)) (ha : a.length ≤ 10000000) (hb : b.length ≤ 1000000000) : m_ref9_Map a b = some (mpW a b) := by
  have hFU := FU_ge
  unfold m_ref9_Map
  simp only [jn_eq]
  by_cases hl : a.length = b.length
  · rw [if_neg (fun h => h (by omega)), rAll a (by omega), bnd1_mk, rAll b (by omega)]
    simp only [bnd1_mk, rSort a (show a.length ≤ 10000000 by omega)]
    cases h1 : a.all vldB with
    | false =>
      rw [mpW_no (by
        rintro ⟨_, h, _⟩
        have : a.all vldB = true := List.all_eq_true.2 (fun x hx => vldB_iff.2 (h x hx))
        rw [h1] at this; cases this)]
      simp
    | true =>
      rw [if_neg (by simp)]
      have hA : ∀ x ∈ a, Vd x := fun x hx => vldB_iff.1 (List.all_eq_true.1 h1 x hx)
      cases h2 : b.all vldB with
      | false =>
        rw [mpW_no (by
          rintro ⟨_, _, h, _⟩
          have : b.all vldB = true := List.all_eq_true.2 (fun x hx => vldB_iff.2 (h x hx))
          rw [h2] at this; cases this)]
        simp
      | true =>
        have hB : ∀ x ∈ b, Vd x := fun x hx => vldB_iff.1 (List.all_eq_true.1 h2 x hx)
        rw [if_neg (by simp)]
        have hlen := (sortW_spec a).2.2
        by_cases hs : (sortW a).length = a.length
        · rw [if_neg (fun h => h (by omega)), mpW_yes ⟨hl, hA, hB, hs⟩]
          have g1 := rMap_out3 a b (sortW a) (nodup_sort hs) (fun x hx => ((sortW_spec a).2.1 x).1 hx) hl ha (by omega) (fun x6_j13 => bnd1 (m_ref9_compound 6 x6_j13) (fun y500 => some y500)) (sortW a).length 0 FU [] (by omega) (by omega) (by simp; omega)
          rw [Int.natCast_zero, List.drop_zero, List.nil_append] at g1
          have := rCompound 6 (by decide) (mapW a b) (fun x hx => (mapW_mem hx).elim (hA x) (hB x))
          rw [show ((6 : UInt8).toNat : Int) = 6 from rfl] at this
          rw [g1, ← mapW_flat, this, bnd1_mk]
        · rw [if_pos (fun h => hs (by omega)), mpW_no (fun h => hs h.2.2.2)]
  · rw [if_pos (fun h => hl (by omega)), if_pos trivial, mpW_no (fun h => hl h.1)]

/-! ### The program's -/
def idx (n : Nat) : List Int := (List.range n).map (fun i : Nat => (i : Int))
theorem vMap_fill (a : List (List UInt8)) (ha : a.length ≤ 1000000000) (K : List Int → Option (List UInt8)) : ∀ (m i n : Nat), i + m = a.length → m < n → m_value_Map_L2 a K n (idx i ++ List.replicate m 0) i = K (idx a.length) := by
  intro m
  induction m with
  | zero =>
    intro i n hi hn
    obtain ⟨n, rfl⟩ : ∃ q, n = q + 1 := ⟨n - 1, by omega⟩
    rw [m_value_Map_L2, m_value_Map_B2, if_neg (by simp; omega), show i = a.length by omega]; simp
  | succ m ih =>
    intro i n hi hn
    obtain ⟨n, rfl⟩ : ∃ q, n = q + 1 := ⟨n - 1, by omega⟩
    have hli : (idx i).length = i := by simp [idx]
    rw [m_value_Map_L2, m_value_Map_B2, if_pos (by simp; omega), need_pos (by simp [hli]; omega), i64_succ (by omega), Int.toNat_natCast, List.set_append_right _ _ (by omega), hli, Nat.sub_self, List.replicate_succ, List.set_cons_zero, ← ih (i + 1) n (by omega) (by omega)]
    congr 1
    unfold idx
    rw [List.range_succ, List.map_append, List.append_assoc]; rfl
theorem vMap_cmp (a : List (List UInt8)) {i k : Int} (h0 : 0 ≤ i ∧ i < a.length) (h1 : 0 ≤ k ∧ k < a.length) : m_value_Map_1 i k a = some (cmpC (gi a i) (gi a k)) := by
  unfold m_value_Map_1
  rw [need_pos h0, need_pos h1, vCompareW, bnd1_mk]
theorem idx_mem {n : Nat} {i : Int} : i ∈ idx n ↔ 0 ≤ i ∧ i < n := by
  unfold idx
  simp only [List.mem_map, List.mem_range]
  constructor
  · rintro ⟨q, hq, rfl⟩; omega
  · rintro ⟨h1, h2⟩; exact ⟨i.toNat, by omega, by omega⟩
theorem vMap_sorted {a : List (List UInt8)} (hn : a.Nodup) (ha : a.length ≤ 1000000000) : ∃ y : List Int, m_sortbyOn (idx a.length) (fun x0 x1 => m_value_Map_1 x0 x1 a) = some y ∧ (∀ i, i ∈ y ↔ 0 ≤ i ∧ i < a.length) ∧ y.length = a.length ∧ sortW a = y.map (gi a) := by
  have hc : ∀ x y : Int, x ∈ idx a.length → y ∈ idx a.length → m_value_Map_1 x y a = some (cmpC (gi a x) (gi a y)) := fun x y hx hy => vMap_cmp a (idx_mem.1 hx) (idx_mem.1 hy)
  have hlt : ∀ x y : Int, x ∈ idx a.length → y ∈ idx a.length → ltC (fun x0 x1 => m_value_Map_1 x0 x1 a) x y = decide (cmpC (gi a x) (gi a y) < 0) := fun x y hx hy => by
    unfold ltC cfOf
    simp only [hc x y hx hy]; rfl
  have hinj : ∀ x y : Int, x ∈ idx a.length → y ∈ idx a.length → gi a x = gi a y → x = y := fun x y hx hy e => by
    obtain ⟨a1, a2⟩ := idx_mem.1 hx
    obtain ⟨b1, b2⟩ := idx_mem.1 hy
    obtain ⟨p, rfl⟩ : ∃ p : Nat, x = p := ⟨x.toNat, by omega⟩
    obtain ⟨q, rfl⟩ : ∃ q : Nat, y = q := ⟨y.toNat, by omega⟩
    rw [gi_nat (by omega), gi_nat (by omega)] at e
    have hp := List.pairwise_iff_getElem.1 hn
    rcases Nat.lt_trichotomy p q with h | h | h
    · exact absurd e (hp p q (by omega) (by omega) h)
    · rw [h]
    · exact absurd e.symm (hp q p (by omega) (by omega) h)
  have hon : CmpOn (fun x => x ∈ idx a.length) (fun x0 x1 => m_value_Map_1 x0 x1 a) := by
    refine ⟨fun x y hx hy => ⟨_, hc x y hx hy⟩, fun x hx => ?_, fun x y z hx hy hz => ?_, fun x y z hx hy hz => ?_, fun x y hx hy => ?_⟩
    · rw [hlt x x hx hx, cmpC_self]; rfl
    · rw [hlt x y hx hy, hlt y z hy hz, hlt x z hx hz]
      simp only [decide_eq_true_eq]; exact cmpC_trans
    · rw [hlt x y hx hy, hlt y z hy hz, hlt x z hx hz]
      simp only [decide_eq_false_iff_not]
      intro h1 h2 h3
      have a1 := cmpC_anti (gi a x) (gi a y)
      have a2 := cmpC_anti (gi a y) (gi a z)
      by_cases e1 : cmpC (gi a x) (gi a y) = 0
      · rw [cmpC_eq] at e1; rw [e1] at h3; exact h2 h3
      · exact h2 (cmpC_trans (a := gi a y) (b := gi a x) (c := gi a z) (by omega) h3)
    · rw [hlt x y hx hy, hlt y x hy hx]
      simp only [decide_eq_false_iff_not]
      intro h1 h2
      have a1 := cmpC_anti (gi a x) (gi a y)
      exact hinj x y hx hy (cmpC_eq.1 (by omega))
  have hlen : (idx a.length).length = a.length := by simp [idx]
  refine ⟨_, m_sortbyOn_eq (by omega) hon, fun i => ?_, by unfold sortC; rw [List.length_mergeSort]; exact hlen, ?_⟩
  · unfold sortC; rw [List.mem_mergeSort]; exact idx_mem
  · -- the indices, sorted by their keys
    let le : Int → Int → Bool := fun x y => !decide (cmpC (gi a y) (gi a x) < 0)
    have e1 : sortC (fun x0 x1 => m_value_Map_1 x0 x1 a) (idx a.length) = (idx a.length).mergeSort le := by
      have := List.map_mergeSort (f := fun x : Int => x) (r := fun x y => !ltC (fun x0 x1 => m_value_Map_1 x0 x1 a) y x) (s := le) (l := idx a.length) (fun x hx y hy => by show (!_) = (!_); rw [hlt y x hy hx])
      simpa [sortC] using this
    have hp := List.pairwise_mergeSort (le := le) (fun x y z h1 h2 => by
      simp only [le, Bool.not_eq_true', decide_eq_false_iff_not] at h1 h2 ⊢
      intro h3
      have a1 := cmpC_anti (gi a y) (gi a x)
      by_cases e1 : cmpC (gi a y) (gi a x) = 0
      · rw [cmpC_eq] at e1; rw [← e1] at h3; exact h2 h3
      · exact h2 (cmpC_trans (a := gi a z) (b := gi a x) (c := gi a y) h3 (by omega))) (fun x y => by
      simp only [le, Bool.or_eq_true, Bool.not_eq_true', decide_eq_false_iff_not]
      have := cmpC_anti (gi a x) (gi a y)
      omega) (idx a.length)
    have hnd : ((idx a.length).mergeSort le).Nodup := by
      refine (List.mergeSort_perm _ _).nodup_iff.2 ?_
      unfold idx
      exact List.pairwise_map.2 (List.nodup_range.imp (fun {p q} h e => h (by omega)))
    rw [e1]
    refine slc_ext (sortW_spec a).1 (List.pairwise_map.2 ((List.pairwise_and_iff.2 ⟨hp, hnd⟩).imp_of_mem (fun {x y} hx hy h => ?_))) (fun z => ?_)
    · obtain ⟨h1, h2⟩ := h
      simp only [le, Bool.not_eq_true', decide_eq_false_iff_not] at h1
      have a1 := cmpC_anti (gi a x) (gi a y)
      by_cases h0 : cmpC (gi a x) (gi a y) = 0
      · exact absurd (hinj x y (List.mem_mergeSort.1 hx) (List.mem_mergeSort.1 hy) (cmpC_eq.1 h0)) h2
      · omega
    · rw [(sortW_spec a).2.1, List.mem_map]
      constructor
      · intro hz
        obtain ⟨j, hj, rfl⟩ := List.getElem_of_mem hz
        exact ⟨j, List.mem_mergeSort.2 (idx_mem.2 ⟨by omega, by omega⟩), gi_nat hj⟩
      · rintro ⟨x, hx, rfl⟩
        obtain ⟨h1, h2⟩ := idx_mem.1 (List.mem_mergeSort.1 hx)
        obtain ⟨p, rfl⟩ : ∃ p : Nat, x = p := ⟨x.toNat, by omega⟩
        rw [gi_nat (by omega)]; exact List.getElem_mem _
theorem vMap_parts (a b : List (List UInt8)) (y : List Int) (hy : ∀ i ∈ y, 0 ≤ i ∧ i < a.length) (hl : a.length = b.length) (hyl : y.length ≤ 10000000000) (K : List (List UInt8) → Option (List UInt8)) : ∀ (m i n : Nat) (out : List (List UInt8)), i + m = y.length → m < n → out.length + 2 * m ≤ 100000000000 →
    m_value_Map_L4 a b y K n out i = K (out ++ (y.drop i).flatMap (fun q => [gi a q, gi b q])) := by
  intro m
  induction m with
  | zero =>
    intro i n out hi hn ho
    obtain ⟨n, rfl⟩ : ∃ q, n = q + 1 := ⟨n - 1, by omega⟩
    rw [m_value_Map_L4, m_value_Map_B4, if_neg (by omega), List.drop_eq_nil_of_le (by omega)]; simp
  | succ m ih =>
    intro i n out hi hn ho
    obtain ⟨n, rfl⟩ : ∃ q, n = q + 1 := ⟨n - 1, by omega⟩
    have h1 : i < y.length := by omega
    obtain ⟨g0, g1⟩ := hy _ (List.getElem_mem h1)
    rw [m_value_Map_L4, m_value_Map_B4, if_pos (by omega), need_pos (by omega), gi_nat h1, need_pos ⟨g0, g1⟩, need_pos ⟨g0, by omega⟩, need_pos (by simp; omega), i64_succ (by omega), ih (i + 1) n _ (by omega) (by omega) (by simp; omega), List.drop_eq_getElem_cons h1, List.flatMap_cons, List.append_assoc]
theorem vMapW (a b : List (List UInt8)) (ha : a.length ≤ 10000000) (hxa : ∀ x ∈ a, x.length ≤ 1099511627776) (hxb : ∀ x ∈ b, x.length ≤ 1099511627776) : m_value_Map a b = some (mpW a b) := by
  have hFU := FU_ge
  unfold m_value_Map
  simp only [jn_eq]
  by_cases hl : a.length = b.length
  · rw [if_neg (fun h => h (by omega)), vSort a (by omega), bnd1_mk]
    by_cases hs : (sortW a).length = a.length
    · have hn := nodup_sort hs
      rw [if_neg (by simp; omega), need_pos (by omega)]
      have h1 := vMap_fill a (by omega) (fun (x5_j11 : List Int) => bnd1 (m_sortbyOn x5_j11 (fun (x0 : Int) (x1 : Int) => m_value_Map_1 x0 x1 a)) (fun y19 => m_value_Map_L4 a b y19 (fun (x7_j20 : List (List UInt8)) => bnd1 (m_value_compound 6 x7_j20) (fun y52 => some y52)) FU [] 0)) a.length 0 FU (by omega) (by omega)
      rw [show idx 0 = [] from rfl, List.nil_append, Int.natCast_zero] at h1
      obtain ⟨y, e1, e2, e3, e4⟩ := vMap_sorted hn (by omega)
      rw [Int.toNat_natCast, h1, e1, bnd1_mk]
      have h2 := vMap_parts a b y (fun i hi => (e2 i).1 hi) hl (by omega) (fun (x7_j20 : List (List UInt8)) => bnd1 (m_value_compound 6 x7_j20) (fun y52 => some y52)) y.length 0 FU [] (by omega) (by omega) (by simp; omega)
      rw [Int.natCast_zero, List.drop_zero, List.nil_append] at h2
      have e5 : y.flatMap (fun q => [gi a q, gi b q]) = mapW a b := by
        rw [mapW_flat, e4, List.flatMap_map]
        refine flatMap_congr' (fun q hq => ?_)
        obtain ⟨q1, q2⟩ := (e2 q).1 hq
        obtain ⟨p, rfl⟩ : ∃ p : Nat, q = p := ⟨q.toNat, by omega⟩
        rw [gi_nat (by omega), gi_nat (by omega), pick2_at a b hn hl p (by omega) (by omega)]
      have hc := vCompound 6 (mapW a b) (fun x hx => (mapW_mem hx).elim (hxa x) (hxb x))
      rw [show ((6 : UInt8).toNat : Int) = 6 from rfl] at hc
      rw [h2, e5, hc, bnd1_mk]
      congr 1
      by_cases hv : (∀ x ∈ a, Vd x) ∧ (∀ x ∈ b, Vd x)
      · rw [mpW_yes ⟨hl, hv.1, hv.2, hs⟩]
      · rw [mpW_no (fun h => hv ⟨h.2.1, h.2.2.1⟩), cmpd_no]
        intro hh
        have hm : ∀ i (h : i < a.length) (h' : i < b.length), a[i] ∈ mapW a b ∧ b[i] ∈ mapW a b := fun i h h' => by
          have hi : a[i] ∈ sortW a := ((sortW_spec a).2.1 _).2 (List.getElem_mem h)
          have hp := pick2_at a b hn hl i h h'
          rw [mapW_flat]
          exact ⟨List.mem_flatMap.2 ⟨_, hi, by rw [hp]; simp⟩, List.mem_flatMap.2 ⟨_, hi, by rw [hp]; simp⟩⟩
        refine hv ⟨fun x hx => ?_, fun x hx => ?_⟩
        · obtain ⟨i, h, rfl⟩ := List.getElem_of_mem hx
          exact hh.2.1 _ (hm i h (by omega)).1
        · obtain ⟨i, h, rfl⟩ := List.getElem_of_mem hx
          exact hh.2.1 _ (hm i (by omega) h).2
    · rw [if_pos (by simp; omega), mpW_no (fun h => hs h.2.2.2)]
  · rw [if_pos (fun h => hl (by omega)), if_pos trivial, mpW_no (fun h => hl h.1)]

/-! ### The other makers -/
end Go.Proofs.YtdbnodliomlilaaGreat
/- Maps: Lookup, HasKey, Update, Delete: program and reference agree. -/
namespace Go.Proofs.YtdbnodliomlilaaGreat
attribute [local irreducible] FU

theorem vFind (a : List (List UInt8)) (k : List UInt8) (ha : a.length ≤ 1000000000) : (k ∉ a ∧ m_finset_find a k = some (-1)) ∨ (∃ (i : Nat) (h : i < a.length), a[i] = k ∧ k ∉ a.take i ∧ m_finset_find a k = some (i : Int)) := by
  have hFU := FU_ge
  unfold m_finset_find
  rw [jn_eq]
  have loop : ∀ (m i n : Nat), i + m = a.length → m < n → k ∉ a.take i → (k ∉ a ∧ m_finset_find_L2 a k (fun _ => some (-1)) n i = some (-1)) ∨ (∃ (j : Nat) (h : j < a.length), a[j] = k ∧ k ∉ a.take j ∧ m_finset_find_L2 a k (fun _ => some (-1)) n i = some (j : Int)) := by
    intro m
    induction m with
    | zero =>
      intro i n hi hn hk
      obtain ⟨n, rfl⟩ : ∃ q, n = q + 1 := ⟨n - 1, by omega⟩
      refine .inl ⟨by rwa [List.take_of_length_le (by omega)] at hk, ?_⟩
      rw [m_finset_find_L2, m_finset_find_B2, if_neg (by omega)]
    | succ m ih =>
      intro i n hi hn hk
      obtain ⟨n, rfl⟩ : ∃ q, n = q + 1 := ⟨n - 1, by omega⟩
      have h1 : i < a.length := by omega
      rw [m_finset_find_L2, m_finset_find_B2, if_pos (by omega), need_pos (by omega), gi_nat h1]
      by_cases he : a[i] = k
      · rw [if_pos he]; exact .inr ⟨i, h1, he, hk, rfl⟩
      · rw [if_neg he, i64_succ (by omega)]
        refine ih (i + 1) n (by omega) (by omega) ?_
        rw [List.take_succ_eq_append_getElem h1, List.mem_append, List.mem_singleton]
        exact fun h => h.elim hk (fun e => he e.symm)
  have := loop a.length 0 FU (by omega) (by omega) (by simp)
  rwa [Int.natCast_zero] at this
theorem oddsW_len : ∀ l : List (List UInt8), (oddsW l).length = l.length / 2
  | [] => by simp [oddsW]
  | [_] => by simp [oddsW]
  | x :: y :: t => by simp only [oddsW, List.length_cons]; rw [oddsW_len t]; omega
theorem oddsW_mem {x : List UInt8} : ∀ {l : List (List UInt8)}, x ∈ oddsW l → x ∈ l
  | [], h => by simp [oddsW] at h
  | [_], h => by simp [oddsW] at h
  | a :: b :: t, h => by
    simp only [oddsW, List.mem_cons] at h
    rcases h with h | h
    · simp [h]
    · simp [oddsW_mem h]
theorem zip_evens : ∀ l : List (List UInt8), l.length % 2 = 0 → zipP (evens l) (oddsW l) = l
  | [], _ => rfl
  | [_], h => by simp at h
  | x :: y :: t, h => by simp only [evens, oddsW, zipP]; rw [zip_evens t (by simp at h; omega)]
theorem zipP_odds : ∀ (a b : List (List UInt8)), a.length = b.length → oddsW (zipP a b) = b
  | [], b, h => by simp at h; simp [zipP, oddsW, List.length_eq_zero_iff.1 h.symm]
  | x :: xs, [], h => by simp at h
  | x :: xs, y :: ys, h => by simp only [zipP, oddsW]; rw [zipP_odds xs ys (by simpa using h)]
/-- A map: its keys, its values. -/
structure IsMapV (u : List UInt8) (A B : List (List UInt8)) : Prop where
  hp : prtW u = zipP A B
  len : A.length = B.length
  small : A.length ≤ 65535
  slc : SLC A
  va : ∀ x ∈ A, IsV 31 x
  vb : ∀ x ∈ B, IsV 31 x
  ev : evens (prtW u) = A
  od : oddsW (prtW u) = B
  fl : (zipP A B).flatten.length + 3 ≤ 131072
  eqr : u = raw 6 (zipP A B)
theorem map_IsMapV {u : List UInt8} (h : kindW u = 6) : IsMapV u (evens (prtW u)) (oddsW (prtW u)) := by
  obtain ⟨p1, p2, p3, p4, p5⟩ := prtW_spec u
  obtain ⟨m1, m2⟩ := map_spec h
  have hV : vldB u = true := by
    cases hv : vldB u with
    | true => rfl
    | false => unfold kindW at h; rw [hv] at h; simp at h
  have hvd := vldB_iff.1 hV
  have hg : gi u 0 = 6 := kind_gi (c := 6) h (by decide)
  obtain ⟨f1, f2⟩ := p5 (by omega) (by omega)
  rw [hg] at f2
  have hz := zip_evens (prtW u) m1
  have h31 : ∀ x ∈ prtW u, IsV 31 x := by
    have hI := hvd.1
    generalize hr : (32 : Nat) = kk at hI
    cases hI with
    | int k b hb => exact absurd hg (by rw [gi_0]; decide)
    | bool k b hb => exact absurd hg (by rw [gi_0]; decide)
    | name k x y => exact absurd hg (by rw [gi_0]; decide)
    | comp k c x y ps hc hn hp hf =>
      have hk : k = 31 := by omega
      subst hk
      have e : prtW (c :: x :: y :: ps.flatten) = ps := by
        unfold prtW; rw [if_pos hV]; exact prt_comp hc hn (fun p hp' => (hp p hp').sh) (by omega)
      rw [e]; exact hp
  have hel := evens_len (prtW u)
  have hol := oddsW_len (prtW u)
  refine ⟨hz.symm, by omega, by omega, m2, fun x hx => h31 x (evens_mem hx), fun x hx => h31 x (oddsW_mem hx), rfl, rfl, ?_, by rw [hz]; exact f2⟩
  rw [hz]
  have := hvd.2
  rw [f2, raw_len] at this
  omega
/-- The map of sorted keys. -/
theorem mp_sorted {A B : List (List UInt8)} (hl : A.length = B.length) (hn : A.length ≤ 32767) (hs : SLC A) (ha : ∀ x ∈ A, IsV 31 x) (hb : ∀ x ∈ B, IsV 31 x) (hf : (zipP A B).flatten.length + 3 ≤ 131072) :
    mpW A B = raw 6 (zipP A B) ∧ IsMapV (raw 6 (zipP A B)) A B ∧ kindW (raw 6 (zipP A B)) = 6 := by
  have hz : ∀ x ∈ zipP A B, IsV 31 x := fun x hx => (zipP_mem hx).elim (ha x) (hb x)
  have hzl := zipP_len A B hl
  have hV : ∀ x ∈ zipP A B, Vd x := fun x hx => ⟨(hz x hx).le (by omega), by have := flat_mem hx; omega⟩
  have hA : ∀ x ∈ A, Vd x := fun x hx => by
    obtain ⟨i, hi, rfl⟩ := List.getElem_of_mem hx
    have h0 : A[i] ∈ evens (zipP A B) := by rw [zipP_evens A B hl]; exact List.getElem_mem hi
    exact hV _ (evens_mem h0)
  have hB : ∀ x ∈ B, Vd x := fun x hx => by
    have h0 : x ∈ oddsW (zipP A B) := by rw [zipP_odds A B hl]; exact hx
    exact hV _ (oddsW_mem h0)
  have hform : formedB 6 (zipP A B) = true := by
    have := SLC_ascB hA hs
    simp [formedB, zipP_evens _ _ hl, this, hzl]
  obtain ⟨c1, c2, c3, c4, c5⟩ := comp_ok (c := 6) (k := 31) (by decide) (by omega) hz (by omega) (by omega) hform
  refine ⟨?_, ⟨c3, hl, by omega, hs, ha, hb, by rw [c3]; exact zipP_evens A B hl, by rw [c3]; exact zipP_odds A B hl, hf, rfl⟩, by rw [c4]; rfl⟩
  rw [mpW_yes ⟨hl, hA, hB, by rw [sortW_id hs]⟩, mapW_sorted hs, c1]
theorem IsMapV.small2 {u : List UInt8} {A B : List (List UInt8)} (h : IsMapV u A B) : A.length ≤ 32767 := by
  have h1 := zipP_len A B h.len
  have h2 := (prtW_spec u).2.1
  rw [h.hp] at h2
  omega
/-- What is left without a key. -/
def delW (A B : List (List UInt8)) (k : List UInt8) : List (List UInt8 × List UInt8) := (A.zip B).filter (fun p => !decide (p.1 = k))
theorem zip_fst : ∀ (A B : List (List UInt8)), A.length = B.length → (A.zip B).map Prod.fst = A
  | [], _, _ => rfl
  | x :: xs, [], h => by simp at h
  | x :: xs, y :: ys, h => by simp only [List.zip_cons_cons, List.map_cons]; rw [zip_fst xs ys (by simpa using h)]
theorem zip_snd : ∀ (A B : List (List UInt8)), A.length = B.length → (A.zip B).map Prod.snd = B
  | [], B, h => by simp at h; simp [List.length_eq_zero_iff.1 h.symm]
  | x :: xs, [], h => by simp at h
  | x :: xs, y :: ys, h => by simp only [List.zip_cons_cons, List.map_cons]; rw [zip_snd xs ys (by simpa using h)]
theorem filter_none {k : List UInt8} {l : List (List UInt8 × List UInt8)} (h : k ∉ l.map Prod.fst) : l.filter (fun p => !decide (p.1 = k)) = l := by
  refine List.filter_eq_self.2 (fun p hp => ?_)
  have : p.1 ≠ k := fun e => h (by rw [← e]; exact List.mem_map.2 ⟨p, hp, rfl⟩)
  simp [this]
theorem del_none {A B : List (List UInt8)} {k : List UInt8} (hl : A.length = B.length) (h : k ∉ A) : delW A B k = A.zip B := filter_none (by rw [zip_fst A B hl]; exact h)
theorem del_at {A B : List (List UInt8)} {k : List UInt8} (hl : A.length = B.length) (hn : A.Nodup) {i : Nat} (hi : i < A.length) (hk : A[i] = k) :
    (delW A B k).map Prod.fst = A.take i ++ A.drop (i + 1) ∧ (delW A B k).map Prod.snd = B.take i ++ B.drop (i + 1) := by
  have hi' : i < B.length := by omega
  have hiz : i < (A.zip B).length := by simp; omega
  have hd : delW A B k = (A.zip B).take i ++ (A.zip B).drop (i + 1) := by
    unfold delW
    have e : A.zip B = (A.zip B).take i ++ (A.zip B)[i] :: (A.zip B).drop (i + 1) := by rw [← List.drop_eq_getElem_cons hiz, List.take_append_drop]
    have hA : A = A.take i ++ A[i] :: A.drop (i + 1) := by rw [← List.drop_eq_getElem_cons hi, List.take_append_drop]
    have hn2 := hn
    rw [hA, hk] at hn2
    have h1 : k ∉ A.take i := fun h => (List.nodup_append.1 hn2).2.2 k h k (by simp) rfl
    have h2 : k ∉ A.drop (i + 1) := (List.nodup_cons.1 (List.nodup_append.1 hn2).2.1).1
    conv => lhs; rw [e]
    rw [List.filter_append, List.filter_cons, if_neg (by rw [List.getElem_zip]; simp [hk]), filter_none (by rw [List.map_take, zip_fst A B hl]; exact h1), filter_none (by rw [List.map_drop, zip_fst A B hl]; exact h2)]
  rw [hd, List.map_append, List.map_append, List.map_take, List.map_drop, List.map_take, List.map_drop, zip_fst A B hl, zip_snd A B hl]
  exact ⟨rfl, rfl⟩
theorem zipP_zip : ∀ l : List (List UInt8 × List UInt8), zipP (l.map Prod.fst) (l.map Prod.snd) = l.flatMap (fun p => [p.1, p.2])
  | [] => rfl
  | p :: l => by simp only [List.map_cons, zipP, List.flatMap_cons]; rw [zipP_zip l]; rfl
theorem flat_sub {l l' : List (List UInt8)} (h : l.Sublist l') : l.flatten.length ≤ l'.flatten.length := by
  induction h with
  | slnil => simp
  | cons a h ih => simp; simp at ih; omega
  | cons_cons a h ih => simp; simp at ih; omega
theorem flatMap_sub {α β : Type} (f : α → List β) {l l' : List α} (h : l.Sublist l') : (l.flatMap f).Sublist (l'.flatMap f) := by
  induction h with
  | slnil => simp
  | cons a h ih => rw [List.flatMap_cons]; exact ih.trans (List.sublist_append_right _ _)
  | cons_cons a h ih => rw [List.flatMap_cons, List.flatMap_cons]; exact (List.Sublist.refl _).append ih
/-- A map without a key. -/
theorem IsMapV.del {u : List UInt8} {A B : List (List UInt8)} (h : IsMapV u A B) (k : List UInt8) :
    mpW ((delW A B k).map Prod.fst) ((delW A B k).map Prod.snd) = raw 6 (zipP ((delW A B k).map Prod.fst) ((delW A B k).map Prod.snd)) ∧
    IsMapV (raw 6 (zipP ((delW A B k).map Prod.fst) ((delW A B k).map Prod.snd))) ((delW A B k).map Prod.fst) ((delW A B k).map Prod.snd) ∧ kindW (raw 6 (zipP ((delW A B k).map Prod.fst) ((delW A B k).map Prod.snd))) = 6 := by
  have hsub : (delW A B k).Sublist (A.zip B) := List.filter_sublist
  have hA : ((delW A B k).map Prod.fst).Sublist A := by have := hsub.map Prod.fst; rwa [zip_fst A B h.len] at this
  have hB : ((delW A B k).map Prod.snd).Sublist B := by have := hsub.map Prod.snd; rwa [zip_snd A B h.len] at this
  have hsm := h.small2
  have hAl := hA.length_le
  refine mp_sorted (by simp) (by omega) (h.slc.sublist hA) (fun x hx => h.va x (hA.subset hx)) (fun x hx => h.vb x (hB.subset hx)) ?_
  have h1 := flat_sub (flatMap_sub (fun p : List UInt8 × List UInt8 => [p.1, p.2]) hsub)
  rw [← zipP_zip, ← zipP_zip (A.zip B), zip_fst A B h.len, zip_snd A B h.len] at h1
  have := h.fl
  omega
theorem vWithout {u : List UInt8} {A B : List (List UInt8)} (h : IsMapV u A B) (k : List UInt8) : m_finset_without A B k = some ((delW A B k).map Prod.fst, (delW A B k).map Prod.snd) := by
  have hsm := h.small
  have hl := h.len
  unfold m_finset_without
  simp only [jn_eq]
  rcases vFind A k (by omega) with ⟨hk, e⟩ | ⟨i, hi, hk, _, e⟩
  · rw [e, bnd1_mk, if_neg (by omega), del_none hl hk, zip_fst A B hl, zip_snd A B hl]
  · rw [e, bnd1_mk, if_pos (by omega), i64_succ (by omega), need_pos (by omega), need_pos (by omega), need_pos (by omega), need_pos (by omega), need_pos (by omega), need_pos (by omega)]
    obtain ⟨d1, d2⟩ := del_at hl (slc_nodup h.slc) hi hk
    rw [d1, d2]
    simp only [Int.toNat_natCast]
    rw [List.take_of_length_le (l := A.drop (i + 1)) (by simp), List.take_of_length_le (l := B.drop (i + 1)) (by simp)]
noncomputable def dlW (u k : List UInt8) : List UInt8 × Int :=
  if kindW u = 6 ∧ vldB k = true then (if 4096 < (delW (evens (prtW u)) (oddsW (prtW u)) k).length then ([], 9) else (raw 6 (zipP ((delW (evens (prtW u)) (oddsW (prtW u)) k).map Prod.fst) ((delW (evens (prtW u)) (oddsW (prtW u)) k).map Prod.snd)), 0)) else ([], 6)
theorem del_bound {u : List UInt8} {A B : List (List UInt8)} (h : IsMapV u A B) (k : List UInt8) : (delW A B k).length ≤ 32767 := by
  have hsub : (delW A B k).Sublist (A.zip B) := List.filter_sublist
  have h1 := hsub.length_le
  have h2 := h.small2
  simp at h1; omega
theorem IsMapV.vd {u : List UInt8} {A B : List (List UInt8)} (h : IsMapV u A B) : (∀ x ∈ A, Vd x) ∧ ∀ x ∈ B, Vd x := by
  have h1 := (prtW_spec u).1
  exact ⟨fun x hx => h1 x (evens_mem (by rw [h.ev]; exact hx)), fun x hx => h1 x (oddsW_mem (by rw [h.od]; exact hx))⟩
theorem del_vd {u : List UInt8} {A B : List (List UInt8)} (h : IsMapV u A B) (k : List UInt8) : (∀ x ∈ (delW A B k).map Prod.fst, x.length ≤ 1099511627776) ∧ ∀ x ∈ (delW A B k).map Prod.snd, x.length ≤ 1099511627776 := by
  have hsub : (delW A B k).Sublist (A.zip B) := List.filter_sublist
  have hA : ((delW A B k).map Prod.fst).Sublist A := by have := hsub.map Prod.fst; rwa [zip_fst A B h.len] at this
  have hB : ((delW A B k).map Prod.snd).Sublist B := by have := hsub.map Prod.snd; rwa [zip_snd A B h.len] at this
  exact ⟨fun x hx => by have := (h.vd.1 x (hA.subset hx)).2; omega, fun x hx => by have := (h.vd.2 x (hB.subset hx)).2; omega⟩
theorem vDelete (u k : List UInt8) : m_finset_Delete u k = some (dlW u k) := by
  unfold m_finset_Delete dlW
  rw [vPairs, bnd1_mk, jn_eq]
  by_cases h6 : kindW u = 6
  · rw [if_pos h6]
    have hM := map_IsMapV h6
    simp only []
    rw [if_neg (fun h => h trivial), vValid, bnd1_mk]
    cases hv : vldB k with
    | false => simp
    | true =>
      have hb := del_bound hM k
      obtain ⟨d1, d2, d3⟩ := hM.del k
      obtain ⟨v1, v2⟩ := del_vd hM k
      rw [if_neg (by simp), if_pos ⟨h6, rfl⟩, vWithout hM k, bnd1_mk]
      simp only []
      rw [vMapW _ _ (by simp; omega) v1 v2, bnd1_mk, d1, vSized, bnd1_mk]
      congr 1
      by_cases h4 : 4096 < (delW (evens (prtW u)) (oddsW (prtW u)) k).length
      · rw [if_pos (.inl (by simpa using h4)), if_pos h4]
      · rw [if_neg (by rintro (h | h); exact h4 (by simpa using h); simp [raw] at h), if_neg h4]
  · rw [if_neg h6]
    simp only []
    rw [if_pos (by omega), if_pos trivial, if_neg (fun h => h6 h.1)]
noncomputable def upW (u k v : List UInt8) : List UInt8 × Int :=
  if kindW u = 6 ∧ vldB k = true ∧ vldB v = true then (if 4096 < (delW (evens (prtW u)) (oddsW (prtW u)) k).length + 1 ∨ mpW ((delW (evens (prtW u)) (oddsW (prtW u)) k).map Prod.fst ++ [k]) ((delW (evens (prtW u)) (oddsW (prtW u)) k).map Prod.snd ++ [v]) = [] then ([], 9) else (mpW ((delW (evens (prtW u)) (oddsW (prtW u)) k).map Prod.fst ++ [k]) ((delW (evens (prtW u)) (oddsW (prtW u)) k).map Prod.snd ++ [v]), 0)) else ([], 6)
theorem vUpdate (u k v : List UInt8) : m_finset_Update u k v = some (upW u k v) := by
  unfold m_finset_Update upW
  rw [vPairs, bnd1_mk, jn_eq]
  by_cases h6 : kindW u = 6
  · rw [if_pos h6]
    have hM := map_IsMapV h6
    simp only []
    rw [if_neg (fun h => h trivial), vValid, bnd1_mk]
    cases hk : vldB k with
    | false => simp
    | true =>
      rw [if_neg (by simp), vValid, bnd1_mk]
      cases hv : vldB v with
      | false => simp
      | true =>
        have hb := del_bound hM k
        obtain ⟨v1, v2⟩ := del_vd hM k
        have kl := (vldB_iff.1 hk).2
        have vl := (vldB_iff.1 hv).2
        rw [if_neg (by simp), if_pos ⟨h6, rfl, rfl⟩, vWithout hM k, bnd1_mk]
        simp only []
        rw [need_pos (by simp; omega), need_pos (by simp; omega), vMapW _ _ (by simp; omega) (fun x hx => by
          rcases List.mem_append.1 hx with hx | hx
          · exact v1 x hx
          · rw [List.mem_singleton.1 hx]; omega) (fun x hx => by
          rcases List.mem_append.1 hx with hx | hx
          · exact v2 x hx
          · rw [List.mem_singleton.1 hx]; omega), bnd1_mk, vSized, bnd1_mk]
        simp only [List.length_append, List.length_map, List.length_singleton]
  · rw [if_neg h6]
    simp only []
    rw [if_pos (by omega), if_pos trivial, if_neg (fun h => h6 h.1)]
/-! ### The law -/
theorem gs_newM {c : List Int} (hc : c.length ≤ maxLen ∧ ∀ x ∈ c, (Lit.int .i64 x).wf = true) : GS c 0 := ⟨by omega, by omega, by have := hc.1; unfold maxLen at this; omega⟩
end Go.Proofs.YtdbnodliomlilaaGreat
/- The laws of maps: Lookup, Update, Delete. -/
namespace Go.Proofs.YtdbnodliomlilaaGreat
attribute [local irreducible] FU

/-- The keys that are in use, of eight. -/
def Jw (w : Nat → List UInt8) : List Nat := (List.range 8).filter (fun j => !decide (w j = []))
noncomputable def kOf (w : Nat → List UInt8) : List (List UInt8) := (Jw w).map (fun j : Nat => intW (j : Int))
def vOf (w : Nat → List UInt8) : List (List UInt8) := (Jw w).map w
noncomputable def mOf (w : Nat → List UInt8) : List UInt8 := raw 6 (zipP (kOf w) (vOf w))
theorem Jw_mem {w : Nat → List UInt8} {j : Nat} : j ∈ Jw w ↔ j < 8 ∧ w j ≠ [] := by
  unfold Jw; rw [List.mem_filter, List.mem_range]; simp
theorem Jw_len (w : Nat → List UInt8) : (Jw w).length ≤ 8 := Nat.le_trans (List.length_filter_le _ _) (by simp)
theorem Jw_congr {w w' : Nat → List UInt8} (h : ∀ j < 8, w j = w' j) : Jw w = Jw w' := by
  unfold Jw
  exact List.filter_congr (fun j hj => by rw [h j (List.mem_range.1 hj)])
theorem mOf_congr {w w' : Nat → List UInt8} (h : ∀ j < 8, w j = w' j) : mOf w = mOf w' := by
  unfold mOf kOf vOf
  rw [Jw_congr h, show (Jw w').map w = (Jw w').map w' from List.map_congr_left (fun j hj => h j (Jw_mem.1 hj).1)]
theorem int_eq {i j : Nat} (hi : i < 8) (hj : j < 8) : intW (i : Int) = intW (j : Int) ↔ i = j :=
  ⟨fun h => by have := intW_inj (a := (i : Int)) (b := (j : Int)) (by omega) (by omega) h; omega, fun h => by rw [h]⟩
def OKW (w : Nat → List UInt8) : Prop := ∀ j < 8, w j = [] ∨ PV 1 9 (w j)
theorem kOf_slc (w : Nat → List UInt8) : SLC (kOf w) := by
  unfold kOf
  refine List.pairwise_map.2 (((List.pairwise_lt_range (n := 8)).filter (fun j => !decide (w j = []))).imp_of_mem (fun {i j} hi hj h => ?_))
  have h1 : i < 8 := List.mem_range.1 (List.mem_filter.1 hi).1
  have h2 : j < 8 := List.mem_range.1 (List.mem_filter.1 hj).1
  rw [cmpC_int (by omega) (by omega)]
  unfold sgn
  split
  · omega
  · split <;> omega
theorem mOf_map {w : Nat → List UInt8} (h : OKW w) : mpW (kOf w) (vOf w) = mOf w ∧ IsMapV (mOf w) (kOf w) (vOf w) ∧ kindW (mOf w) = 6 := by
  have hl := Jw_len w
  have hv : ∀ x ∈ vOf w, PV 1 9 x := fun x hx => by
    obtain ⟨j, hj, rfl⟩ := List.mem_map.1 hx
    obtain ⟨h1, h2⟩ := Jw_mem.1 hj
    exact (h j h1).resolve_left h2
  have hk : ∀ x ∈ kOf w, PV 1 9 x := fun x hx => by
    obtain ⟨j, hj, rfl⟩ := List.mem_map.1 hx
    exact ⟨intW_IsV _ 0, by rw [intW_len]; omega⟩
  have hlen : (kOf w).length = (vOf w).length := by simp [kOf, vOf]
  have hkl : (kOf w).length = (Jw w).length := by simp [kOf]
  have hz := zipP_len _ _ hlen
  have hf := flat_le (l := zipP (kOf w) (vOf w)) (c := 9) (fun x hx => (zipP_mem hx).elim (fun h => (hk x h).2) (fun h => (hv x h).2))
  exact mp_sorted hlen (by omega) (kOf_slc w) (fun x hx => (hk x hx).1.le (by omega)) (fun x hx => (hv x hx).1.le (by omega)) (by omega)
theorem zip_maps {α β γ : Type} (f : α → β) (g : α → γ) : ∀ l : List α, (l.map f).zip (l.map g) = l.map (fun x => (f x, g x))
  | [] => rfl
  | x :: l => by simp only [List.map_cons, List.zip_cons_cons]; rw [zip_maps f g l]
theorem del_of {w : Nat → List UInt8} {k : Nat} (hk : k < 8) : delW (kOf w) (vOf w) (intW k) = ((Jw w).filter (fun j => !decide (j = k))).map (fun j : Nat => (intW (j : Int), w j)) := by
  unfold delW kOf vOf
  rw [zip_maps, List.filter_map]
  congr 1
  refine List.filter_congr (fun j hj => ?_)
  show (!decide (intW (j : Int) = intW (k : Int))) = _
  by_cases e : j = k
  · subst e; simp
  · rw [decide_eq_false (fun h => e ((int_eq (Jw_mem.1 hj).1 hk).1 h)), decide_eq_false e]
def updF (w : Nat → List UInt8) (k : Nat) (v : List UInt8) (j : Nat) : List UInt8 := if j = k then v else w j
theorem PV.ne {v : List UInt8} {k c : Nat} (h : PV k c v) (hc : c ≤ 131072) (hk : k ≤ 32) : v ≠ [] := (show Vd v from ⟨h.1.le hk, Nat.le_trans h.2 hc⟩).ne
theorem PV.vd {v : List UInt8} {k c : Nat} (h : PV k c v) (hc : c ≤ 131072) (hk : k ≤ 32) : Vd v := ⟨h.1.le hk, Nat.le_trans h.2 hc⟩
theorem updF_OK {w : Nat → List UInt8} (h : OKW w) {k : Nat} {v : List UInt8} (hv : PV 1 9 v) : OKW (updF w k v) := fun j hj => by
  unfold updF
  split
  · exact .inr hv
  · exact h j hj
theorem pick2_mem {a b : List (List UInt8)} (hn : a.Nodup) (hl : a.length = b.length) {x y : List UInt8} (h : (x, y) ∈ a.zip b) : pick2 a b x = [x, y] := by
  obtain ⟨i, hi, e⟩ := List.getElem_of_mem h
  have h1 : i < a.length := by simp at hi; omega
  have h2 : i < b.length := by omega
  rw [List.getElem_zip] at e
  injection e with e1 e2
  have := pick2_at a b hn hl i h1 h2
  rw [e1, e2] at this
  exact this
theorem upd_of {w : Nat → List UInt8} (h : OKW w) {k : Nat} (hk : k < 8) {v : List UInt8} (hv : PV 1 9 v) : upW (mOf w) (intW k) v = (mOf (updF w k v), 0) := by
  obtain ⟨_, hM, h6⟩ := mOf_map h
  obtain ⟨u1, hM', _⟩ := mOf_map (updF_OK (k := k) h hv)
  have hkv : vldB (intW (k : Int)) = true := vldB_iff.2 ⟨(intW_IsV _ 0).le (by omega), by rw [intW_len]; omega⟩
  have hvv : vldB v = true := vldB_iff.2 (hv.vd (by omega) (by omega))
  unfold upW
  rw [if_pos ⟨h6, hkv, hvv⟩, hM.ev, hM.od, del_of hk]
  have hJl := Jw_len w
  have hFl : ((Jw w).filter (fun j => !decide (j = k))).length ≤ 8 := Nat.le_trans (List.length_filter_le _ _) hJl
  generalize hJ : (Jw w).filter (fun j => !decide (j = k)) = J at hFl
  have hJm : ∀ j, j ∈ J ↔ (j < 8 ∧ w j ≠ []) ∧ j ≠ k := fun j => by rw [← hJ, List.mem_filter, Jw_mem]; simp
  have ea : (J.map (fun j : Nat => (intW (j : Int), w j))).map Prod.fst = J.map (fun j : Nat => intW (j : Int)) := by rw [List.map_map]; rfl
  have eb : (J.map (fun j : Nat => (intW (j : Int), w j))).map Prod.snd = J.map w := by rw [List.map_map]; rfl
  rw [ea, eb]
  have hJn : J.Nodup := by rw [← hJ]; exact (List.nodup_range.filter _).filter _
  -- the new keys and values
  have hn : (J.map (fun j : Nat => intW (j : Int)) ++ [intW (k : Int)]).Nodup := by
    refine List.nodup_append.2 ⟨List.pairwise_map.2 (hJn.imp_of_mem (fun {i j} hi hj hne e => hne ((int_eq ((hJm i).1 hi).1.1 ((hJm j).1 hj).1.1).1 e))), by simp, fun x hx y hy e => ?_⟩
    obtain ⟨j, hj, rfl⟩ := List.mem_map.1 hx
    rw [List.mem_singleton.1 hy] at e
    exact ((hJm j).1 hj).2 ((int_eq ((hJm j).1 hj).1.1 hk).1 e)
  have hl : (J.map (fun j : Nat => intW (j : Int)) ++ [intW (k : Int)]).length = (J.map w ++ [v]).length := by simp
  have hz : (J.map (fun j : Nat => intW (j : Int)) ++ [intW (k : Int)]).zip (J.map w ++ [v]) = J.map (fun j : Nat => (intW (j : Int), w j)) ++ [(intW (k : Int), v)] := by
    rw [List.zip_append (by simp), zip_maps]; rfl
  have hsort : sortW (J.map (fun j : Nat => intW (j : Int)) ++ [intW (k : Int)]) = kOf (updF w k v) := by
    refine slc_ext (sortW_spec _).1 (kOf_slc _) (fun x => ?_)
    rw [(sortW_spec _).2.1, List.mem_append, List.mem_singleton]
    unfold kOf
    rw [List.mem_map, List.mem_map]
    constructor
    · rintro (⟨j, hj, rfl⟩ | rfl)
      · obtain ⟨⟨h1, h2⟩, h3⟩ := (hJm j).1 hj
        exact ⟨j, Jw_mem.2 ⟨h1, by unfold updF; rw [if_neg h3]; exact h2⟩, rfl⟩
      · exact ⟨k, Jw_mem.2 ⟨hk, by unfold updF; rw [if_pos rfl]; exact hv.ne (by omega) (by omega)⟩, rfl⟩
    · rintro ⟨j, hj, rfl⟩
      obtain ⟨h1, h2⟩ := Jw_mem.1 hj
      by_cases he : j = k
      · exact .inr (by rw [he])
      · refine .inl ⟨j, (hJm j).2 ⟨⟨h1, ?_⟩, he⟩, rfl⟩
        unfold updF at h2; rwa [if_neg he] at h2
  have hmap : mapW (J.map (fun j : Nat => intW (j : Int)) ++ [intW (k : Int)]) (J.map w ++ [v]) = zipP (kOf (updF w k v)) (vOf (updF w k v)) := by
    rw [mapW_flat, hsort]
    have e1 : zipP (kOf (updF w k v)) (vOf (updF w k v)) = (Jw (updF w k v)).flatMap (fun j : Nat => [intW (j : Int), updF w k v j]) := by
      have := zipP_zip ((Jw (updF w k v)).map (fun j : Nat => (intW (j : Int), updF w k v j)))
      rw [List.map_map, List.map_map, List.flatMap_map] at this
      exact this
    rw [e1]
    unfold kOf
    rw [List.flatMap_map]
    refine flatMap_congr' (fun j hj => ?_)
    refine pick2_mem hn hl ?_
    rw [hz, List.mem_append]
    obtain ⟨h1, h2⟩ := Jw_mem.1 hj
    by_cases he : j = k
    · subst he; unfold updF; rw [if_pos rfl]; exact .inr (by simp)
    · refine .inl (List.mem_map.2 ⟨j, (hJm j).2 ⟨⟨h1, ?_⟩, he⟩, ?_⟩)
      · unfold updF at h2; rwa [if_neg he] at h2
      · unfold updF; rw [if_neg he]
  have hmp : mpW (J.map (fun j : Nat => intW (j : Int)) ++ [intW (k : Int)]) (J.map w ++ [v]) = mOf (updF w k v) := by
    rw [mpW_yes ⟨hl, fun x hx => ?_, fun x hx => ?_, sort_nodup hn⟩, hmap]
    · rw [← u1, mpW_yes ⟨hM'.len, hM'.vd.1, hM'.vd.2, by rw [sortW_id (kOf_slc _)]⟩, mapW_sorted (kOf_slc _)]
    · rcases List.mem_append.1 hx with hx | hx
      · obtain ⟨j, hj, rfl⟩ := List.mem_map.1 hx
        exact ⟨(intW_IsV _ 0).le (by omega), by rw [intW_len]; omega⟩
      · rw [List.mem_singleton.1 hx]; exact vldB_iff.1 hkv
    · rcases List.mem_append.1 hx with hx | hx
      · obtain ⟨j, hj, rfl⟩ := List.mem_map.1 hx
        obtain ⟨⟨h1, h2⟩, _⟩ := (hJm j).1 hj
        exact ((h j h1).resolve_left h2).vd (by omega) (by omega)
      · rw [List.mem_singleton.1 hx]; exact vldB_iff.1 hvv
  rw [hmp, if_neg]
  rintro (h1 | h1)
  · simp at h1; omega
  · simp [mOf, raw] at h1
theorem del_upd {w : Nat → List UInt8} (h : OKW w) {k : Nat} (hk : k < 8) {v : List UInt8} (hv : PV 1 9 v) (h0 : w k = []) : dlW (mOf (updF w k v)) (intW k) = (mOf w, 0) := by
  obtain ⟨_, hM, h6⟩ := mOf_map (updF_OK (k := k) h hv)
  have hkv : vldB (intW (k : Int)) = true := vldB_iff.2 ⟨(intW_IsV _ 0).le (by omega), by rw [intW_len]; omega⟩
  unfold dlW
  rw [if_pos ⟨h6, hkv⟩, hM.ev, hM.od, del_of hk]
  have hJ : (Jw (updF w k v)).filter (fun j => !decide (j = k)) = Jw w := by
    unfold Jw
    rw [List.filter_filter]
    refine List.filter_congr (fun j hj => ?_)
    unfold updF
    by_cases he : j = k
    · subst he; rw [if_pos rfl]; simp [h0]
    · rw [if_neg he]; simp [he]
  have hJl := Jw_len w
  rw [hJ, if_neg (by simp; omega), List.map_map, List.map_map]
  congr 1
  unfold mOf kOf vOf
  congr 2
  refine List.map_congr_left (fun j hj => ?_)
  show updF w k v j = w j
  unfold updF
  rw [if_neg (fun e : j = k => (Jw_mem.1 hj).2 (by rw [e]; exact h0))]
theorem vLookM {u : List UInt8} {A B : List (List UInt8)} (hM : IsMapV u A B) (h6 : kindW u = 6) {k : List UInt8} (hv : vldB k = true) :
    (k ∉ A ∧ m_finset_Lookup u k = some ([], 12) ∧ m_finset_HasKey u k = some (false, 0)) ∨ (∃ (i : Nat) (h : i < A.length) (h' : i < B.length), A[i] = k ∧ m_finset_Lookup u k = some (B[i], 0) ∧ m_finset_HasKey u k = some (true, 0)) := by
  have hsm := hM.small
  have hlen := hM.len
  unfold m_finset_Lookup m_finset_HasKey
  rw [vPairs, if_pos h6, hM.ev, hM.od]
  simp only [bnd1_mk, jn_eq, not_true_eq_false, if_false, vValid, hv, Bool.not_true, Bool.false_eq_true]
  rcases vFind A k (by omega) with ⟨hk, e⟩ | ⟨i, hi, hk, hk2, e⟩
  · refine .inl ⟨hk, ?_, ?_⟩
    · rw [e, bnd1_mk, if_pos (by omega)]
    · rw [e, bnd1_mk]; rfl
  · refine .inr ⟨i, hi, by omega, hk, ?_, ?_⟩
    · rw [e, bnd1_mk, if_neg (by omega), need_pos (by omega), gi_nat (by omega)]
    · rw [e, bnd1_mk, decide_eq_true (by omega)]
theorem look_of {w : Nat → List UInt8} (h : OKW w) {k : Nat} (hk : k < 8) : m_finset_Lookup (mOf w) (intW k) = some (w k, if w k = [] then 12 else 0) ∧ m_finset_HasKey (mOf w) (intW k) = some (decide (w k ≠ []), 0) := by
  obtain ⟨_, hM, h6⟩ := mOf_map h
  have hkv : vldB (intW (k : Int)) = true := vldB_iff.2 ⟨(intW_IsV _ 0).le (by omega), by rw [intW_len]; omega⟩
  rcases vLookM hM h6 hkv with ⟨h1, h2, h3⟩ | ⟨i, hi, hi', h1, h2, h3⟩
  · have h0 : w k = [] := Classical.byContradiction fun hne => h1 (List.mem_map.2 ⟨k, Jw_mem.2 ⟨hk, hne⟩, rfl⟩)
    rw [h2, h3, h0]; simp
  · have hij : i < (Jw w).length := by simpa [kOf] using hi
    have e1 : (kOf w)[i] = intW (((Jw w)[i] : Nat) : Int) := by simp [kOf]
    have e2 : (vOf w)[i] = w (Jw w)[i] := by simp [vOf]
    obtain ⟨g1, g2⟩ := Jw_mem.1 (List.getElem_mem hij)
    rw [e1] at h1
    have ek := (int_eq g1 hk).1 h1
    rw [e2, ek] at h2
    rw [ek] at g2
    rw [h2, h3, if_neg g2, decide_eq_true g2]
    exact ⟨rfl, rfl⟩
/-- The eight wanted values, as a function. -/
def wOfL (L : List (List UInt8)) (j : Nat) : List UInt8 := gi L (j : Int)
theorem wOfL_set {L : List (List UInt8)} {k j : Nat} {v : List UInt8} (hL : L.length = 8) (hk : k < 8) (hj : j < 8) : wOfL (L.set k v) j = updF (wOfL L) k v j := by
  show gi (L.set k v) (j : Int) = if j = k then v else gi L (j : Int)
  rw [gi_nat (by simp; omega), gi_nat (by omega), List.getElem_set]
  by_cases h : k = j
  · rw [if_pos h, if_pos h.symm]
  · rw [if_neg h, if_neg (fun e => h e.symm)]
theorem fml_loop (a : List UInt8) (K : List UInt8 → List (List UInt8) → Option Bool) : ∀ (m q n : Nat) (l : List Int) (i : Int) (L : List (List UInt8)), q + m = 30 → m < n → GS l i → L.length = 8 → OKW (wOfL L) →
    ∃ L', m_law10_FinsetMapLaws_L2 a K n l i (mOf (wOfL L)) L q = K (mOf (wOfL L')) L' ∧ L'.length = 8 ∧ OKW (wOfL L') := by
  intro m
  induction m with
  | zero =>
    intro q n l i L hq hn hg hL hw
    obtain ⟨n, rfl⟩ : ∃ q, n = q + 1 := ⟨n - 1, by omega⟩
    refine ⟨L, ?_, hL, hw⟩
    rw [m_law10_FinsetMapLaws_L2, m_law10_FinsetMapLaws_B2]
    simp only [jn_eq]
    by_cases h1 : (q : Int) < (a.length : Int)
    · rw [if_pos h1, if_neg (by simp; omega)]
    · rw [if_neg h1, if_neg (by simp)]
  | succ m ih =>
    intro q n l i L hq hn hg hL hw
    obtain ⟨n, rfl⟩ : ∃ q, n = q + 1 := ⟨n - 1, by omega⟩
    rw [m_law10_FinsetMapLaws_L2, m_law10_FinsetMapLaws_B2]
    simp only [jn_eq]
    by_cases h1 : (q : Int) < (a.length : Int)
    · rw [if_pos h1, if_pos (decide_eq_true (by omega)), need_pos (by omega)]
      generalize hk : (gi a (q : Int) % 8).toNat = k
      have hk8 : k < 8 := by rw [← hk, UInt8.toNat_mod]; exact Nat.mod_lt _ (by decide)
      obtain ⟨v, i1, e1, g1, p1⟩ := gValueP 1 (by omega) l i hg
      have pv : PV 1 9 v := p1
      simp only [] at e1
      rw [show ((1 : Nat) : Int) = 1 from rfl] at e1
      obtain ⟨L', hr, hL', hw'⟩ := ih (q + 1) n l i1 (L.set k v) (by omega) (by omega) g1 (by simp; omega) (fun j hj => by rw [wOfL_set hL hk8 hj]; exact updF_OK hw pv j hj)
      have em : mOf (updF (wOfL L) k v) = mOf (wOfL (L.set k v)) := mOf_congr (fun j hj => (wOfL_set hL hk8 hj).symm)
      refine ⟨L', ?_, hL', hw'⟩
      rw [e1, bnd1_mk, rInt, bnd1_mk]
      simp only []
      rw [vUpdate, upd_of hw hk8 pv, bnd1_mk]
      simp only []
      rw [if_neg (fun h => h trivial), need_pos (by omega), em, Int.toNat_natCast, i64_succ (by omega)]
      by_cases h0 : gi L (k : Int) = []
      · rw [if_pos h0, bnd1_mk, vDelete, ← em, del_upd hw hk8 pv h0, bnd1_mk]
        simp only []
        rw [if_neg (fun h => h trivial), if_neg (by simp), need_pos (by omega), em]
        exact hr
      · rw [if_neg h0, need_pos (by omega)]
        exact hr
    · refine ⟨L, ?_, hL, hw⟩
      rw [if_neg h1, if_neg (by simp)]
theorem fml_look (L : List (List UInt8)) (hL : L.length = 8) (hw : OKW (wOfL L)) (K : Unit → Option Bool) : ∀ (m q n : Nat), q + m = 8 → m < n → m_law10_FinsetMapLaws_L4 (mOf (wOfL L)) L K n q = K () := by
  intro m
  induction m with
  | zero =>
    intro q n hq hn
    obtain ⟨n, rfl⟩ : ∃ q, n = q + 1 := ⟨n - 1, by omega⟩
    rw [m_law10_FinsetMapLaws_L4, m_law10_FinsetMapLaws_B4, if_neg (by omega)]
  | succ m ih =>
    intro q n hq hn
    obtain ⟨n, rfl⟩ : ∃ q, n = q + 1 := ⟨n - 1, by omega⟩
    obtain ⟨h1, h2⟩ := look_of hw (k := q) (by omega)
    have ew : wOfL L q = gi L (q : Int) := rfl
    rw [m_law10_FinsetMapLaws_L4, m_law10_FinsetMapLaws_B4, if_pos (by omega)]
    simp only [rInt, bnd1_mk, h1, h2, jn_eq]
    rw [need_pos (by omega), need_pos (by omega), ew, if_neg (fun h => h rfl)]
    rw [i64_succ (by omega), ih (q + 1) n (by omega) (by omega)]
    by_cases h0 : gi L (q : Int) = []
    · simp [h0]
    · simp [h0]
theorem finsetMapLaws_true (a : List UInt8) (c : List Int) (_ : a.length ≤ maxLen ∧ ∀ x ∈ a, True) (hc : c.length ≤ maxLen ∧ ∀ x ∈ c, (Lit.int .i64 x).wf = true) : m_law10_FinsetMapLaws a c = some true := by
  have hFU := FU_ge
  unfold m_law10_FinsetMapLaws m_gen_New
  have h0 : wOfL (List.replicate 8 ([] : List UInt8)) = fun j => wOfL (List.replicate 8 ([] : List UInt8)) j := rfl
  have hz : ∀ j < 8, wOfL (List.replicate 8 ([] : List UInt8)) j = [] := fun j hj => by
    unfold wOfL; rw [gi_nat (by simp; omega)]; simp only [List.getElem_replicate]
  have hok : OKW (wOfL (List.replicate 8 ([] : List UInt8))) := fun j hj => .inl (hz j hj)
  have hm : m_ref9_Map ([] : List (List UInt8)) ([] : List (List UInt8)) = some (mOf (wOfL (List.replicate 8 ([] : List UInt8)))) := by
    rw [rMapX [] [] (by simp) (by simp), ← (mOf_map hok).1]
    have : Jw (wOfL (List.replicate 8 ([] : List UInt8))) = [] := by
      refine List.eq_nil_iff_forall_not_mem.2 (fun j hj => ?_)
      obtain ⟨g1, g2⟩ := Jw_mem.1 hj
      exact g2 (hz j g1)
    unfold kOf vOf; rw [this]; rfl
  rw [bnd1_mk, hm, bnd1_mk, jn_eq]
  obtain ⟨L', h1, h2, h3⟩ := fml_loop a (fun (x6_j5 : List UInt8) (x7_j5 : List (List UInt8)) => jn (fun (_ : Unit) => bnd1 (m_law10_awake) (fun y315 => some y315)) (fun k199 => m_law10_FinsetMapLaws_L4 x6_j5 x7_j5 k199 FU 0)) 30 0 FU c 0 (List.replicate 8 []) (by omega) (by omega) (gs_newM hc) (by simp) hok
  rw [Int.natCast_zero] at h1
  simp only []
  rw [h1, jn_eq]
  have := fml_look L' h2 h3 (fun _ => bnd1 (m_law10_awake) (fun y315 => some y315)) 8 0 FU (by omega) (by omega)
  rw [Int.natCast_zero] at this
  rw [this, awake_true, bnd1_mk]
end Go.Proofs.YtdbnodliomlilaaGreat
