/- Making values: program and reference agree. -/
import Derived.Test.YtdbnodliomlilaaKG1
import Derived.Test.YtdbnodliomlilaaKG4
namespace Go.Proofs.Ytdbnodliomlilaa
attribute [local irreducible] FU

/-- The bytes of a compound value. -/
def raw (c : UInt8) (l : List (List UInt8)) : List UInt8 := c :: u8i ((l.length / 256 : Nat) : Int) :: u8i ((l.length : Nat) : Int) :: l.flatten
theorem raw_len (c : UInt8) (l : List (List UInt8)) : (raw c l).length = l.flatten.length + 3 := rfl
theorem raw_count {l : List (List UInt8)} (h : l.length ≤ 65535) : l.length = (u8i ((l.length / 256 : Nat) : Int)).toNat * 256 + (u8i ((l.length : Nat) : Int)).toNat := by
  rw [u8i_nat, u8i_nat]; omega
noncomputable def cmpd (c : UInt8) (l : List (List UInt8)) : List UInt8 := by
  classical exact if l.length ≤ 65535 ∧ (∀ x ∈ l, Vd x) ∧ Vd (raw c l) then raw c l else []
theorem cmpd_yes {c : UInt8} {l : List (List UInt8)} (h : l.length ≤ 65535 ∧ (∀ x ∈ l, Vd x) ∧ Vd (raw c l)) : cmpd c l = raw c l := by unfold cmpd; rw [if_pos h]
theorem cmpd_no {c : UInt8} {l : List (List UInt8)} (h : ¬ (l.length ≤ 65535 ∧ (∀ x ∈ l, Vd x) ∧ Vd (raw c l))) : cmpd c l = [] := by unfold cmpd; rw [if_neg h]
theorem prt_raw {c : UInt8} {l : List (List UInt8)} (hc : 3 ≤ c.toNat ∧ c.toNat ≤ 9) (hl : l.length ≤ 65535) (hv : ∀ x ∈ l, Vd x) : prt (raw c l) = l := prt_comp hc (raw_count hl) (fun x h => (hv x h).1.sh) (by omega)
theorem indexFunc_eq (f : List UInt8 → Option Bool) (p : List UInt8 → Bool) (hf : ∀ x, f x = some (p x)) (l : List (List UInt8)) (hl : l.length ≤ 1099511627776) : m_slices_ContainsFunc_L_api_Value_api_Value l f = some (l.any p) := by
  have hFU := FU_ge
  unfold m_slices_ContainsFunc_L_api_Value_api_Value m_slices_IndexFunc_L_api_Value_api_Value
  rw [jn_eq]
  have loop : ∀ (m i n : Nat), i + m = l.length → m < n → ∃ r, m_slices_IndexFunc_L_api_Value_api_Value_L2 l f (fun _ => some (-1)) n i = some r ∧ decide (0 ≤ r) = (l.drop i).any p := by
    intro m
    induction m with
    | zero =>
      intro i n hi hn
      obtain ⟨n, rfl⟩ : ∃ k, n = k + 1 := ⟨n - 1, by omega⟩
      refine ⟨-1, by rw [m_slices_IndexFunc_L_api_Value_api_Value_L2, m_slices_IndexFunc_L_api_Value_api_Value_B2, if_neg (by omega)], ?_⟩
      rw [List.drop_eq_nil_of_le (by omega)]; rfl
    | succ m ih =>
      intro i n hi hn
      obtain ⟨n, rfl⟩ : ∃ k, n = k + 1 := ⟨n - 1, by omega⟩
      have hil : i < l.length := by omega
      rw [m_slices_IndexFunc_L_api_Value_api_Value_L2, m_slices_IndexFunc_L_api_Value_api_Value_B2, if_pos (by omega), need_pos (by omega), gi_nat hil, hf, bnd1_mk, List.drop_eq_getElem_cons hil, List.any_cons]
      cases hp : p l[i] with
      | true => exact ⟨i, rfl, by simp⟩
      | false =>
        rw [if_neg (by simp), i64_succ (by omega)]
        obtain ⟨r, h1, h2⟩ := ih (i + 1) n (by omega) (by omega)
        exact ⟨r, h1, by rw [h2]; simp⟩
  obtain ⟨r, h1, h2⟩ := loop l.length 0 FU (by omega) (by omega)
  rw [Int.natCast_zero] at h1
  rw [h1, bnd1_mk, h2, List.drop_zero]
theorem vChecked (b : List UInt8) : m_value_checked b = some (if vldB b = true then b else []) := by
  unfold m_value_checked
  rw [vValid, bnd1_mk]
  cases vldB b <;> rfl
theorem rChecked (b : List UInt8) : m_ref9_checked b = some (if vldB b = true then b else []) := by
  unfold m_ref9_checked
  rw [rValid, bnd1_mk]
  cases vldB b <;> rfl
theorem vCompound (c : UInt8) (l : List (List UInt8)) (hx : ∀ x ∈ l, x.length ≤ 1099511627776) : m_value_compound (c.toNat : Int) l = some (cmpd c l) := by
  have hFU := FU_ge
  unfold m_value_compound
  by_cases hl : (65535 : Int) < l.length
  · rw [if_pos hl, cmpd_no (fun h => by have := h.1; omega)]
  · rw [if_neg hl, u8i_toNat]
    have e16 : IntKind.u16.wrap (l.length : Int) = (l.length : Int) := by
      unfold IntKind.wrap IntKind.bits IntKind.signed
      simp; omega
    have e8 : Int.fdiv (l.length : Int) (2 ^ min (Int.toNat 8) IntKind.u16.bits) = ((l.length / 256 : Nat) : Int) := by
      rw [show (2 : Int) ^ min (Int.toNat 8) IntKind.u16.bits = 256 from rfl, Int.fdiv_eq_ediv_of_nonneg _ (by omega)]; omega
    unfold m_value_append16
    rw [e16, e8, need_pos (by simp), bnd1_mk, jn_eq]
    have loop : ∀ (K : List UInt8 → Option (List UInt8)) (m i n : Nat) (b : List UInt8), i + m = l.length → m < n → b.length ≤ 131072 →
        ((∀ x ∈ l.drop i, x ≠ []) ∧ b.length + (l.drop i).flatten.length ≤ 131072 ∧ m_value_compound_L2 l K n b i = K (b ++ (l.drop i).flatten)) ∨ (¬ ((∀ x ∈ l.drop i, x ≠ []) ∧ b.length + (l.drop i).flatten.length ≤ 131072) ∧ m_value_compound_L2 l K n b i = some []) := by
      intro K m
      induction m with
      | zero =>
        intro i n b hi hn hb
        obtain ⟨n, rfl⟩ : ∃ k, n = k + 1 := ⟨n - 1, by omega⟩
        rw [List.drop_eq_nil_of_le (by omega)]
        refine .inl ⟨by simp, by simpa using hb, ?_⟩
        rw [m_value_compound_L2, m_value_compound_B2, if_neg (by omega)]; simp
      | succ m ih =>
        intro i n b hi hn hb
        obtain ⟨n, rfl⟩ : ∃ k, n = k + 1 := ⟨n - 1, by omega⟩
        have hil : i < l.length := by omega
        have hxi := hx _ (List.getElem_mem hil)
        rw [m_value_compound_L2, m_value_compound_B2, if_pos (by omega), need_pos (by omega)]
        simp only [jn_eq]
        rw [gi_nat hil, List.drop_eq_getElem_cons hil]
        by_cases he : l[i] = []
        · rw [if_pos he, if_pos trivial]
          exact .inr ⟨fun h => h.1 _ List.mem_cons_self he, rfl⟩
        · have e1 : i64 ((b.length : Int) + (l[i].length : Int)) = ((b.length + l[i].length : Nat) : Int) := by rw [i64_id (by omega)]; omega
          rw [if_neg he, e1]
          by_cases hs : (131072 : Int) < ((b.length + l[i].length : Nat) : Int)
          · rw [if_pos (decide_eq_true hs)]
            exact .inr ⟨fun h => by have := h.2; simp only [List.flatten_cons, List.length_append] at this; omega, rfl⟩
          · rw [if_neg (fun h => hs (of_decide_eq_true h)), need_pos (by omega), i64_succ (by omega)]
            have hlb : (b ++ l[i]).length = b.length + l[i].length := List.length_append
            rcases ih (i + 1) n (b ++ l[i]) (by omega) (by omega) (by omega) with ⟨h1, h2, h3⟩ | ⟨h1, h2⟩
            · refine .inl ⟨fun x h => ?_, ?_, ?_⟩
              · rcases List.mem_cons.1 h with rfl | h
                · exact he
                · exact h1 x h
              · rw [hlb] at h2; simp only [List.flatten_cons, List.length_append]; omega
              · rw [h3, List.append_assoc, List.flatten_cons]
            · refine .inr ⟨fun h => h1 ⟨fun x hx' => h.1 x (List.mem_cons_of_mem _ hx'), ?_⟩, h2⟩
              have := h.2
              simp only [List.flatten_cons, List.length_append] at this
              rw [hlb]; omega
    have hraw : [c] ++ [u8i ((l.length / 256 : Nat) : Int), u8i ((l.length : Nat) : Int)] ++ l.flatten = raw c l := rfl
    rcases loop _ l.length 0 FU ([c] ++ [u8i ((l.length / 256 : Nat) : Int), u8i ((l.length : Nat) : Int)]) (by omega) (by omega) (by simp) with ⟨h1, h2, h3⟩ | ⟨h1, h2⟩
    · rw [Int.natCast_zero, List.drop_zero, hraw] at h3
      rw [List.drop_zero] at h1 h2
      rw [h3, indexFunc_eq m_value_compound_1 (fun x => !vldB x) (fun x => by unfold m_value_compound_1; rw [vValid, bnd1_mk]) l (by omega), bnd1_mk]
      cases hall : l.any (fun x => !vldB x) with
      | true =>
        rw [if_neg (by simp), cmpd_no]
        intro h
        obtain ⟨x, hx, hv⟩ := List.any_eq_true.1 hall
        rw [vldB_iff.2 (h.2.1 x hx)] at hv; cases hv
      | false =>
        have hv : ∀ x ∈ l, Vd x := fun x hx => by
          have := List.any_eq_false.1 hall x hx
          simp at this; exact vldB_iff.1 this
        rw [if_pos (show (!false) = true from rfl), vChecked, bnd1_mk]
        by_cases hr : Vd (raw c l)
        · rw [if_pos (vldB_iff.2 hr), cmpd_yes ⟨by omega, hv, hr⟩]
        · rw [if_neg (fun h => hr (vldB_iff.1 h)), cmpd_no (fun h => hr h.2.2)]
    · rw [Int.natCast_zero] at h2
      rw [h2, cmpd_no]
      intro h
      rw [List.drop_zero] at h1
      refine h1 ⟨fun x hx => (h.2.1 x hx).ne, ?_⟩
      have := h.2.2.2
      rw [raw_len] at this
      simp; simp at this; omega
theorem rCompound (c : UInt8) (hc : 3 ≤ c.toNat ∧ c.toNat ≤ 9) (l : List (List UInt8)) (hv : ∀ x ∈ l, Vd x) : m_ref9_compound (c.toNat : Int) l = some (cmpd c l) := by
  have hFU := FU_ge
  unfold m_ref9_compound
  by_cases hl : (65535 : Int) < l.length
  · rw [if_pos hl, cmpd_no (fun h => by have := h.1; omega)]
  · rw [if_neg hl, u8i_toNat]
    have e8 : Int.fdiv (l.length : Int) (2 ^ min (Int.toNat 8) IntKind.i64.bits) = ((l.length / 256 : Nat) : Int) := by
      rw [show (2 : Int) ^ min (Int.toNat 8) IntKind.i64.bits = 256 from rfl, Int.fdiv_eq_ediv_of_nonneg _ (by omega)]; omega
    unfold m_ref9_two
    rw [e8, bnd1_mk, need_pos (by simp), jn_eq]
    have hraw : [c] ++ [u8i ((l.length / 256 : Nat) : Int), u8i ((l.length : Nat) : Int)] ++ l.flatten = raw c l := rfl
    -- what is done with the bytes
    have hK : ∀ s : List UInt8, s.length ≤ 1000000 → (131072 < s.length ∨ s = raw c l) → bnd1 (m_ref9_read s 32) (fun y122 => jn (fun (x59_j123 : Bool) => if x59_j123 then (some ([] : List UInt8)) else (bnd1 (m_ref9_checked s) (fun y124 => some y124))) (fun k123 => if ¬ y122.1 = (List.length s : Int) then (k123 true) else (k123 (decide (¬ (List.length y122.2.1 : Int) = (List.length l : Int)))))) = some (if 131072 < s.length then [] else cmpd c l) := by
      intro s hs hcase
      unfold m_ref9_read m_ref9_walk
      have h := rWalk 32 (Nat.le_refl _) FU (by omega) s (by omega)
      rw [show ((32 : Nat) : Int) = 32 from rfl] at h
      simp only [jn_eq, rChecked, bnd1_mk]
      by_cases hlong : 131072 < s.length
      · rw [if_pos hlong]
        have hno : vldB s = false := vldB_no (fun h => by have := h.2; omega)
        rcases h with ⟨w, r, d, e, hv', h⟩ | ⟨_, h⟩
        · rw [h, bnd1_mk, bnd1_mk, hno]
          simp only []
          split
          · rfl
          · split <;> rfl
        · rw [h, bnd1_mk, bnd1_mk, hno]
          simp only []
          split
          · rfl
          · split <;> rfl
      · have hs' : s = raw c l := hcase.resolve_left hlong
        rw [if_neg hlong]
        rcases h with ⟨w, r, d, e, hv', h⟩ | ⟨hno, h⟩
        · rw [h, bnd1_mk, bnd1_mk]
          simp only []
          by_cases hr : r = []
          · subst hr
            rw [List.append_nil] at e
            subst e
            have hvr : Vd (raw c l) := by rw [← hs']; exact ⟨hv', by omega⟩
            rw [if_neg (fun h => h rfl), hs', prt_raw hc (by omega) hv, if_neg (by simp), if_pos (vldB_iff.2 hvr), cmpd_yes ⟨by omega, hv, hvr⟩]
          · have hlr : 0 < r.length := List.length_pos_iff.2 hr
            rw [if_pos (by rw [e]; simp; omega), if_pos trivial, cmpd_no]
            intro hh
            have := (hv'.sh.uniq hh.2.2.1.sh r [] (by rw [List.append_nil, ← e, hs'])).2
            exact hr this
        · rw [h, bnd1_mk, bnd1_mk]
          simp only []
          have h3 : 3 ≤ s.length := by rw [hs', raw_len]; omega
          rw [if_pos (by omega), if_pos trivial, cmpd_no (fun hh => hno s [] (by simp) (by rw [hs']; exact hh.2.2.1))]
    have loop : ∀ (K : List UInt8 → Option (List UInt8)) (m i n : Nat) (b : List UInt8), i + m = l.length → m < n → b.length ≤ 262144 →
        (∃ s, s.length ≤ 262144 ∧ (131072 < s.length ∨ s = b ++ (l.drop i).flatten) ∧ (b.length ≤ s.length) ∧ (131072 < s.length → 131072 < (b ++ (l.drop i).flatten).length) ∧ m_ref9_compound_L2 l K n b i = K s) ∨ (131072 < (b ++ (l.drop i).flatten).length ∧ m_ref9_compound_L2 l K n b i = some []) := by
      intro K m
      induction m with
      | zero =>
        intro i n b hi hn hb
        obtain ⟨n, rfl⟩ : ∃ k, n = k + 1 := ⟨n - 1, by omega⟩
        rw [List.drop_eq_nil_of_le (by omega)]
        refine .inl ⟨b, hb, .inr (by simp), Nat.le_refl _, fun h => by simpa using h, ?_⟩
        rw [m_ref9_compound_L2, m_ref9_compound_B2, if_neg (by omega)]
      | succ m ih =>
        intro i n b hi hn hb
        obtain ⟨n, rfl⟩ : ∃ k, n = k + 1 := ⟨n - 1, by omega⟩
        have hil : i < l.length := by omega
        have hvi := hv _ (List.getElem_mem hil)
        rw [m_ref9_compound_L2, m_ref9_compound_B2, if_pos (by omega)]
        simp only [jn_eq]
        rw [need_pos (by omega), gi_nat hil, List.drop_eq_getElem_cons hil, if_neg hvi.ne]
        by_cases hs : (131072 : Int) < (b.length : Int)
        · rw [if_pos (decide_eq_true hs)]
          exact .inr ⟨by simp; omega, rfl⟩
        · have hvl := hvi.2
          rw [if_neg (fun h => hs (of_decide_eq_true h)), need_pos (by omega), need_pos (by omega), i64_succ (by omega)]
          have hlb : (b ++ l[i]).length = b.length + l[i].length := List.length_append
          have hap : (b ++ l[i]) ++ (l.drop (i + 1)).flatten = b ++ (l[i] :: l.drop (i + 1)).flatten := by simp only [List.flatten_cons, List.append_assoc]
          rcases ih (i + 1) n (b ++ l[i]) (by omega) (by omega) (by omega) with ⟨s, h1, h2, h3, h4, h5⟩ | ⟨h1, h2⟩
          · rw [hap] at h2 h4
            exact .inl ⟨s, h1, h2, by omega, h4, h5⟩
          · rw [hap] at h1
            exact .inr ⟨h1, h2⟩
    rcases loop _ l.length 0 FU ([c] ++ [u8i ((l.length / 256 : Nat) : Int), u8i ((l.length : Nat) : Int)]) (by omega) (by omega) (by simp) with ⟨s, h1, h2, _, h4, h5⟩ | ⟨h1, h2⟩
    · rw [Int.natCast_zero] at h5
      rw [List.drop_zero, hraw] at h2 h4
      rw [h5, hK s (by omega) h2]
      split
      · rename_i hlong
        have := h4 hlong
        rw [cmpd_no (fun h => by have := h.2.2.2; omega)]
      · rfl
    · rw [Int.natCast_zero] at h2
      rw [List.drop_zero, hraw] at h1
      rw [h2, cmpd_no (fun h => by have := h.2.2.2; omega)]
theorem rAll (l : List (List UInt8)) (hl : l.length ≤ 1099511627776) : m_ref9_all l = some (l.all vldB) := by
  unfold m_ref9_all
  rw [jn_eq]
  have h := loop_all l (by omega) (fun n (_ : Unit) i => m_ref9_all_L2 l (fun _ => some true) n i) (fun s x k => if !vldB x then some false else k s) (fun _ => some true) (fun n s i hi => by
      show m_ref9_all_L2 l _ (n + 1) i = _
      rw [m_ref9_all_L2, m_ref9_all_B2]
      simp (disch := omega) only [if_pos, need_pos, gi_nat, rValid, bnd1_mk, i64_succ]) (fun n s => by
      show m_ref9_all_L2 l _ (n + 1) _ = _
      rw [m_ref9_all_L2, m_ref9_all_B2, if_neg (by omega)]) ()
  refine h.trans ?_
  rw [foldK_any]
  cases h : l.all vldB with
  | true => rw [if_neg]; simp at h ⊢; exact h
  | false => rw [if_pos]; simp at h ⊢; exact h
theorem rMake (c : UInt8) (hc : 3 ≤ c.toNat ∧ c.toNat ≤ 9) (l : List (List UInt8)) (hl : l.length ≤ 1099511627776) : m_ref9_Make (c.toNat : Int) l = some (cmpd c l) := by
  unfold m_ref9_Make
  rw [rAll l hl, bnd1_mk]
  cases h : l.all vldB with
  | true =>
    simp at h
    rw [if_neg (by simp), rCompound c hc l (fun x hx => vldB_iff.1 (h x hx)), bnd1_mk]
  | false =>
    rw [if_pos (show (!false) = true from rfl), cmpd_no]
    intro hh
    simp at h
    obtain ⟨x, hx, hv⟩ := h
    rw [vldB_iff.2 (hh.2.1 x hx)] at hv; cases hv
noncomputable def setW (l : List (List UInt8)) : List UInt8 := cmpd 5 (sortW l)
theorem vSet (l : List (List UInt8)) (hl : l.length ≤ 10000000) (hx : ∀ x ∈ l, x.length ≤ 1099511627776) : m_value_Set l = some (setW l) := by
  unfold m_value_Set setW
  have := vCompound 5 (sortW l) (fun x h => hx x ((sortW_spec l).2.1 x |>.1 h))
  rw [show ((5 : UInt8).toNat : Int) = 5 from rfl] at this
  rw [vSort l (by omega), bnd1_mk, this, bnd1_mk]
theorem rSet (l : List (List UInt8)) (hl : l.length ≤ 10000000) : m_ref9_Set l = some (setW l) := by
  unfold m_ref9_Set setW
  rw [rAll l (by omega), bnd1_mk]
  have hmem := (sortW_spec l).2.1
  cases h : l.all vldB with
  | true =>
    simp at h
    have := rCompound 5 (by decide) (sortW l) (fun x hx => vldB_iff.1 (h x ((hmem x).1 hx)))
    rw [show ((5 : UInt8).toNat : Int) = 5 from rfl] at this
    rw [if_neg (by simp), rSort l hl, bnd1_mk, this, bnd1_mk]
  | false =>
    rw [if_pos (show (!false) = true from rfl), cmpd_no]
    intro hh
    simp at h
    obtain ⟨x, hx, hv⟩ := h
    rw [vldB_iff.2 (hh.2.1 x ((hmem x).2 hx))] at hv; cases hv
end Go.Proofs.Ytdbnodliomlilaa
/- Sets of values: elements, merging, bounded results. -/
namespace Go.Proofs.Ytdbnodliomlilaa
attribute [local irreducible] FU

theorem cmpC_val {a b : List UInt8} (ha : Vd a) (hb : Vd b) : cmpC a b = cmpW a b := by unfold cmpC; rw [if_pos ⟨vldB_iff.2 ha, vldB_iff.2 hb⟩]
theorem ascB_SLC : ∀ {ps : List (List UInt8)}, (∀ p ∈ ps, Vd p) → ascB ps = true → SLC ps
  | [], _, _ => List.Pairwise.nil
  | [x], _, _ => by simp [SLC]
  | x :: y :: t, hv, h => by
    simp only [ascB, Bool.and_eq_true, decide_eq_true_eq] at h
    have ih := ascB_SLC (ps := y :: t) (fun p hp => hv p (List.mem_cons_of_mem _ hp)) h.2
    have hxy : cmpC x y < 0 := by rw [cmpC_val (hv x (by simp)) (hv y (by simp))]; exact h.1
    refine List.pairwise_cons.2 ⟨fun z hz => ?_, ih⟩
    rcases List.mem_cons.1 hz with rfl | hz
    · exact hxy
    · exact cmpC_trans hxy ((List.pairwise_cons.1 ih).1 z hz)
theorem flat_mem {ps : List (List UInt8)} {p : List UInt8} (h : p ∈ ps) : p.length ≤ ps.flatten.length := by
  obtain ⟨a, b, rfl⟩ := List.append_of_mem h
  simp; omega
theorem flatV_len {ps : List (List UInt8)} (h : ∀ p ∈ ps, p ≠ []) : ps.length ≤ ps.flatten.length := by
  induction ps with
  | nil => simp
  | cons p ps ih =>
    have := ih (fun q hq => h q (List.mem_cons_of_mem _ hq))
    have := List.length_pos_iff.2 (h p (by simp))
    simp only [List.flatten_cons, List.length_append, List.length_cons]; omega
/-- What the parts of a value are like. -/
theorem prtW_spec (v : List UInt8) : (∀ x ∈ prtW v, Vd x) ∧ (prtW v).length ≤ 65535 ∧ (prtW v).flatten.length ≤ v.length ∧ (prtW v).flatten.length ≤ 131072 ∧ (3 ≤ kindW v → kindW v ≤ 9 → formedB (gi v 0) (prtW v) = true ∧ v = raw (gi v 0) (prtW v)) := by
  unfold prtW kindW
  cases h0 : vldB v with
  | false => simp
  | true =>
    obtain ⟨hv, hl⟩ := vldB_iff.1 h0
    simp only [if_true]
    cases hv with
    | int k b h => simp [prt, gi_0]
    | bool k b h => simp [prt, gi_0]
    | name k h l => simp [prt, gi_0]
    | comp k c h l ps hc hn hp hf =>
      rw [prt_comp hc hn (fun p hp' => (hp p hp').sh) (by omega), gi_0]
      simp only [List.length_cons] at hl ⊢
      have hh := UInt8.toNat_lt h
      have hh' := UInt8.toNat_lt l
      refine ⟨fun x hx => ⟨(hp x hx).mono, by have := flat_mem hx; omega⟩, by omega, by omega, by omega, fun _ _ => ⟨hf, ?_⟩⟩
      have e1 : u8i ((ps.length / 256 : Nat) : Int) = h := u8_inj (by rw [u8i_nat]; omega)
      have e2 : u8i ((ps.length : Nat) : Int) = l := u8_inj (by rw [u8i_nat]; omega)
      unfold raw
      rw [e1, e2]
noncomputable def isSet (v : List UInt8) : Bool := decide (kindW v = 5)
theorem kind_gi {v : List UInt8} {c : UInt8} (h : kindW v = (c.toNat : Int)) (hc : c ≠ 0) : gi v 0 = c := by
  unfold kindW at h
  split at h
  · exact u8_inj (by omega)
  · exact absurd (u8_inj (a := c) (b := 0) (by rw [show ((0 : UInt8).toNat) = 0 from rfl]; omega)) hc
theorem prtW_SLC {v : List UInt8} (h : isSet v = true) : SLC (prtW v) := by
  have hk : kindW v = 5 := of_decide_eq_true h
  obtain ⟨h1, _, _, _, h3⟩ := prtW_spec v
  have h0 : gi v 0 = 5 := kind_gi (by rw [hk]; rfl) (by decide)
  have := (h3 (by omega) (by omega)).1
  rw [h0] at this
  exact ascB_SLC h1 (by simpa [formedB] using this)
theorem prtW_len (v : List UInt8) : (prtW v).length ≤ v.length :=
  Nat.le_trans (flatV_len (fun p hp => ((prtW_spec v).1 p hp).ne)) (prtW_spec v).2.2.1

/-- All have it, else R. -/
theorem foldK_all {α β ρ : Type} (p : α → Bool) (g : α → β) (R : Option ρ) (K : List β → Option ρ) : ∀ (l : List α) (r : List β), r.length + l.length ≤ 137438953472 →
    foldK (fun r x k => if p x then need (List.length r + 1 ≤ 137438953472) (k (r ++ [g x])) else R) K l r = if l.all p then K (r ++ l.map g) else R
  | [], r, _ => by simp [foldK]
  | x :: xs, r, h => by
    simp only [List.length_cons] at h
    rw [foldK]
    cases hp : p x with
    | true => simp only [if_true]; rw [need_pos (by omega), foldK_all p g R K xs _ (by simp; omega)]; simp [hp]
    | false => simp [hp]
theorem vElements (l : List (List UInt8)) (hl : l.length ≤ 137438953472) : m_finset_elements l = some (if l.all isSet then (l.map prtW, 0) else ([], 6)) := by
  unfold m_finset_elements
  rw [jn_eq]
  have h := loop_all l (by omega) (fun n (s : List (List (List UInt8))) i => m_finset_elements_L2 l (fun x => some (x, 0)) n s i) (fun r x k => if isSet x then need (List.length r + 1 ≤ 137438953472) (k (r ++ [prtW x])) else some ([], 6)) (fun x => some (x, 0)) (fun n s i hi => by
      show m_finset_elements_L2 l _ (n + 1) _ _ = _
      rw [m_finset_elements_L2, m_finset_elements_B2, if_pos (by omega), need_pos (by omega), gi_nat hi, vKind, bnd1_mk]
      by_cases hk : kindW l[i] = 5
      · rw [if_neg (fun h => h hk), vPartsW, bnd1_mk, if_pos (show isSet l[i] = true from decide_eq_true hk), i64_succ (by omega)]; rfl
      · rw [if_pos hk, if_neg (show ¬ isSet l[i] = true from fun h => hk (of_decide_eq_true h))]) (fun n s => by
      show m_finset_elements_L2 l _ (n + 1) _ _ = _
      rw [m_finset_elements_L2, m_finset_elements_B2, if_neg (by omega)]) []
  refine h.trans ?_
  rw [foldK_all _ _ _ _ _ _ (by simp; omega)]
  split <;> simp
theorem rSets (l : List (List UInt8)) (hl : l.length ≤ 137438953472) : m_ref9_sets l = some (l.all isSet) := by
  unfold m_ref9_sets
  rw [jn_eq]
  have h := loop_all l (by omega) (fun n (_ : Unit) i => m_ref9_sets_L2 l (fun _ => some true) n i) (fun s x k => if !isSet x then some false else k s) (fun _ => some true) (fun n s i hi => by
      show m_ref9_sets_L2 l _ (n + 1) _ = _
      rw [m_ref9_sets_L2, m_ref9_sets_B2, if_pos (by omega), need_pos (by omega), gi_nat hi, rKind, bnd1_mk]
      by_cases hk : kindW l[i] = 5
      · rw [if_neg (fun h => h hk), if_neg (by simp [isSet, hk]), i64_succ (by omega)]
      · rw [if_pos hk, if_pos (by simp [isSet, hk])]) (fun n s => by
      show m_ref9_sets_L2 l _ (n + 1) _ = _
      rw [m_ref9_sets_L2, m_ref9_sets_B2, if_neg (by omega)]) ()
  refine h.trans ?_
  rw [foldK_any]
  cases h : l.all isSet with
  | true => rw [if_neg]; simp at h ⊢; exact h
  | false => rw [if_pos]; simp at h ⊢; exact h
/-! ### Results -/
theorem sortW_id {l : List (List UInt8)} (h : SLC l) : sortW l = l := slc_ext (sortW_spec l).1 h (sortW_spec l).2.1
theorem sortW_congr {l l' : List (List UInt8)} (h : ∀ x, x ∈ l ↔ x ∈ l') : sortW l = sortW l' :=
  slc_ext (sortW_spec l).1 (sortW_spec l').1 (fun x => by rw [(sortW_spec l).2.1, (sortW_spec l').2.1, h])
noncomputable def bndW (l : List (List UInt8)) : List UInt8 × Int := if 4096 < (sortW l).length ∨ setW l = [] then ([], 9) else (setW l, 0)
theorem setW_congr {l l' : List (List UInt8)} (h : ∀ x, x ∈ l ↔ x ∈ l') : setW l = setW l' := by unfold setW; rw [sortW_congr h]
theorem bndW_congr {l l' : List (List UInt8)} (h : ∀ x, x ∈ l ↔ x ∈ l') : bndW l = bndW l' := by unfold bndW; rw [sortW_congr h, setW_congr h]
theorem setW_sort (l : List (List UInt8)) : setW (sortW l) = setW l := by unfold setW; rw [sortW_id (sortW_spec l).1]
theorem rBounded (l : List (List UInt8)) (hl : l.length ≤ 10000000) : m_ref9_bounded l = some (bndW l) := by
  unfold m_ref9_bounded bndW
  have := (sortW_spec l).2.2
  rw [rSort l hl, bnd1_mk]
  by_cases h : 4096 < (sortW l).length
  · rw [if_pos (by omega), if_pos (.inl h)]
  · rw [if_neg (by omega), rSet _ (by omega), bnd1_mk, setW_sort]
    by_cases h' : setW l = []
    · rw [if_pos h', if_pos (.inr h')]
    · rw [if_neg h', if_neg (by simp [h, h'])]
theorem vSized (n : Nat) (v : List UInt8) : m_finset_sized n v = some (if 4096 < n ∨ v = [] then ([], 9) else (v, 0)) := by
  unfold m_finset_sized
  simp only [jn_eq]
  by_cases h : 4096 < n
  · rw [if_pos (by omega), if_pos trivial, if_pos (.inl h)]
  · rw [if_neg (by omega)]
    by_cases h' : v = []
    · rw [if_pos (decide_eq_true h'), if_pos (.inr h')]
    · rw [if_neg (fun h => h' (of_decide_eq_true h)), if_neg (by simp [h, h'])]
theorem vSetF (l : List (List UInt8)) (hl : l.length ≤ 10000000) (hx : ∀ x ∈ l, x.length ≤ 1099511627776) (h : SLC l ∨ l.length ≤ 4096) : m_finset_set l = some (bndW l) := by
  unfold m_finset_set bndW
  have hs := (sortW_spec l).2.2
  by_cases hc : 4096 < l.length
  · have : sortW l = l := sortW_id (h.resolve_right (by omega))
    rw [if_pos (by omega), if_pos (.inl (by rw [this]; exact hc))]
  · rw [if_neg (by omega), vSet l hl hx, bnd1_mk, vSized, bnd1_mk]
    have h1 : ¬ 4096 < (sortW l).length := by omega
    by_cases h' : setW l = []
    · rw [if_pos (.inr h'), if_pos (.inr h')]
    · rw [if_neg (by simp [hc, h']), if_neg (by simp [h1, h'])]

/-! ### Merging -/
def MS (F : Bool → Bool → Bool) (A B r : List (List UInt8)) : Prop := SLC r ∧ ∀ y, y ∈ r ↔ F (decide (y ∈ A)) (decide (y ∈ B)) = true ∧ (y ∈ A ∨ y ∈ B)
theorem MS.push {F : Bool → Bool → Bool} {x : List UInt8} {A B r : List (List UInt8)} (fa fb : Bool) (hor : (fa || fb) = true) (hxA : ∀ y ∈ A, cmpC x y < 0) (hxB : ∀ y ∈ B, cmpC x y < 0) (h : MS F A B r) :
    MS F ((if fa then [x] else []) ++ A) ((if fb then [x] else []) ++ B) ((if F fa fb then [x] else []) ++ r) := by
  obtain ⟨hr, hm⟩ := h
  have hA : x ∉ A := fun hh => by have := hxA x hh; rw [cmpC_self] at this; omega
  have hB : x ∉ B := fun hh => by have := hxB x hh; rw [cmpC_self] at this; omega
  refine ⟨?_, fun y => ?_⟩
  · split
    · refine List.pairwise_cons.2 ⟨fun y hy => ?_, hr⟩
      rcases ((hm y).1 hy).2 with h | h
      · exact hxA y h
      · exact hxB y h
    · exact hr
  · by_cases hy : y = x
    · subst hy
      have hnr : y ∉ r := fun hh => by rcases ((hm y).1 hh).2 with h | h; exact hA h; exact hB h
      cases fa <;> cases fb <;> simp_all <;> split <;> simp_all
    · have e1 : (y ∈ (if fa = true then [x] else []) ++ A) ↔ y ∈ A := by cases fa <;> simp [hy]
      have e2 : (y ∈ (if fb = true then [x] else []) ++ B) ↔ y ∈ B := by cases fb <;> simp [hy]
      have e3 : (y ∈ (if F fa fb = true then [x] else []) ++ r) ↔ y ∈ r := by cases F fa fb <;> simp [hy]
      rw [e3, hm]
      simp only [e1, e2]
theorem slc_head {l : List (List UInt8)} (h : SLC l) {i : Nat} (hi : i < l.length) : ∀ y ∈ l.drop (i + 1), cmpC l[i] y < 0 := by
  have h' : SLC (l.drop i) := List.Pairwise.sublist (List.drop_sublist i l) h
  rw [List.drop_eq_getElem_cons hi] at h'
  exact (List.pairwise_cons.1 h').1
theorem vMerge_loop (a b : List (List UInt8)) (f : Bool → Bool → Option Bool) (F : Bool → Bool → Bool) (hf : ∀ p q, f p q = some (F p q)) (ha : SLC a) (hb : SLC b) (la : a.length ≤ 10000000) (lb : b.length ≤ 10000000) :
    ∀ (m i k n : Nat) (out : List (List UInt8)), i ≤ a.length → k ≤ b.length → (a.length - i) + (b.length - k) ≤ m → m < n → out.length + m ≤ 100000000 →
    ∃ r, m_finset_merge_L2 a b f (fun x => some x) n out i k = some (out ++ r) ∧ MS F (a.drop i) (b.drop k) r := by
  intro m
  induction m with
  | zero =>
    intro i k n out hi hk hm hn ho
    obtain ⟨n, rfl⟩ : ∃ q, n = q + 1 := ⟨n - 1, by omega⟩
    refine ⟨[], ?_, ?_⟩
    · rw [m_finset_merge_L2, m_finset_merge_B2]
      simp only [jn_eq]
      rw [if_neg (by omega), if_neg (fun h => by have := of_decide_eq_true h; omega), List.append_nil]
    · rw [List.drop_eq_nil_of_le (by omega), List.drop_eq_nil_of_le (by omega)]
      exact ⟨List.Pairwise.nil, fun y => by simp⟩
  | succ m ih =>
    intro i k n out hi hk hm hn ho
    obtain ⟨n, rfl⟩ : ∃ q, n = q + 1 := ⟨n - 1, by omega⟩
    rw [m_finset_merge_L2, m_finset_merge_B2]
    simp only [jn_eq]
    by_cases hai : i < a.length
    · rw [if_pos (by omega), if_pos trivial, if_neg (by omega)]
      have da := List.drop_eq_getElem_cons hai
      have hA := slc_head ha hai
      by_cases hbk : k < b.length
      · have db := List.drop_eq_getElem_cons hbk
        have hB := slc_head hb hbk
        rw [if_neg (by omega), need_pos (by omega), need_pos (by omega), gi_nat hai, gi_nat hbk, vCompareW, bnd1_mk]
        have anti := cmpC_anti a[i] b[k]
        rcases Int.lt_trichotomy (cmpC a[i] b[k]) 0 with hc | hc | hc
        · rw [if_pos (by omega), need_pos (by omega), i64_succ (by omega), if_neg (by omega), hf, bnd1_mk, decide_eq_true (show cmpC a[i] b[k] ≤ 0 by omega), decide_eq_false (show ¬ 0 ≤ cmpC a[i] b[k] by omega)]
          have hxB : ∀ y ∈ b.drop k, cmpC a[i] y < 0 := by
            rw [db]; intro y hy
            rcases List.mem_cons.1 hy with rfl | hy
            · exact hc
            · exact cmpC_trans hc (hB y hy)
          by_cases hF : F true false = true
          · rw [if_pos hF, need_pos (by simp; omega)]
            obtain ⟨r, h1, h2⟩ := ih (i + 1) k n (out ++ [a[i]]) (by omega) hk (by omega) (by omega) (by simp; omega)
            refine ⟨a[i] :: r, by rw [h1]; simp, ?_⟩
            have := h2.push true false rfl hA hxB
            simpa [hF, ← da] using this
          · rw [if_neg hF]
            obtain ⟨r, h1, h2⟩ := ih (i + 1) k n out (by omega) hk (by omega) (by omega) (by omega)
            refine ⟨r, h1, ?_⟩
            have := h2.push true false rfl hA hxB
            simpa [hF, ← da] using this
        · have he := cmpC_eq.1 hc
          rw [if_pos (by omega), need_pos (by omega), i64_succ (by omega), if_pos (by omega), need_pos (by omega), i64_succ (by omega), hf, bnd1_mk, decide_eq_true (show cmpC a[i] b[k] ≤ 0 by omega), decide_eq_true (show 0 ≤ cmpC a[i] b[k] by omega)]
          have hxB : ∀ y ∈ b.drop (k + 1), cmpC a[i] y < 0 := by rw [he]; exact hB
          by_cases hF : F true true = true
          · rw [if_pos hF, need_pos (by simp; omega)]
            obtain ⟨r, h1, h2⟩ := ih (i + 1) (k + 1) n (out ++ [b[k]]) (by omega) (by omega) (by omega) (by omega) (by simp; omega)
            refine ⟨b[k] :: r, by rw [h1]; simp, ?_⟩
            have := h2.push true true rfl hA hxB
            rw [da, db]
            simpa [hF, ← he] using this
          · rw [if_neg hF]
            obtain ⟨r, h1, h2⟩ := ih (i + 1) (k + 1) n out (by omega) (by omega) (by omega) (by omega) (by omega)
            refine ⟨r, h1, ?_⟩
            have := h2.push true true rfl hA hxB
            rw [da, db]
            simpa [hF, ← he] using this
        · rw [if_neg (by omega), if_pos (by omega), need_pos (by omega), i64_succ (by omega), hf, bnd1_mk, decide_eq_false (show ¬ cmpC a[i] b[k] ≤ 0 by omega), decide_eq_true (show 0 ≤ cmpC a[i] b[k] by omega)]
          have hxA : ∀ y ∈ a.drop i, cmpC b[k] y < 0 := by
            rw [da]; intro y hy
            rcases List.mem_cons.1 hy with rfl | hy
            · omega
            · exact cmpC_trans (show cmpC b[k] a[i] < 0 by omega) (hA y hy)
          by_cases hF : F false true = true
          · rw [if_pos hF, need_pos (by simp; omega)]
            obtain ⟨r, h1, h2⟩ := ih i (k + 1) n (out ++ [b[k]]) hi (by omega) (by omega) (by omega) (by simp; omega)
            refine ⟨b[k] :: r, by rw [h1]; simp, ?_⟩
            have := h2.push false true rfl hxA hB
            simpa [hF, ← db] using this
          · rw [if_neg hF]
            obtain ⟨r, h1, h2⟩ := ih i (k + 1) n out hi (by omega) (by omega) (by omega) (by omega)
            refine ⟨r, h1, ?_⟩
            have := h2.push false true rfl hxA hB
            simpa [hF, ← db] using this
      · have hbn : b.drop k = [] := List.drop_eq_nil_of_le (by omega)
        rw [if_pos (by omega), if_pos (by omega), need_pos (by omega), i64_succ (by omega), if_neg (by omega), hf, bnd1_mk, gi_nat hai, decide_eq_true (show (-1 : Int) ≤ 0 by omega), decide_eq_false (show ¬ (0 : Int) ≤ -1 by omega)]
        by_cases hF : F true false = true
        · rw [if_pos hF, need_pos (by simp; omega)]
          obtain ⟨r, h1, h2⟩ := ih (i + 1) k n (out ++ [a[i]]) (by omega) hk (by omega) (by omega) (by simp; omega)
          refine ⟨a[i] :: r, by rw [h1]; simp, ?_⟩
          have := h2.push true false rfl hA (by rw [hbn]; simp)
          simpa [hF, ← da] using this
        · rw [if_neg hF]
          obtain ⟨r, h1, h2⟩ := ih (i + 1) k n out (by omega) hk (by omega) (by omega) (by omega)
          refine ⟨r, h1, ?_⟩
          have := h2.push true false rfl hA (by rw [hbn]; simp)
          simpa [hF, ← da] using this
    · by_cases hbk : k < b.length
      · have db := List.drop_eq_getElem_cons hbk
        have hB := slc_head hb hbk
        have han : a.drop i = [] := List.drop_eq_nil_of_le (by omega)
        rw [if_neg (by omega), if_pos (decide_eq_true (by omega)), if_pos (by omega), if_neg (by omega), if_pos (by omega), need_pos (by omega), i64_succ (by omega), hf, bnd1_mk, gi_nat hbk, decide_eq_false (show ¬ (1 : Int) ≤ 0 by omega), decide_eq_true (show (0 : Int) ≤ 1 by omega)]
        by_cases hF : F false true = true
        · rw [if_pos hF, need_pos (by simp; omega)]
          obtain ⟨r, h1, h2⟩ := ih i (k + 1) n (out ++ [b[k]]) hi (by omega) (by omega) (by omega) (by simp; omega)
          refine ⟨b[k] :: r, by rw [h1]; simp, ?_⟩
          have := h2.push false true rfl (by rw [han]; simp) hB
          simpa [hF, ← db] using this
        · rw [if_neg hF]
          obtain ⟨r, h1, h2⟩ := ih i (k + 1) n out hi (by omega) (by omega) (by omega) (by omega)
          refine ⟨r, h1, ?_⟩
          have := h2.push false true rfl (by rw [han]; simp) hB
          simpa [hF, ← db] using this
      · rw [if_neg (by omega), if_neg (fun h => by have := of_decide_eq_true h; omega)]
        refine ⟨[], by rw [List.append_nil], ?_⟩
        rw [List.drop_eq_nil_of_le (by omega), List.drop_eq_nil_of_le (by omega)]
        exact ⟨List.Pairwise.nil, fun y => by simp⟩
theorem vMerge (a b : List (List UInt8)) (f : Bool → Bool → Option Bool) (F : Bool → Bool → Bool) (hf : ∀ p q, f p q = some (F p q)) (ha : SLC a) (hb : SLC b) (la : a.length ≤ 10000000) (lb : b.length ≤ 10000000) :
    ∃ r, m_finset_merge a b f = some r ∧ MS F a b r := by
  have hFU := FU_ge
  unfold m_finset_merge
  rw [jn_eq]
  obtain ⟨r, h1, h2⟩ := vMerge_loop a b f F hf ha hb la lb (a.length + b.length) 0 0 FU [] (by omega) (by omega) (by omega) (by omega) (by simp; omega)
  rw [Int.natCast_zero] at h1
  exact ⟨r, by rw [h1]; rfl, by simpa using h2⟩
theorem nodup_len {α : Type} : ∀ {r l : List α}, r.Nodup → (∀ x ∈ r, x ∈ l) → r.length ≤ l.length
  | [], _, _, _ => by simp
  | x :: r, l, hn, hs => by
    obtain ⟨s, t, rfl⟩ := List.append_of_mem (hs x (by simp))
    obtain ⟨h1, h2⟩ := List.nodup_cons.1 hn
    have := nodup_len (r := r) (l := s ++ t) h2 (fun y hy => by
      have h := hs y (List.mem_cons_of_mem _ hy)
      have hne : y ≠ x := fun e => h1 (e ▸ hy)
      simpa [hne] using h)
    simp only [List.length_append, List.length_cons] at this ⊢
    omega
theorem slc_nodup {r : List (List UInt8)} (h : SLC r) : r.Nodup := h.imp (fun {a b} hab he => by subst he; rw [cmpC_self] at hab; omega)
theorem MS.len {F : Bool → Bool → Bool} {A B r : List (List UInt8)} (h : MS F A B r) : r.length ≤ A.length + B.length := by
  have := nodup_len (l := A ++ B) (slc_nodup h.1) (fun x hx => by rcases ((h.2 x).1 hx).2 with h | h <;> simp [h])
  simpa using this
end Go.Proofs.Ytdbnodliomlilaa
/- Operations on sets: program and reference agree. -/
namespace Go.Proofs.Ytdbnodliomlilaa
attribute [local irreducible] FU

end Go.Proofs.Ytdbnodliomlilaa
/- Operations on sets of sets and maps: program and reference agree. -/
namespace Go.Proofs.Ytdbnodliomlilaa
attribute [local irreducible] FU

theorem setW_len (l : List (List UInt8)) : (setW l).length ≤ 131072 := by
  unfold setW cmpd
  split
  · rename_i h; exact h.2.2.2
  · simp
theorem sub_flat : ∀ l : List (List UInt8), ((l.map prtW).flatten).length ≤ l.flatten.length
  | [] => by simp
  | x :: l => by
    have := sub_flat l
    have := prtW_len x
    simp only [List.map_cons, List.flatten_cons, List.length_append]
    omega
theorem vSetsF (a : List UInt8) : m_finset_sets a = some (if isSet a = true ∧ (prtW a).all isSet = true then ((prtW a).map prtW, 0) else ([], 6)) := by
  unfold m_finset_sets
  have hl := (prtW_spec a).2.1
  rw [vElements _ (by simp), bnd1_mk]
  by_cases h : isSet a = true
  · rw [if_pos (show [a].all isSet = true by simp [h]), if_neg (fun h => h rfl), need_pos (by simp), show gi (([a].map prtW, (0 : Int)) : List (List (List UInt8)) × Int).1 0 = prtW a from rfl, vElements _ (by omega), bnd1_mk]
    by_cases h2 : (prtW a).all isSet = true
    · rw [if_pos h2, if_pos ⟨h, h2⟩]
    · rw [if_neg h2, if_neg (fun hh => h2 hh.2)]
  · rw [if_neg (show ¬ [a].all isSet = true by simpa using h), if_pos (by decide), if_neg (fun hh => h hh.1)]
theorem foldK_and {ρ : Type} (K : List (List UInt8) → Option ρ) : ∀ (L : List (List (List UInt8))) (out : List (List UInt8)), SLC out → (∀ x ∈ L, SLC x) → out.length ≤ 100000 → (∀ x ∈ L, x.length ≤ 100000) →
    ∃ r, foldK (fun s x k => bnd1 (m_finset_merge s x m_finset_common) k) K L out = K r ∧ SLC r ∧ (∀ y, y ∈ r ↔ y ∈ out ∧ ∀ x ∈ L, y ∈ x) ∧ r.length ≤ 100000
  | [], out, ho, _, hl, _ => ⟨out, rfl, ho, fun y => by simp, by omega⟩
  | x :: L, out, ho, hL, hl, hl' => by
    have hx := hl' x (by simp)
    obtain ⟨r, h1, h2⟩ := vMerge out x m_finset_common (fun p q => p && q) (fun p q => by unfold m_finset_common; rw [jn_eq]; cases p <;> rfl) ho (hL x (by simp)) (by omega) (by omega)
    have hm : ∀ y, y ∈ r ↔ y ∈ out ∧ y ∈ x := fun y => by rw [h2.2]; simp only [Bool.and_eq_true, decide_eq_true_eq]; exact ⟨fun h => h.1, fun h => ⟨h, .inl h.1⟩⟩
    have hlen := nodup_len (slc_nodup h2.1) (fun y hy => ((hm y).1 hy).1)
    obtain ⟨s, g1, g2, g3, g4⟩ := foldK_and K L r h2.1 (fun y hy => hL y (by simp [hy])) (by omega) (fun y hy => hl' y (by simp [hy]))
    refine ⟨s, by rw [foldK, h1, bnd1_mk, g1], g2, fun y => ?_, g4⟩
    rw [g3, hm]
    simp [and_assoc]
theorem sub_spec (a : List UInt8) : (((prtW a).map prtW).flatten).length ≤ 131072 ∧ (∀ x ∈ ((prtW a).map prtW).flatten, x.length ≤ 131072) ∧ (∀ x ∈ (prtW a).map prtW, x.length ≤ 65535) := by
  refine ⟨Nat.le_trans (sub_flat _) (prtW_spec a).2.2.2.1, fun x hx => ?_, fun x hx => ?_⟩
  · obtain ⟨l, hl, hx⟩ := List.mem_flatten.1 hx
    obtain ⟨v, hv, rfl⟩ := List.mem_map.1 hl
    exact ((prtW_spec v).1 x hx).2
  · obtain ⟨v, hv, rfl⟩ := List.mem_map.1 hx
    exact (prtW_spec v).2.1
theorem sub_slc {a : List UInt8} (h : (prtW a).all isSet = true) : ∀ x ∈ (prtW a).map prtW, SLC x := fun x hx => by
  obtain ⟨v, hv, rfl⟩ := List.mem_map.1 hx
  exact prtW_SLC (List.all_eq_true.1 h v hv)
noncomputable def biW (a : List UInt8) : List UInt8 × Int := if isSet a = true ∧ (prtW a).all isSet = true then (if prtW a = [] then ([], 12) else bndW ((prtW (gi (prtW a) 0)).filter (fun z => ((prtW a).drop 1).all (fun x => decide (z ∈ prtW x))))) else ([], 6)
theorem vBigInter (a : List UInt8) : m_finset_BigInter a = some (biW a) := by
  unfold m_finset_BigInter biW
  have hl := (prtW_spec a).2.1
  obtain ⟨s1, s2, s3⟩ := sub_spec a
  rw [vSetsF, bnd1_mk]
  by_cases h : isSet a = true ∧ (prtW a).all isSet = true
  · rw [if_pos h, if_pos h]
    generalize hy : (((prtW a).map prtW, 0) : List (List (List UInt8)) × Int) = y1
    have hg : y1.1 = (prtW a).map prtW := by rw [← hy]
    have hg0 : y1.2 = 0 := by rw [← hy]
    have hgl : y1.1.length = (prtW a).length := by rw [hg]; simp
    rw [if_neg (fun h => h hg0)]
    by_cases he : prtW a = []
    · rw [if_pos (by rw [hgl, he]; rfl), if_pos he]
    · have hpos : 0 < (prtW a).length := List.length_pos_iff.2 he
      rw [if_neg (by omega), if_neg he, need_pos (by omega), jn_eq, need_pos (by omega)]
      have hdl : (List.drop (Int.toNat 1) y1.1).length ≤ 65535 := by simp; omega
      have hh := loop_all (List.drop (Int.toNat 1) y1.1) (by omega) (fun n s i => m_finset_BigInter_L2 y1 (fun x => bnd1 (m_finset_set x) (fun y16 => some (y16.1, y16.2))) n s i) (fun s x k => bnd1 (m_finset_merge s x m_finset_common) k) (fun x => bnd1 (m_finset_set x) (fun y16 => some (y16.1, y16.2))) (fun n s i hi => by
          show m_finset_BigInter_L2 y1 _ (n + 1) _ _ = _
          rw [m_finset_BigInter_L2, m_finset_BigInter_B2, if_pos (by omega), need_pos (by omega), gi_nat hi, i64_succ (by omega)]) (fun n s => by
          show m_finset_BigInter_L2 y1 _ (n + 1) _ _ = _
          rw [m_finset_BigInter_L2, m_finset_BigInter_B2, if_neg (by omega)]) (gi y1.1 0)
      refine hh.trans ?_
      have hd : List.drop (Int.toNat 1) y1.1 = ((prtW a).drop 1).map prtW := by rw [hg, show Int.toNat 1 = 1 from rfl, List.map_drop]
      have h0 : gi y1.1 0 = prtW (gi (prtW a) 0) := by
        rw [hg]
        match prtW a, he with
        | x :: t, _ => rfl
      have hm0 : gi (prtW a) 0 ∈ prtW a := by
        match prtW a, he with
        | x :: t, _ => exact List.mem_cons_self
      rw [hd, h0]
      have hsl := sub_slc h.2
      obtain ⟨r, h1, h2, h3, h4⟩ := foldK_and (fun x => bnd1 (m_finset_set x) (fun y16 => some (y16.1, y16.2))) (((prtW a).drop 1).map prtW) (prtW (gi (prtW a) 0)) (hsl _ (List.mem_map_of_mem hm0)) (fun x hx => hsl x (by rw [List.map_drop] at hx; exact List.mem_of_mem_drop hx)) (by have := (prtW_spec (gi (prtW a) 0)).2.1; omega) (fun x hx => by have := s3 x (by rw [List.map_drop] at hx; exact List.mem_of_mem_drop hx); omega)
      rw [h1, vSetF r (by omega) (fun x hx => by
        have := ((prtW_spec (gi (prtW a) 0)).1 x ((h3 x).1 hx).1).2; omega) (.inl h2), bnd1_mk, bndW_congr (l := r) (l' := (prtW (gi (prtW a) 0)).filter (fun z => ((prtW a).drop 1).all (fun x => decide (z ∈ prtW x)))) (fun x => by rw [h3]; simp only [List.mem_filter, List.all_eq_true, decide_eq_true_eq, List.forall_mem_map])]
  · rw [if_neg h, if_neg h, if_pos (by decide)]
end Go.Proofs.Ytdbnodliomlilaa
/- Subsets and keys: program and reference agree. -/
namespace Go.Proofs.Ytdbnodliomlilaa
attribute [local irreducible] FU

noncomputable def bitB (b : Int) (i : Nat) : Bool := decide (bAnd .i64 (Int.fdiv b (2 ^ min i IntKind.i64.bits)) 1 = 1)
/-- The elements whose bits are set. -/
noncomputable def pickW (b : Int) : Nat → List (List UInt8) → List (List UInt8)
  | _, [] => []
  | i, x :: xs => if bitB b i = true then x :: pickW b (i + 1) xs else pickW b (i + 1) xs
theorem pickW_len (b : Int) : ∀ (l : List (List UInt8)) (i : Nat), (pickW b i l).length ≤ l.length
  | [], _ => by simp [pickW]
  | x :: xs, i => by
    have := pickW_len b xs (i + 1)
    rw [pickW]; split <;> simp <;> omega
theorem pickW_mem (b : Int) {y : List UInt8} : ∀ (l : List (List UInt8)) (i : Nat), y ∈ pickW b i l → y ∈ l
  | [], _, h => by simp [pickW] at h
  | x :: xs, i, h => by
    rw [pickW] at h
    split at h
    · rcases List.mem_cons.1 h with rfl | h
      · simp
      · simp [pickW_mem b xs (i + 1) h]
    · simp [pickW_mem b xs (i + 1) h]
theorem pow_i64 {n : Nat} (h : n ≤ 61) : i64 (1 * 2 ^ min (Int.toNat (n : Int)) IntKind.i64.bits) = ((2 ^ n : Nat) : Int) := by
  have h1 : 2 ^ n ≤ 2 ^ 61 := Nat.pow_le_pow_right (by omega) h
  rw [Int.toNat_natCast, show IntKind.i64.bits = 64 from rfl, Nat.min_eq_left (by omega), Int.one_mul]
  have : (2 : Int) ^ n = ((2 ^ n : Nat) : Int) := by simp
  rw [this]
  generalize 2 ^ n = N at h1 ⊢
  rw [i64_id (by omega)]
theorem u64_nat {n : Nat} (h : n ≤ 4611686018427387904) : IntKind.u64.wrap (n : Int) = (n : Int) := by
  unfold IntKind.wrap IntKind.bits IntKind.signed
  simp; omega
theorem vSub_in {y1 : List (List (List UInt8)) × Int} {l : List (List UInt8)} (hg : gi y1.1 0 = l) (hl : l.length ≤ 65535) (b : Int) (K : List (List UInt8) → Option (List UInt8 × Int)) : ∀ (m i n : Nat) (out : List (List UInt8)), i + m = l.length → m < n → out.length + m ≤ 100000 →
    m_finset_Subsets_L26 y1 b K n out i = K (out ++ pickW b i (l.drop i)) := by
  intro m
  induction m with
  | zero =>
    intro i n out hi hn ho
    obtain ⟨n, rfl⟩ : ∃ q, n = q + 1 := ⟨n - 1, by omega⟩
    rw [m_finset_Subsets_L26, m_finset_Subsets_B26, hg, if_neg (by omega), List.drop_eq_nil_of_le (by omega), pickW, List.append_nil]
  | succ m ih =>
    intro i n out hi hn ho
    obtain ⟨n, rfl⟩ : ∃ q, n = q + 1 := ⟨n - 1, by omega⟩
    have hil : i < l.length := by omega
    rw [m_finset_Subsets_L26, m_finset_Subsets_B26, hg, if_pos (by omega)]
    simp only [jn_eq]
    rw [need_pos (by omega), need_pos (by omega), gi_nat hil, i64_succ (by omega), List.drop_eq_getElem_cons hil, pickW, Int.toNat_natCast]
    by_cases hb : bAnd .i64 (Int.fdiv b (2 ^ min i IntKind.i64.bits)) 1 = 1
    · rw [if_pos hb, if_pos (show bitB b i = true from decide_eq_true hb), need_pos (by simp; omega), ih (i + 1) n _ (by omega) (by omega) (by simp; omega)]; simp
    · rw [if_neg hb, if_neg (show ¬ bitB b i = true from fun h => hb (of_decide_eq_true h)), ih (i + 1) n _ (by omega) (by omega) (by omega)]
/-- The sets for the numbers from j, m of them. -/
noncomputable def subsF (l : List (List UInt8)) (j m : Nat) : List (List UInt8) := (List.range' j m).map (fun b : Nat => setW (pickW (b : Int) 0 l))
theorem vSub_out {y1 : List (List (List UInt8)) × Int} {l : List (List UInt8)} (hg : gi y1.1 0 = l) (h1 : y1.1.length = 1) (hl : l.length ≤ 12) (hx : ∀ x ∈ l, x.length ≤ 1099511627776) (K : List (List UInt8) → Option (List UInt8 × Int)) : ∀ (m j n : Nat) (out : List (List UInt8)), j + m = 2 ^ l.length → m < n → out.length + m ≤ 100000 →
    m_finset_Subsets_L14 y1 K n out j = K (out ++ subsF l j m) := by
  have hFU := FU_ge
  have h2 : 2 ^ l.length ≤ 2 ^ 12 := Nat.pow_le_pow_right (by omega) hl
  intro m
  induction m with
  | zero =>
    intro j n out hi hn ho
    obtain ⟨n, rfl⟩ : ∃ q, n = q + 1 := ⟨n - 1, by omega⟩
    rw [m_finset_Subsets_L14, m_finset_Subsets_B14, hg, pow_i64 (by omega), if_neg (by omega)]
    simp [subsF]
  | succ m ih =>
    intro j n out hi hn ho
    obtain ⟨n, rfl⟩ : ∃ q, n = q + 1 := ⟨n - 1, by omega⟩
    rw [m_finset_Subsets_L14, m_finset_Subsets_B14, hg, pow_i64 (by omega), if_pos (by omega)]
    simp only [jn_eq]
    have hin := vSub_in hg (by omega) (j : Int) (fun x9_j658 => bnd1 (m_value_Set x9_j658) (fun y712 => need (List.length out + List.length [y712] ≤ 137438953472) (m_finset_Subsets_L14 y1 K n (out ++ [y712]) (i64 ((j : Int) + 1))))) l.length 0 FU [] (by omega) (by omega) (by simp; omega)
    rw [Int.natCast_zero] at hin
    have hp := pickW_len (j : Int) l 0
    rw [need_pos (by omega), hin, List.nil_append, List.drop_zero, vSet _ (by omega) (fun x h => hx x (pickW_mem _ _ _ h)), bnd1_mk, need_pos (by simp; omega), i64_succ (by omega), ih (j + 1) n _ (by omega) (by omega) (by simp; omega)]
    simp [subsF, List.range'_succ]
noncomputable def ssW (a : List UInt8) : List UInt8 × Int := if isSet a = true then (if 12 < (prtW a).length then ([], 9) else bndW (subsF (prtW a) 0 (2 ^ (prtW a).length))) else ([], 6)
theorem vSubsets (a : List UInt8) : m_finset_Subsets a = some (ssW a) := by
  have hFU := FU_ge
  unfold m_finset_Subsets ssW
  have hl := (prtW_spec a).2.1
  rw [vElements _ (by simp), bnd1_mk]
  by_cases h : isSet a = true
  · rw [if_pos (show [a].all isSet = true by simp [h]), if_pos h, List.map_cons, List.map_nil]
    generalize hy : (([prtW a], 0) : List (List (List UInt8)) × Int) = y1
    have hg : gi y1.1 0 = prtW a := by rw [← hy]; rfl
    have hg0 : y1.2 = 0 := by rw [← hy]
    have hgl : y1.1.length = 1 := by rw [← hy]; rfl
    rw [if_neg (fun h => h hg0), need_pos (by omega), hg]
    simp only [jn_eq]
    by_cases h62 : 62 ≤ (prtW a).length
    · rw [if_pos (by omega), if_pos trivial, if_pos (by omega)]
    · rw [if_neg (by omega), need_pos (by omega), pow_i64 (by omega)]
      by_cases h12 : 12 < (prtW a).length
      · have : 2 ^ 13 ≤ 2 ^ (prtW a).length := Nat.pow_le_pow_right (by omega) h12
        rw [if_pos (decide_eq_true (by omega)), if_pos h12]
      · have h2 : 2 ^ (prtW a).length ≤ 2 ^ 12 := Nat.pow_le_pow_right (by omega) (by omega)
        have hx : ∀ x ∈ prtW a, x.length ≤ 1099511627776 := fun x hx => by have := ((prtW_spec a).1 x hx).2; omega
        have hout := vSub_out hg hgl (by omega) hx (fun x => bnd1 (m_finset_set x) (fun y715 => some (y715.1, y715.2))) (2 ^ (prtW a).length) 0 FU [] (by omega) (by omega) (by simp; omega)
        rw [Int.natCast_zero] at hout
        have hlen : (subsF (prtW a) 0 (2 ^ (prtW a).length)).length = 2 ^ (prtW a).length := by simp [subsF]
        rw [if_neg (fun h => by have := of_decide_eq_true h; omega), if_neg h12, need_pos (by omega), hout, List.nil_append, vSetF _ (by omega) (fun x hx => by
          obtain ⟨b, _, rfl⟩ := List.mem_map.1 hx
          have := setW_len (pickW (b : Int) 0 (prtW a)); omega) (.inr (by omega)), bnd1_mk]
  · rw [if_neg (show ¬ [a].all isSet = true by simpa using h), if_pos (by decide), if_neg h]
/-! ### Keys -/
end Go.Proofs.Ytdbnodliomlilaa
/- Integers as values; sets of them; the check of awake. -/
namespace Go.Proofs.Ytdbnodliomlilaa
attribute [local irreducible] FU

/-- The last k bytes of w. -/
def byD (w : Nat) : Nat → List UInt8
  | 0 => []
  | k + 1 => u8i ((w / 2 ^ (8 * k) : Nat) : Int) :: byD w k
theorem byD_len (w : Nat) : ∀ k, (byD w k).length = k
  | 0 => rfl
  | k + 1 => by simp [byD, byD_len w k]
theorem beNat_cons (b : UInt8) (l : List UInt8) : beNat (b :: l) = b.toNat * 256 ^ l.length + beNat l := by
  have key : ∀ (l : List UInt8) (a : Nat), l.foldl (fun n b => n * 256 + b.toNat) a = a * 256 ^ l.length + beNat l := by
    intro l
    induction l with
    | nil => intro a; simp [beNat]
    | cons x l ih =>
      intro a
      have e : beNat (x :: l) = x.toNat * 256 ^ l.length + beNat l := by
        have := ih (0 * 256 + x.toNat)
        simpa [beNat] using this
      rw [List.foldl_cons, ih, e, List.length_cons, Nat.pow_succ, Nat.add_mul, Nat.mul_assoc, Nat.mul_comm 256]
      omega
  have := key l b.toNat
  simpa [beNat] using this
theorem pow8 (k : Nat) : 256 ^ k = 2 ^ (8 * k) := by rw [Nat.pow_mul]
theorem beNat_byD (w : Nat) : ∀ k, beNat (byD w k) = w % 2 ^ (8 * k)
  | 0 => by simp [byD, beNat, Nat.mod_one]
  | k + 1 => by
    rw [byD, beNat_cons, byD_len, u8i_nat, beNat_byD w k, pow8, show 8 * (k + 1) = 8 * k + 8 by omega, Nat.pow_add, Nat.mod_mul, Nat.mul_comm, Nat.add_comm, Nat.mul_comm]
def wOf (n : Int) : Nat := (n % 18446744073709551616).toNat
theorem u64_mod (x : Int) : IntKind.u64.wrap x = (wOf x : Int) := by rw [wrap_u64]; unfold wOf; omega
theorem fdiv_pow (w k : Nat) (hk : 8 * k ≤ 64) : Int.fdiv (w : Int) (2 ^ min (Int.toNat ((8 * k : Nat) : Int)) IntKind.u64.bits) = ((w / 2 ^ (8 * k) : Nat) : Int) := by
  rw [Int.toNat_natCast, show IntKind.u64.bits = 64 from rfl, Nat.min_eq_left hk]
  have : (2 : Int) ^ (8 * k) = ((2 ^ (8 * k) : Nat) : Int) := by simp
  rw [this, Int.fdiv_eq_ediv_of_nonneg _ (Int.natCast_nonneg _)]
  rfl
noncomputable def intW (n : Int) : List UInt8 := 1 :: byD (wOf n) 8
theorem vAppend64 (w : Nat) (K : List UInt8 → Option (List UInt8)) : ∀ (k n : Nat) (out : List UInt8), k ≤ 8 → k < n → out.length + k ≤ 100 → m_value_append64_L2 w K n out (8 * (k : Int) - 8) = K (out ++ byD w k) := by
  intro k
  induction k with
  | zero =>
    intro n out hk hn ho
    obtain ⟨n, rfl⟩ : ∃ q, n = q + 1 := ⟨n - 1, by omega⟩
    rw [m_value_append64_L2, m_value_append64_B2, if_neg (by omega)]
    simp [byD]
  | succ k ih =>
    intro n out hk hn ho
    obtain ⟨n, rfl⟩ : ∃ q, n = q + 1 := ⟨n - 1, by omega⟩
    have e : 8 * ((k + 1 : Nat) : Int) - 8 = ((8 * k : Nat) : Int) := by omega
    have e2 : i64 (((8 * k : Nat) : Int) - 8) = 8 * (k : Int) - 8 := by rw [i64_id (by omega)]; omega
    rw [e, m_value_append64_L2, m_value_append64_B2, if_pos (by omega), need_pos (by omega), fdiv_pow w k (by omega), need_pos (by simp; omega), e2, ih n _ (by omega) (by omega) (by simp; omega)]
    simp [byD]
theorem vInt (n : Int) : m_value_Int n = some (intW n) := by
  have hFU := FU_ge
  unfold m_value_Int m_value_append64
  have h := vAppend64 (wOf n) (fun x => some x) 8 FU [1] (by omega) (by omega) (by simp)
  rw [show 8 * ((8 : Nat) : Int) - 8 = 56 from rfl] at h
  rw [u64_mod, jn_eq]
  rw [h, bnd1_mk]; rfl
theorem set_byD (w k : Nat) (hk : k < 8) : List.set (List.replicate (8 - k) (0 : UInt8) ++ byD w k) (7 - k) (u8i ((w / 2 ^ (8 * k) : Nat) : Int)) = List.replicate (8 - (k + 1)) (0 : UInt8) ++ byD w (k + 1) := by
  rw [show 8 - k = (8 - (k + 1)) + 1 by omega, List.replicate_succ', List.append_assoc, List.set_append_right _ _ (by simp)]
  have : 7 - k - (List.replicate (8 - (k + 1)) (0 : UInt8)).length = 0 := by simp
  rw [this]; rfl
theorem rEight_loop (n0 : Int) (K : List UInt8 → Option (List UInt8)) : ∀ (m k n : Nat), k + m = 8 → m < n → m_ref9_eight_L2 n0 K n (List.replicate (8 - k) (0 : UInt8) ++ byD (wOf n0) k) k = K (byD (wOf n0) 8) := by
  intro m
  induction m with
  | zero =>
    intro k n hk hn
    obtain ⟨n, rfl⟩ : ∃ q, n = q + 1 := ⟨n - 1, by omega⟩
    obtain rfl : k = 8 := by omega
    rw [m_ref9_eight_L2, m_ref9_eight_B2, if_neg (by omega)]
    simp
  | succ m ih =>
    intro k n hk hn
    obtain ⟨n, rfl⟩ : ∃ q, n = q + 1 := ⟨n - 1, by omega⟩
    have e1 : i64 (8 * (k : Int)) = ((8 * k : Nat) : Int) := by rw [i64_id (by omega)]; omega
    have e2 : i64 (7 - (k : Int)) = ((7 - k : Nat) : Int) := by rw [i64_id (by omega)]; omega
    rw [m_ref9_eight_L2, m_ref9_eight_B2, if_pos (by omega), e1, u64_nat (by omega), need_pos (by omega), e2, need_pos (by simp [byD_len]; omega), Int.toNat_natCast (7 - k), u64_mod, fdiv_pow _ k (by omega), i64_succ (by omega)]
    rw [set_byD (wOf n0) k (by omega)]
    exact ih (k + 1) n (by omega) (by omega)
theorem rInt (n : Int) : m_ref9_Int n = some (intW n) := by
  have hFU := FU_ge
  unfold m_ref9_Int m_ref9_eight
  have h := rEight_loop n (fun x => some x) 8 0 FU (by omega) (by omega)
  rw [Int.natCast_zero] at h
  rw [need_pos (by omega), jn_eq]
  rw [show List.replicate (Int.toNat 8) (0 : UInt8) = List.replicate (8 - 0) (0 : UInt8) ++ byD (wOf n) 0 from rfl, h, bnd1_mk, need_pos (by simp [byD_len])]
  rfl
theorem intW_IsV (n : Int) (k : Nat) : IsV (k + 1) (intW n) := .int k _ (byD_len _ 8)
theorem intW_len (n : Int) : (intW n).length = 9 := by simp [intW, byD_len]
theorem numV_intW {n : Int} (h : -9223372036854775808 ≤ n ∧ n ≤ 9223372036854775807) : numV (intW n) = n := by
  unfold numV intW
  rw [List.drop_succ_cons, List.drop_zero, beNat_byD]
  have e : wOf n % 2 ^ (8 * 8) = wOf n := Nat.mod_eq_of_lt (by unfold wOf; omega)
  rw [e]
  unfold wOf i64
  rw [show (((n % 18446744073709551616).toNat : Nat) : Int) = n % 18446744073709551616 by omega]
  unfold IntKind.wrap IntKind.bits IntKind.signed
  simp; split <;> omega
theorem intW_inj {a b : Int} (ha : -9223372036854775808 ≤ a ∧ a ≤ 9223372036854775807) (hb : -9223372036854775808 ≤ b ∧ b ≤ 9223372036854775807) (h : intW a = intW b) : a = b := by
  rw [← numV_intW ha, ← numV_intW hb, h]

/-! ### Sets that are valid -/
theorem flat_le {l : List (List UInt8)} {c : Nat} (h : ∀ x ∈ l, x.length ≤ c) : l.flatten.length ≤ c * l.length := by
  induction l with
  | nil => simp
  | cons x l ih =>
    have h1 := h x (by simp)
    have h2 := ih (fun y hy => h y (by simp [hy]))
    simp only [List.flatten_cons, List.length_append, List.length_cons, Nat.mul_add, Nat.mul_one]
    omega
theorem SLC_ascB : ∀ {ps : List (List UInt8)}, (∀ p ∈ ps, Vd p) → SLC ps → ascB ps = true
  | [], _, _ => rfl
  | [_], _, _ => rfl
  | x :: y :: t, hv, h => by
    obtain ⟨h1, h2⟩ := List.pairwise_cons.1 h
    have := h1 y (by simp)
    rw [cmpC_val (hv x (by simp)) (hv y (by simp))] at this
    rw [ascB, SLC_ascB (fun p hp => hv p (by simp [hp])) h2, decide_eq_true this]; rfl
/-- A set of valid values that is neither too deep nor too long. -/
theorem set_ok {l : List (List UInt8)} {k : Nat} (hk : k ≤ 31) (hv : ∀ x ∈ l, IsV k x) (hl : (sortW l).length ≤ 65535) (hs : 3 + (sortW l).flatten.length ≤ 131072) :
    setW l = raw 5 (sortW l) ∧ IsV (k + 1) (setW l) ∧ prtW (setW l) = sortW l ∧ isSet (setW l) = true ∧ setW l ≠ [] ∧ (setW l).length ≤ 131072 := by
  have hm := (sortW_spec l).2.1
  have hV : ∀ x ∈ sortW l, Vd x := fun x hx => ⟨(hv x ((hm x).1 hx)).le (by omega), by have := flat_mem hx; omega⟩
  have hI : IsV (k + 1) (raw 5 (sortW l)) := .comp k 5 _ _ (sortW l) (by decide) (raw_count hl) (fun x hx => hv x ((hm x).1 hx)) (by
    have := SLC_ascB hV (sortW_spec l).1
    simpa [formedB] using this)
  have hVr : Vd (raw 5 (sortW l)) := ⟨hI.le (by omega), by rw [raw_len]; omega⟩
  have he : setW l = raw 5 (sortW l) := cmpd_yes ⟨hl, hV, hVr⟩
  have hvb := vldB_iff.2 hVr
  rw [he]
  refine ⟨rfl, hI, ?_, ?_, by simp [raw], hVr.2⟩
  · unfold prtW; rw [if_pos hvb]; exact prt_raw (by decide) hl hV
  · unfold isSet kindW; rw [if_pos hvb]; rfl
theorem bnd_ok {l : List (List UInt8)} (h : (sortW l).length ≤ 4096) (hn : setW l ≠ []) : bndW l = (setW l, 0) := by
  unfold bndW; rw [if_neg]; rintro (h' | h')
  · omega
  · exact hn h'
theorem sort_nodup {l : List (List UInt8)} (h : l.Nodup) : (sortW l).length = l.length :=
  Nat.le_antisymm (sortW_spec l).2.2 (nodup_len h (fun x hx => ((sortW_spec l).2.1 x).2 hx))

/-! ### The subsets are different -/
theorem bitB_test (b i : Nat) (hb : b < 2 ^ 62) (hi : i ≤ 62) : bitB (b : Int) i = b.testBit i := by
  unfold bitB
  rw [show IntKind.i64.bits = 64 from rfl, Nat.min_eq_left (by omega)]
  have : (2 : Int) ^ i = ((2 ^ i : Nat) : Int) := by simp
  have h2 : b / 2 ^ i ≤ b := Nat.div_le_self _ _
  have e : Int.fdiv (b : Int) ((2 ^ i : Nat) : Int) = ((b / 2 ^ i : Nat) : Int) := by rw [Int.fdiv_eq_ediv_of_nonneg _ (Int.natCast_nonneg _)]; rfl
  rw [this, e, show (1 : Int) = ((1 : Nat) : Int) from rfl, bAnd_nat _ _ (by omega) (by omega), Nat.and_one_is_mod, Nat.testBit_eq_decide_div_mod_eq]
  congr 1
  simp only [eq_iff_iff]; omega
theorem pickW_iff (b : Nat) (hb : b < 2 ^ 62) : ∀ (l : List (List UInt8)) (i : Nat), l.Nodup → i + l.length ≤ 62 → ∀ q (h : q < l.length), l[q] ∈ pickW b i l ↔ b.testBit (i + q) = true
  | [], _, _, _, q, h => by simp at h
  | x :: xs, i, hn, hl, q, h => by
    obtain ⟨n1, n2⟩ := List.nodup_cons.1 hn
    simp only [List.length_cons] at hl h
    have hx : x ∉ pickW b (i + 1) xs := fun hh => n1 (pickW_mem _ _ _ hh)
    rw [pickW, bitB_test b i hb (by omega)]
    cases q with
    | zero =>
      simp only [List.getElem_cons_zero, Nat.add_zero]
      split
      · rename_i ht; simp [ht]
      · rename_i ht; simp [ht, hx]
    | succ q =>
      have ih := pickW_iff b hb xs (i + 1) n2 (by omega) q (by omega)
      rw [show i + 1 + q = i + (q + 1) by omega] at ih
      have hne : xs[q] ≠ x := fun e => n1 (e ▸ List.getElem_mem _)
      simp only [List.getElem_cons_succ]
      split
      · rw [List.mem_cons, ih]; simp [hne]
      · exact ih
theorem pickW_sub (b : Int) : ∀ (l : List (List UInt8)) (i : Nat), (pickW b i l).Sublist l
  | [], _ => by simp [pickW]
  | x :: xs, i => by
    rw [pickW]; split
    · exact (pickW_sub b xs (i + 1)).cons_cons x
    · exact (pickW_sub b xs (i + 1)).cons x
theorem pickW_inj {l : List (List UInt8)} (hn : l.Nodup) (hl : l.length ≤ 61) {a b : Nat} (ha : a < 2 ^ l.length) (hb : b < 2 ^ l.length) (h : pickW (a : Int) 0 l = pickW (b : Int) 0 l) : a = b := by
  have h62 : 2 ^ l.length ≤ 2 ^ 61 := Nat.pow_le_pow_right (by omega) hl
  refine Nat.eq_of_testBit_eq fun i => ?_
  by_cases hi : i < l.length
  · have h1 := pickW_iff a (by omega) l 0 hn (by omega) i hi
    have h2 := pickW_iff b (by omega) l 0 hn (by omega) i hi
    rw [Nat.zero_add] at h1 h2
    rw [h, h2] at h1
    cases e1 : a.testBit i <;> cases e2 : b.testBit i <;> simp_all
  · have : 2 ^ l.length ≤ 2 ^ i := Nat.pow_le_pow_right (by omega) (by omega)
    rw [Nat.testBit_lt_two_pow (by omega), Nat.testBit_lt_two_pow (by omega)]
/-- The set of subsets of a set of small values. -/
theorem subs_ok {l : List (List UInt8)} {k : Nat} (hk : k ≤ 30) (hs : SLC l) (hv : ∀ x ∈ l, IsV k x) (hl : l.length ≤ 12) (hx : ∀ x ∈ l, x.length ≤ 9) (hsz : 2 ^ l.length * (9 * l.length + 3) + 3 ≤ 131072) :
    let S := subsF l 0 (2 ^ l.length)
    (∀ x ∈ S, IsV (k + 1) x) ∧ (∀ b : Nat, b < 2 ^ l.length → prtW (setW (pickW (b : Int) 0 l)) = pickW (b : Int) 0 l ∧ isSet (setW (pickW (b : Int) 0 l)) = true) ∧ S.Nodup ∧ S.length = 2 ^ l.length ∧ bndW S = (setW S, 0) ∧ prtW (setW S) = sortW S ∧ isSet (setW S) = true ∧ (sortW S).length = 2 ^ l.length := by
  intro S
  have h2 : 2 ^ l.length ≤ 2 ^ 12 := Nat.pow_le_pow_right (by omega) hl
  have hpos : 0 < 2 ^ l.length := Nat.two_pow_pos _
  have hbig : 9 * l.length + 3 ≤ 2 ^ l.length * (9 * l.length + 3) := Nat.le_mul_of_pos_left _ hpos
  have hone : ∀ b : Nat, setW (pickW (b : Int) 0 l) = raw 5 (sortW (pickW (b : Int) 0 l)) ∧ IsV (k + 1) (setW (pickW (b : Int) 0 l)) ∧ prtW (setW (pickW (b : Int) 0 l)) = pickW (b : Int) 0 l ∧ isSet (setW (pickW (b : Int) 0 l)) = true ∧ (setW (pickW (b : Int) 0 l)).length ≤ 9 * l.length + 3 := by
    intro b
    have hsl : SLC (pickW (b : Int) 0 l) := List.Pairwise.sublist (pickW_sub _ _ _) hs
    have hid := sortW_id hsl
    have hle := pickW_len (b : Int) l 0
    have hfl : (pickW (b : Int) 0 l).flatten.length ≤ 9 * (pickW (b : Int) 0 l).length := flat_le (fun x h => hx x (pickW_mem _ _ _ h))
    obtain ⟨a1, a2, a3, a4, _, _⟩ := set_ok (l := pickW (b : Int) 0 l) (k := k) (by omega) (fun x h => hv x (pickW_mem _ _ _ h)) (by rw [hid]; omega) (by rw [hid]; omega)
    rw [hid] at a3
    refine ⟨a1, a2, a3, a4, ?_⟩
    rw [a1, raw_len, hid]; omega
  have hlen : S.length = 2 ^ l.length := by simp [S, subsF]
  have hnd : S.Nodup := by
    refine List.pairwise_map.2 (List.Pairwise.imp_of_mem ?_ (List.nodup_range' (s := 0) (n := 2 ^ l.length)))
    intro a b ha hb hab he
    simp at ha hb
    have := congrArg prtW he
    rw [(hone a).2.2.1, (hone b).2.2.1] at this
    exact hab (pickW_inj (slc_nodup hs) (by omega) ha hb this)
  have hall : ∀ x ∈ S, IsV (k + 1) x ∧ x.length ≤ 9 * l.length + 3 := fun x hx => by
    obtain ⟨b, _, rfl⟩ := List.mem_map.1 hx
    exact ⟨(hone b).2.1, (hone b).2.2.2.2⟩
  have hsl := sort_nodup hnd
  have hfl : (sortW S).flatten.length ≤ (9 * l.length + 3) * (sortW S).length := flat_le (fun x h => (hall x (((sortW_spec S).2.1 x).1 h)).2)
  rw [hsl, hlen, Nat.mul_comm] at hfl
  obtain ⟨b1, b2, b3, b4, b5, _⟩ := set_ok (l := S) (k := k + 1) (by omega) (fun x h => (hall x h).1) (by omega) (by omega)
  exact ⟨fun x h => (hall x h).1, fun b _ => ⟨(hone b).2.2.1, (hone b).2.2.2.1⟩, hnd, hlen, bnd_ok (by omega) b5, b3, b4, by omega⟩

/-! ### Ranges -/
/-- m integers from a on. -/
noncomputable def runW (a : Int) (m : Nat) : List (List UInt8) := (List.range m).map (fun i : Nat => intW (a + i))
theorem runW_len (a : Int) (m : Nat) : (runW a m).length = m := by simp [runW]
theorem runW_succ (a : Int) (m : Nat) : runW a (m + 1) = intW a :: runW (a + 1) m := by
  unfold runW
  rw [List.range_succ_eq_map, List.map_cons, List.map_map]
  simp only [Int.natCast_zero, Int.add_zero]
  congr 1
  refine List.map_congr_left fun i _ => ?_
  show intW (a + ((i + 1 : Nat) : Int)) = intW (a + 1 + (i : Int))
  congr 1; omega
theorem runW_nodup {a : Int} {m : Nat} (h : -9223372036854775808 ≤ a ∧ a + m ≤ 9223372036854775808) : (runW a m).Nodup := by
  refine List.pairwise_map.2 (List.Pairwise.imp_of_mem ?_ List.nodup_range)
  intro i j hi hj hne he
  simp at hi hj
  have := intW_inj (a := a + i) (b := a + j) (by omega) (by omega) he
  omega
theorem runW_spec (a : Int) (m : Nat) : (∀ x ∈ runW a m, x.length ≤ 9) ∧ ∀ k, ∀ x ∈ runW a m, IsV (k + 1) x := by
  refine ⟨fun x hx => ?_, fun k x hx => ?_⟩
  · obtain ⟨i, _, rfl⟩ := List.mem_map.1 hx; rw [intW_len]; omega
  · obtain ⟨i, _, rfl⟩ := List.mem_map.1 hx; exact intW_IsV _ _
theorem vRange_loop (b : Int) (hb : b ≤ 9223372036854775807) (K : List (List UInt8) → Option (List UInt8 × Int)) : ∀ (m n : Nat) (a : Int) (out : List (List UInt8)), -9223372036854775808 ≤ a → a + m = b + 1 → 0 < m → m ≤ n → out.length + m ≤ 1000000 → m_finset_Range_L2 b K n out a = K (out ++ runW a m) := by
  intro m
  induction m with
  | zero => intro n a out _ _ h; omega
  | succ m ih =>
    intro n a out h1 h2 _ hn ho
    obtain ⟨n, rfl⟩ : ∃ q, n = q + 1 := ⟨n - 1, by omega⟩
    rw [m_finset_Range_L2, m_finset_Range_B2, if_pos (by omega), vInt, bnd1_mk, need_pos (by simp; omega)]
    by_cases h : a = b
    · obtain rfl : m = 0 := by omega
      rw [if_pos h, runW_succ]; rfl
    · rw [if_neg h, i64_id (by omega), ih n (a + 1) _ (by omega) (by omega) (by omega) (by omega) (by simp; omega), runW_succ]; simp
theorem run_set {a : Int} {m : Nat} (h : -9223372036854775808 ≤ a ∧ a + m ≤ 9223372036854775808) (hm : m ≤ 4096) : bndW (runW a m) = (setW (runW a m), 0) ∧ prtW (setW (runW a m)) = sortW (runW a m) ∧ isSet (setW (runW a m)) = true ∧ (sortW (runW a m)).length = m ∧ IsV 2 (setW (runW a m)) := by
  have hn := sort_nodup (runW_nodup h)
  rw [runW_len] at hn
  have hfl : (sortW (runW a m)).flatten.length ≤ 9 * (sortW (runW a m)).length := flat_le (fun x hx => (runW_spec a m).1 x (((sortW_spec _).2.1 x).1 hx))
  obtain ⟨b1, b2, b3, b4, b5, _⟩ := set_ok (l := runW a m) (k := 1) (by omega) ((runW_spec a m).2 0) (by omega) (by omega)
  exact ⟨bnd_ok (by omega) b5, b3, b4, hn, b2⟩
theorem vRange {a b : Int} (ha : -9223372036854775808 ≤ a) (hb : b ≤ 9223372036854775807) (hb0 : -9223372036854775808 ≤ b) (ha1 : a ≤ 9223372036854775807) : m_finset_Range a b = some (if a ≤ b ∧ 4096 ≤ b - a then ([], 9) else bndW (runW a (b - a + 1).toNat)) := by
  have hFU := FU_ge
  unfold m_finset_Range
  simp only [jn_eq]
  have hset : ∀ m : Nat, m ≤ 4096 → m_finset_set (runW a m) = some (bndW (runW a m)) := fun m hm => vSetF _ (by rw [runW_len]; omega) (fun x hx => by have := (runW_spec a m).1 x hx; omega) (.inr (by rw [runW_len]; omega))
  by_cases hab : a ≤ b
  · have e : IntKind.u64.wrap (IntKind.u64.wrap b - IntKind.u64.wrap a) = b - a := by simp only [wrap_u64]; omega
    rw [if_pos hab, e]
    by_cases hc : 4096 ≤ b - a
    · rw [if_pos (decide_eq_true hc), if_pos ⟨hab, hc⟩]
    · rw [if_neg (fun h => hc (of_decide_eq_true h)), if_neg (fun h => hc h.2)]
      rw [vRange_loop b hb _ (b - a + 1).toNat FU a [] ha (by omega) (by omega) (by omega) (by simp; omega), List.nil_append, hset _ (by omega), bnd1_mk]
  · obtain ⟨n, hn⟩ := FU_k 1 (by omega)
    rw [if_neg hab, if_neg (by simp), if_neg (fun h => hab h.1), hn, m_finset_Range_L2, m_finset_Range_B2, if_neg hab, show (b - a + 1).toNat = 0 by omega]
    have := hset 0 (by omega)
    rw [show runW a 0 = [] from rfl] at this ⊢
    rw [this, bnd1_mk]
theorem awake_true : m_law10_awake = some true := by
  unfold m_law10_awake
  rw [vRange (by omega) (by omega) (by omega) (by omega), if_neg (by omega), show ((2 : Int) - 1 + 1).toNat = 2 from rfl]
  obtain ⟨r1, r2, r3, r4, r5⟩ := run_set (a := 1) (m := 2) (by omega) (by omega)
  have hl : (sortW (runW 1 2)).length = 2 := r4
  have hmm := (sortW_spec (runW 1 2)).2.1
  obtain ⟨_, _, _, _, s1, s2, s3, s4⟩ := subs_ok (l := sortW (runW 1 2)) (k := 1) (by omega) (sortW_spec _).1 (fun x hx => (runW_spec 1 2).2 0 x ((hmm x).1 hx)) (by omega) (fun x hx => (runW_spec 1 2).1 x ((hmm x).1 hx)) (by rw [hl]; omega)
  have hss : ssW (setW (runW 1 2)) = (setW (subsF (sortW (runW 1 2)) 0 (2 ^ (sortW (runW 1 2)).length)), 0) := by
    unfold ssW
    rw [if_pos r3, r2, if_neg (by omega), s1]
  have h0 : sortW [] = [] := by
    have := (sortW_spec []).2.2
    exact List.length_eq_zero_iff.1 (by simpa using this)
  obtain ⟨n1, n2, n3, n4, _, _⟩ := set_ok (l := []) (k := 1) (by omega) (by simp) (by rw [h0]; simp) (by rw [h0]; simp)
  rw [h0] at n3
  have hbi : biW (setW []) = ([], 12) := by
    unfold biW
    rw [if_pos ⟨n4, by rw [n3]; rfl⟩, if_pos n3]
  rw [r1, bnd1_mk, vSubsets, hss, bnd1_mk, rSet [] (by simp), bnd1_mk, vBigInter, hbi, bnd1_mk]
  simp only [jn_eq]
  rw [if_pos trivial, rInt, rInt, bnd1_mk, bnd1_mk, rSet _ (by simp), bnd1_mk, if_pos (show setW (runW 1 2) = setW [intW 1, intW 2] from rfl), if_pos trivial, rPartsW, s2, bnd1_mk, s4, hl, if_pos (by decide)]
  rfl
end Go.Proofs.Ytdbnodliomlilaa
/- The generator of values always returns. -/
namespace Go.Proofs.Ytdbnodliomlilaa
attribute [local irreducible] FU

/-- The state of the choices. -/
def GS (l : List Int) (i : Int) : Prop := 0 ≤ i ∧ i ≤ l.length ∧ l.length ≤ 9223372036854775807
theorem gNext {l : List Int} {i : Int} (h : GS l i) {n : Int} (h0 : 0 < n) (h1 : n ≤ 1000000) : ∃ y i', m_gen_Choices_Next (l, i) n = some (y, (l, i')) ∧ GS l i' ∧ 0 ≤ y ∧ y < n := by
  obtain ⟨g1, g2, g3⟩ := h
  unfold m_gen_Choices_Next
  simp only []
  by_cases hc : (List.length l : Int) ≤ i
  · rw [if_pos hc]; exact ⟨0, i, rfl, ⟨g1, g2, g3⟩, by omega, h0⟩
  · have e : i64 (i64 (i + 1) - 1) = i := by rw [i64_id (x := i + 1) (by omega), i64_id (by omega)]; omega
    have en : IntKind.u64.wrap n = n := by rw [wrap_u64]; omega
    unfold m_help_Mod
    rw [if_neg hc, e, need_pos (by omega), en, need_pos (by omega), bnd1_mk, i64_id (x := i + 1) (by omega)]
    have ha := wrap_u64 (gi l i)
    have h3 : 0 ≤ Int.tmod (IntKind.u64.wrap (gi l i)) n := Int.tmod_nonneg _ (by omega)
    have h4 : Int.tmod (IntKind.u64.wrap (gi l i)) n < n := Int.tmod_lt_of_pos _ h0
    exact ⟨_, _, rfl, ⟨by omega, by omega, g3⟩, by rw [i64_id (by omega)]; exact h3, by rw [i64_id (by omega)]; exact h4⟩
theorem gInts_loop (K : List Int → Int → List (List UInt8) → Option (List UInt8 × (List Int × Int))) : ∀ (m n : Nat) (l : List Int) (i : Int) (out : List (List UInt8)), m < n → GS l i → out.length + m ≤ 1000 → (∀ x ∈ out, ∃ k : Int, 0 ≤ k ∧ k < 6 ∧ x = intW k) →
    ∃ i' out', m_gen_Choices_Ints_L2 K n l i out m = K l i' out' ∧ GS l i' ∧ out'.length = out.length + m ∧ ∀ x ∈ out', ∃ k : Int, 0 ≤ k ∧ k < 6 ∧ x = intW k := by
  intro m
  induction m with
  | zero =>
    intro n l i out hn hg ho hx
    obtain ⟨n, rfl⟩ : ∃ q, n = q + 1 := ⟨n - 1, by omega⟩
    exact ⟨i, out, by rw [m_gen_Choices_Ints_L2, m_gen_Choices_Ints_B2, if_neg (by omega)], hg, rfl, hx⟩
  | succ m ih =>
    intro n l i out hn hg ho hx
    obtain ⟨n, rfl⟩ : ∃ q, n = q + 1 := ⟨n - 1, by omega⟩
    obtain ⟨y, i1, e1, g1, y0, y1⟩ := gNext hg (n := 6) (by omega) (by omega)
    have e2 : i64 (((m + 1 : Nat) : Int) - 1) = (m : Int) := by rw [i64_id (by omega)]; omega
    obtain ⟨i', out', h1, h2, h3, h4⟩ := ih n l i1 (out ++ [intW y]) (by omega) g1 (by simp; omega) (fun x h => by
      rcases List.mem_append.1 h with h | h
      · exact hx x h
      · exact ⟨y, y0, y1, List.mem_singleton.1 h⟩)
    refine ⟨i', out', ?_, h2, by rw [h3]; simp; omega, h4⟩
    rw [m_gen_Choices_Ints_L2, m_gen_Choices_Ints_B2, if_pos (by omega), e1, bnd1_mk]
    simp only []
    rw [rInt, bnd1_mk, need_pos (by simp; omega), e2, h1]
theorem gInts {l : List Int} {i : Int} (h : GS l i) : ∃ i' L, m_gen_Choices_Ints (l, i) = some (setW L, (l, i')) ∧ GS l i' ∧ L.length ≤ 4 ∧ ∀ x ∈ L, ∃ k : Int, 0 ≤ k ∧ k < 6 ∧ x = intW k := by
  have hFU := FU_ge
  unfold m_gen_Choices_Ints
  rw [jn_eq]
  obtain ⟨y, i1, e1, g1, y0, y1⟩ := gNext h (n := 5) (by omega) (by omega)
  obtain ⟨m, rfl⟩ : ∃ m : Nat, y = m := ⟨y.toNat, by omega⟩
  obtain ⟨i', L, h1, h2, h3, h4⟩ := gInts_loop (fun x0_0_j1 x0_1_j1 x3_j1 => bnd1 (m_ref9_Set x3_j1) (fun y29 => some (y29, (x0_0_j1, x0_1_j1)))) m FU l i1 [] (by omega) g1 (by simp; omega) (by simp)
  simp only []
  rw [e1, bnd1_mk]
  simp only []
  simp at h3
  rw [h1, rSet L (by omega), bnd1_mk]
  exact ⟨i', L, rfl, h2, by omega, h4⟩
/-! ### What is made always comes back -/
end Go.Proofs.Ytdbnodliomlilaa
/- The laws of sets of small integers: FinsetAlgebra, FinsetSubsetsCount. -/
namespace Go.Proofs.Ytdbnodliomlilaa
attribute [local irreducible] FU

/-- A small integer. -/
def SI (x : List UInt8) : Prop := ∃ k : Int, 0 ≤ k ∧ k < 6 ∧ x = intW k
theorem SI.IsV {x : List UInt8} (h : SI x) (k : Nat) : IsV (k + 1) x := by obtain ⟨n, _, _, rfl⟩ := h; exact intW_IsV n k
theorem SI.len {x : List UInt8} (h : SI x) : x.length = 9 := by obtain ⟨n, _, _, rfl⟩ := h; exact intW_len n
theorem SI.mem {x : List UInt8} (h : SI x) : x ∈ runW 0 6 := by
  obtain ⟨n, h0, h1, rfl⟩ := h
  exact List.mem_map.2 ⟨n.toNat, List.mem_range.2 (by omega), by congr 1; omega⟩
theorem fs_set {L : List (List UInt8)} (h : ∀ x ∈ L, SI x) : prtW (setW L) = sortW L ∧ isSet (setW L) = true ∧ bndW L = (setW L, 0) ∧ (sortW L).length ≤ 6 := by
  have hm := (sortW_spec L).2.1
  have hl : (sortW L).length ≤ 6 := by
    have := nodup_len (l := runW 0 6) (slc_nodup (sortW_spec L).1) (fun x hx => (h x ((hm x).1 hx)).mem)
    rwa [runW_len] at this
  have hf : (sortW L).flatten.length ≤ 9 * (sortW L).length := flat_le (fun x hx => by rw [(h x ((hm x).1 hx)).len]; omega)
  obtain ⟨_, _, a3, a4, a5, _⟩ := set_ok (l := L) (k := 1) (by omega) (fun x hx => (h x hx).IsV 0) (by omega) (by omega)
  exact ⟨a3, a4, bnd_ok (by omega) a5, hl⟩
theorem gs_new {c : List Int} (hc : c.length ≤ maxLen ∧ ∀ x ∈ c, (Lit.int .i64 x).wf = true) : GS c 0 := ⟨by omega, by omega, by have := hc.1; unfold maxLen at this; omega⟩
end Go.Proofs.Ytdbnodliomlilaa
/- Products and ranges: FinsetLimits. -/
namespace Go.Proofs.Ytdbnodliomlilaa
attribute [local irreducible] FU

theorem rRange_loop (b : Int) (hb : b ≤ 9223372036854775807) (K : List (List UInt8) → Option (List UInt8 × Int)) : ∀ (m n : Nat) (a : Int) (out : List (List UInt8)), -9223372036854775808 ≤ a → a + m = b + 1 → m < n → out.length ≤ 4096 → (out.length + m ≤ 4096 → m_ref9_Range_L2 b K n out a = K (out ++ runW a m)) := by
  intro m
  induction m with
  | zero =>
    intro n a out h1 h2 hn _ ho
    obtain ⟨n, rfl⟩ : ∃ q, n = q + 1 := ⟨n - 1, by omega⟩
    rw [m_ref9_Range_L2, m_ref9_Range_B2, if_neg (by omega), show runW a 0 = [] from rfl, List.append_nil]
  | succ m ih =>
    intro n a out h1 h2 hn _ ho
    obtain ⟨n, rfl⟩ : ∃ q, n = q + 1 := ⟨n - 1, by omega⟩
    rw [m_ref9_Range_L2, m_ref9_Range_B2, if_pos (by omega), if_neg (by omega), rInt, bnd1_mk, need_pos (by simp; omega)]
    by_cases h : a = 9223372036854775807
    · obtain rfl : m = 0 := by omega
      rw [if_pos h, runW_succ]; rfl
    · rw [if_neg h, i64_id (by omega), ih n (a + 1) _ (by omega) (by omega) (by omega) (by simp; omega) (by simp; omega), runW_succ]; simp
theorem rRange_over (b : Int) (hb : b ≤ 9223372036854775807) (K : List (List UInt8) → Option (List UInt8 × Int)) : ∀ (m n : Nat) (a : Int) (out : List (List UInt8)), -9223372036854775808 ≤ a → out.length + m = 4096 → m < n → a + m ≤ b → m_ref9_Range_L2 b K n out a = some ([], 9) := by
  intro m
  induction m with
  | zero =>
    intro n a out h1 h2 hn h3
    obtain ⟨n, rfl⟩ : ∃ q, n = q + 1 := ⟨n - 1, by omega⟩
    rw [m_ref9_Range_L2, m_ref9_Range_B2, if_pos (by omega), if_pos (by omega)]
  | succ m ih =>
    intro n a out h1 h2 hn h3
    obtain ⟨n, rfl⟩ : ∃ q, n = q + 1 := ⟨n - 1, by omega⟩
    rw [m_ref9_Range_L2, m_ref9_Range_B2, if_pos (by omega), if_neg (by omega), rInt, bnd1_mk, need_pos (by simp; omega), if_neg (by omega), i64_id (by omega), ih n (a + 1) _ (by omega) (by simp; omega) (by omega) (by omega)]
theorem rRange {a b : Int} (ha : -9223372036854775808 ≤ a) (hb : b ≤ 9223372036854775807) : m_ref9_Range a b = some (if a ≤ b ∧ 4096 ≤ b - a then ([], 9) else bndW (runW a (b - a + 1).toNat)) := by
  have hFU := FU_ge
  unfold m_ref9_Range
  rw [jn_eq]
  have hset : ∀ m : Nat, m ≤ 4096 → m_ref9_bounded (runW a m) = some (bndW (runW a m)) := fun m hm => rBounded _ (by rw [runW_len]; omega)
  by_cases hc : a ≤ b ∧ 4096 ≤ b - a
  · rw [if_pos hc, rRange_over b hb _ 4096 FU a [] ha (by simp) (by omega) (by omega)]
  · rw [if_neg hc]
    by_cases hab : a ≤ b
    · rw [rRange_loop b hb _ (b - a + 1).toNat FU a [] ha (by omega) (by omega) (by simp) (by simp; omega), List.nil_append, hset _ (by omega), bnd1_mk]
    · obtain ⟨n, hn⟩ := FU_k 1 (by omega)
      rw [hn, m_ref9_Range_L2, m_ref9_Range_B2, if_neg hab, show (b - a + 1).toNat = 0 by omega]
      have := hset 0 (by omega)
      rw [show runW a 0 = [] from rfl] at this ⊢
      rw [this, bnd1_mk]

/-! ### The product of two lists -/
theorem vSeq (l : List (List UInt8)) (hx : ∀ x ∈ l, x.length ≤ 1099511627776) : m_value_Seq l = some (cmpd 4 l) := by
  unfold m_value_Seq
  have := vCompound 4 l hx
  rw [show ((4 : UInt8).toNat : Int) = 4 from rfl] at this
  rw [this, bnd1_mk]
end Go.Proofs.Ytdbnodliomlilaa
/- Products of sets: program and reference agree. -/
namespace Go.Proofs.Ytdbnodliomlilaa
attribute [local irreducible] FU

/-- The lists stand in reverse order: the last one first. -/
def cntR : List (List (List UInt8)) → Nat
  | [] => 1
  | m :: R => cntR R * m.length
noncomputable def rowR : List (List (List UInt8)) → Nat → List (List UInt8)
  | [], _ => []
  | m :: R, k => rowR R (k / m.length) ++ [gi m ((k % m.length : Nat) : Int)]
def rowsR : List (List (List UInt8)) → List (List (List UInt8))
  | [] => [[]]
  | m :: R => (rowsR R).flatMap (fun r => m.map (fun x => r ++ [x]))
theorem rowsR_len : ∀ R, (rowsR R).length = cntR R
  | [] => rfl
  | m :: R => by
    rw [rowsR, cntR, ← rowsR_len R]
    induction rowsR R with
    | nil => simp
    | cons r t ih => rw [List.flatMap_cons, List.length_append, ih, List.length_map, List.length_cons, Nat.add_mul]; omega
theorem range_mul {α : Type} (f : Nat → α) (b : Nat) : ∀ a, (List.range (a * b)).map f = (List.range a).flatMap (fun i => (List.range b).map (fun j => f (i * b + j)))
  | 0 => by simp
  | a + 1 => by
    rw [Nat.add_mul, Nat.one_mul, List.range_add, List.map_append, range_mul f b a, List.range_succ, List.flatMap_append, List.map_map]
    simp
theorem range_gi (m : List (List UInt8)) (g : List UInt8 → List (List UInt8)) : (List.range m.length).map (fun j : Nat => g (gi m ((j : Nat) : Int))) = m.map g := by
  refine List.ext_getElem (by simp) (fun i h1 h2 => ?_)
  simp at h1 h2
  simp only [List.getElem_map, List.getElem_range]
  rw [gi_nat h1]
theorem rowsR_eq : ∀ R : List (List (List UInt8)), (∀ m ∈ R, 0 < m.length) → rowsR R = (List.range (cntR R)).map (rowR R)
  | [], _ => rfl
  | m :: R, h => by
    have hm := h m (by simp)
    have ih := rowsR_eq R (fun x hx => h x (by simp [hx]))
    rw [rowsR, cntR, range_mul, ih, List.flatMap_map]
    congr 1
    funext i
    rw [← range_gi m (fun x => rowR R i ++ [x])]
    refine List.map_congr_left fun j hj => ?_
    simp at hj
    rw [rowR, show (i * m.length + j) / m.length = i by rw [Nat.mul_comm, Nat.mul_add_div hm, Nat.div_eq_of_lt hj, Nat.add_zero], show (i * m.length + j) % m.length = j by rw [Nat.mul_comm, Nat.mul_add_mod, Nat.mod_eq_of_lt hj]]
theorem rowR_mem {k : Nat} {x : List UInt8} : ∀ {R : List (List (List UInt8))} {k : Nat}, (∀ m ∈ R, 0 < m.length) → x ∈ rowR R k → ∃ m ∈ R, x ∈ m
  | [], _, _, h => by simp [rowR] at h
  | m :: R, k, hp, h => by
    rw [rowR] at h
    have hm := Nat.mod_lt k (hp m (by simp))
    rcases List.mem_append.1 h with h | h
    · obtain ⟨m', h1, h2⟩ := rowR_mem (k := k) (fun x hx => hp x (by simp [hx])) h
      exact ⟨m', by simp [h1], h2⟩
    · rw [gi_nat hm, List.mem_singleton] at h
      exact ⟨m, by simp, h ▸ List.getElem_mem _⟩
theorem take_rev {α : Type} (L : List α) {i : Nat} (h : i < L.length) : (L.take (i + 1)).reverse = L[i] :: (L.take i).reverse := by
  rw [← List.take_append_getElem h, List.reverse_append]; rfl
theorem cnt_mono (L : List (List (List UInt8))) (hp : ∀ m ∈ L, 0 < m.length) : ∀ d i, i + d = L.length → cntR (L.take i).reverse ≤ cntR L.reverse
  | 0, i, h => by rw [show i = L.length by omega, List.take_length]; exact Nat.le_refl _
  | d + 1, i, h => by
    have hi : i < L.length := by omega
    have := cnt_mono L hp d (i + 1) (by omega)
    rw [take_rev L hi, cntR] at this
    exact Nat.le_trans (Nat.le_mul_of_pos_right _ (hp _ (List.getElem_mem hi))) this
/-! ### The program -/
theorem vCount_loop (L : List (List (List UInt8))) (hL : L.length ≤ 10000000) (hb : ∀ m ∈ L, m.length ≤ 65535) : ∀ (d i n : Nat) (c : Nat), i + d = L.length → d < n → (∀ m ∈ L.take i, 0 < m.length) → c = min (cntR (L.take i).reverse) 4097 →
    m_finset_count_L2 L (fun x => some x) n (c : Int) i = some (if L.all (fun m => decide (0 < m.length)) then ((min (cntR L.reverse) 4097 : Nat) : Int) else 0) := by
  intro d
  induction d with
  | zero =>
    intro i n c hi hn hp hc
    obtain ⟨n, rfl⟩ : ∃ q, n = q + 1 := ⟨n - 1, by omega⟩
    rw [show i = L.length by omega, List.take_length] at hp hc
    rw [m_finset_count_L2, m_finset_count_B2, if_neg (by omega), if_pos (by simpa using hp), hc]
  | succ d ih =>
    intro i n c hi hn hp hc
    obtain ⟨n, rfl⟩ : ∃ q, n = q + 1 := ⟨n - 1, by omega⟩
    have hil : i < L.length := by omega
    rw [m_finset_count_L2, m_finset_count_B2, if_pos (by omega), need_pos (by omega), gi_nat hil, i64_succ (by omega)]
    have hbi := hb _ (List.getElem_mem hil)
    by_cases h0 : L[i].length = 0
    · rw [if_pos (by omega), if_neg]
      intro h
      have := List.all_eq_true.1 h _ (List.getElem_mem hil)
      simp [h0] at this
    · rw [if_neg (by omega)]
      have hc7 : c ≤ 4097 := by rw [hc]; exact Nat.min_le_right _ _
      have hmul : c * L[i].length ≤ 4097 * 65535 := Nat.mul_le_mul hc7 hbi
      have e1 : i64 ((c : Int) * (L[i].length : Int)) = ((c * L[i].length : Nat) : Int) := by rw [← Int.natCast_mul]; exact i64_id (by omega)
      rw [e1, show min (((c * L[i].length : Nat) : Int)) 4097 = ((min (c * L[i].length) 4097 : Nat) : Int) by omega]
      refine ih (i + 1) n _ (by omega) (by omega) (fun m hm => ?_) ?_
      · rw [← List.take_append_getElem hil] at hm
        rcases List.mem_append.1 hm with h | h
        · exact hp m h
        · rw [List.mem_singleton.1 h]; omega
      · rw [take_rev L hil, cntR]
        generalize cntR (L.take i).reverse = C at hc
        generalize L[i].length = z at h0
        by_cases hC : C ≤ 4097
        · rw [hc, Nat.min_eq_left hC]
        · have h1 : 4097 * 1 ≤ 4097 * z := Nat.mul_le_mul_left _ (by omega)
          have h2 : 4097 * 1 ≤ C * z := Nat.mul_le_mul (by omega) (by omega)
          have hc' : c = 4097 := by rw [hc]; exact Nat.min_eq_right (by omega)
          rw [hc', Nat.min_eq_right (by omega), Nat.min_eq_right (by omega)]
theorem vCount (L : List (List (List UInt8))) (hL : L.length ≤ 10000000) (hb : ∀ m ∈ L, m.length ≤ 65535) : m_finset_count L = some (if L.all (fun m => decide (0 < m.length)) then ((min (cntR L.reverse) 4097 : Nat) : Int) else 0) := by
  have hFU := FU_ge
  unfold m_finset_count
  rw [jn_eq]
  have := vCount_loop L hL hb L.length 0 FU 1 (by omega) (by omega) (by simp) rfl
  rw [Int.natCast_zero] at this
  exact this
theorem vRow {y1 : List (List (List UInt8)) × Int} (hL : y1.1.length ≤ 10000000) (hp : ∀ m ∈ y1.1, 0 < m.length ∧ m.length ≤ 65535) (K : List (List UInt8) → Option (List UInt8 × Int)) : ∀ (j n k : Nat) (T : List (List UInt8)), j ≤ y1.1.length → j < n → k ≤ 100000 →
    m_finset_Product_L26 y1 K n k (List.replicate j ([] : List UInt8) ++ T) ((j : Int) - 1) = K (rowR (y1.1.take j).reverse k ++ T) := by
  intro j
  induction j with
  | zero =>
    intro n k T hj hn hk
    obtain ⟨n, rfl⟩ : ∃ q, n = q + 1 := ⟨n - 1, by omega⟩
    rw [m_finset_Product_L26, m_finset_Product_B26, if_neg (by omega)]
    simp [rowR]
  | succ j ih =>
    intro n k T hj hn hk
    obtain ⟨n, rfl⟩ : ∃ q, n = q + 1 := ⟨n - 1, by omega⟩
    have hjl : j < y1.1.length := by omega
    obtain ⟨h0, hb⟩ := hp _ (List.getElem_mem hjl)
    have e : ((j + 1 : Nat) : Int) - 1 = (j : Int) := by omega
    have ht : Int.tmod (k : Int) (y1.1[j].length : Int) = ((k % y1.1[j].length : Nat) : Int) := rfl
    have hdv : Int.tdiv (k : Int) (y1.1[j].length : Int) = ((k / y1.1[j].length : Nat) : Int) := rfl
    have hd : k / y1.1[j].length ≤ k := Nat.div_le_self _ _
    have hm : k % y1.1[j].length < y1.1[j].length := Nat.mod_lt _ h0
    have hset : List.set (List.replicate (j + 1) ([] : List UInt8) ++ T) j (gi y1.1[j] ((k % y1.1[j].length : Nat) : Int)) = List.replicate j ([] : List UInt8) ++ (gi y1.1[j] ((k % y1.1[j].length : Nat) : Int) :: T) := by
      rw [List.replicate_succ', List.append_assoc, List.set_append_right _ _ (by simp)]
      simp
    rw [m_finset_Product_L26, m_finset_Product_B26, e, if_pos (by omega), gi_nat hjl, ht, hdv, Int.toNat_natCast, hset]
    have ei : i64 ((k / y1.1[j].length : Nat) : Int) = ((k / y1.1[j].length : Nat) : Int) := by
      generalize k / y1.1[j].length = z at hd
      exact i64_id (by omega)
    have ei2 : i64 ((j : Int) - 1) = (j : Int) - 1 := i64_id (by omega)
    rw [need_pos (by omega), need_pos (by omega), need_pos (by omega), need_pos (by omega), need_pos (by simp; omega), need_pos (by omega), need_pos (by omega), ei, ei2, ih n _ _ (by omega) (by omega) (by omega), take_rev _ hjl, rowR]
    simp
theorem vRows {y1 : List (List (List UInt8)) × Int} (hL : y1.1.length ≤ 10000000) (hp : ∀ m ∈ y1.1, 0 < m.length ∧ m.length ≤ 65535) (hx : ∀ m ∈ y1.1, ∀ x ∈ m, x.length ≤ 131072) (N : Nat) (hN : N ≤ 4096) (K : List (List UInt8) → Option (List UInt8 × Int)) : ∀ (d j n : Nat) (out : List (List UInt8)), j + d = N → d < n → out.length + d ≤ 100000 →
    m_finset_Product_L14 y1 (N : Int) K n out j = K (out ++ (List.range' j d).map (fun k : Nat => cmpd 4 (rowR y1.1.reverse k))) := by
  have hFU := FU_ge
  intro d
  induction d with
  | zero =>
    intro j n out hi hn ho
    obtain ⟨n, rfl⟩ : ∃ q, n = q + 1 := ⟨n - 1, by omega⟩
    rw [m_finset_Product_L14, m_finset_Product_B14, if_neg (by omega)]
    simp
  | succ d ih =>
    intro j n out hi hn ho
    obtain ⟨n, rfl⟩ : ∃ q, n = q + 1 := ⟨n - 1, by omega⟩
    rw [m_finset_Product_L14, m_finset_Product_B14, if_pos (by omega)]
    simp only [jn_eq]
    have hr := vRow hL hp (fun x9_j563 => bnd1 (m_value_Seq x9_j563) (fun y607 => need (List.length out + List.length [y607] ≤ 137438953472) (m_finset_Product_L14 y1 (N : Int) K n (out ++ [y607]) (i64 ((j : Int) + 1))))) y1.1.length FU j [] (by omega) (by omega) (by omega)
    rw [List.append_nil, List.append_nil, List.take_length] at hr
    rw [need_pos (by omega), i64_id (x := (y1.1.length : Int) - 1) (by omega), Int.toNat_natCast, hr, vSeq _ (fun x h => by
      obtain ⟨m, h1, h2⟩ := rowR_mem (k := j) (fun m hm => (hp m (by simpa using hm)).1) h
      have := hx m (by simpa using h1) x h2; omega), bnd1_mk, need_pos (by simp; omega), i64_succ (by omega), ih (j + 1) n _ (by omega) (by omega) (by simp; omega)]
    simp [List.range'_succ]
/-- The answer. -/
noncomputable def pdW (l : List (List UInt8)) : List UInt8 × Int :=
  if l.all isSet = true then (if (l.map prtW).all (fun m => decide (0 < m.length)) = true then (if 4096 < cntR (l.map prtW).reverse then ([], 9) else bndW ((rowsR (l.map prtW).reverse).map (cmpd 4))) else (setW [], 0)) else ([], 6)
theorem vProduct (l : List (List UInt8)) (hl : l.length ≤ 10000000) : m_finset_Product l = some (pdW l) := by
  have hFU := FU_ge
  unfold m_finset_Product pdW
  rw [vElements _ (by omega), bnd1_mk]
  have hb : ∀ m ∈ l.map prtW, m.length ≤ 65535 := fun m hm => by
    obtain ⟨v, _, rfl⟩ := List.mem_map.1 hm
    exact (prtW_spec v).2.1
  have hx : ∀ m ∈ l.map prtW, ∀ x ∈ m, x.length ≤ 131072 := fun m hm x hxm => by
    obtain ⟨v, _, rfl⟩ := List.mem_map.1 hm
    exact ((prtW_spec v).1 x hxm).2
  by_cases h : l.all isSet = true
  · rw [if_pos h, if_pos h]
    generalize hy : ((l.map prtW, 0) : List (List (List UInt8)) × Int) = y1
    have hg : l.map prtW = y1.1 := by rw [← hy]
    have hg0 : y1.2 = 0 := by rw [← hy]
    rw [hg] at hb hx ⊢
    have hyl : y1.1.length ≤ 10000000 := by rw [← hg]; simpa using hl
    have hsetf : ∀ S : List (List UInt8), S.length ≤ 4096 → (∀ x ∈ S, x.length ≤ 131072) → m_finset_set S = some (bndW S) := fun S hS hSx => vSetF S (by omega) (fun x hx => by have := hSx x hx; omega) (.inr hS)
    rw [if_neg (fun h => h hg0), vCount _ hyl hb, bnd1_mk]
    by_cases ha : y1.1.all (fun m => decide (0 < m.length)) = true
    · rw [if_pos ha, if_pos ha]
      have hpos : ∀ m ∈ y1.1, 0 < m.length := by simpa using ha
      by_cases hc : 4096 < cntR y1.1.reverse
      · rw [if_pos (by omega), if_pos hc]
      · rw [if_neg (by omega), if_neg hc, jn_eq, show min (cntR y1.1.reverse) 4097 = cntR y1.1.reverse by omega]
        have hr := vRows hyl (fun m hm => ⟨hpos m hm, hb m hm⟩) hx (cntR y1.1.reverse) (by omega) (fun x => bnd1 (m_finset_set x) (fun y610 => some (y610.1, y610.2))) (cntR y1.1.reverse) 0 FU [] (by omega) (by omega) (by simp; omega)
        rw [Int.natCast_zero] at hr
        have he : (List.range' 0 (cntR y1.1.reverse)).map (fun k : Nat => cmpd 4 (rowR y1.1.reverse k)) = (rowsR y1.1.reverse).map (cmpd 4) := by
          rw [rowsR_eq _ (fun m hm => hpos m (by simpa using hm)), List.map_map, ← List.range_eq_range']; rfl
        rw [hr, List.nil_append, he, hsetf _ (by rw [List.length_map, rowsR_len]; omega) (fun x hx => by
          obtain ⟨r, _, rfl⟩ := List.mem_map.1 hx
          unfold cmpd; split
          · rename_i h; exact h.2.2.2
          · simp), bnd1_mk]
    · rw [if_neg ha, if_neg ha, if_neg (by omega), jn_eq]
      obtain ⟨n, hn⟩ := FU_k 1 (by omega)
      rw [hn, m_finset_Product_L14, m_finset_Product_B14, if_neg (by omega), hsetf [] (by simp) (by simp), bnd1_mk, (fs_set (L := []) (by simp)).2.2.1]
  · rw [if_neg h, if_neg h, if_pos (by decide)]

/-! ### The reference -/
theorem rProd_in (X : List (List (List UInt8))) (m : List (List UInt8)) (i : Nat) (hi : i < X.length) (hb : X.length ≤ 4096 ∧ m.length ≤ 65535 ∧ X[i].length ≤ 10000000) (K : List (List (List UInt8)) → Option (List UInt8 × Int)) : ∀ (d j n : Nat) (out : List (List (List UInt8))), j + d = m.length → d < n → out.length ≤ 4096 →
    m_ref9_Product_L172 X m i K n out j = if out.length + d ≤ 4096 then K (out ++ (m.drop j).map (fun x => X[i] ++ [x])) else some ([], 9) := by
  intro d
  induction d with
  | zero =>
    intro j n out hj hn ho
    obtain ⟨n, rfl⟩ : ∃ q, n = q + 1 := ⟨n - 1, by omega⟩
    rw [m_ref9_Product_L172, m_ref9_Product_B172, if_neg (by omega), if_pos (by omega), List.drop_eq_nil_of_le (by omega)]
    simp
  | succ d ih =>
    intro j n out hj hn ho
    obtain ⟨n, rfl⟩ : ∃ q, n = q + 1 := ⟨n - 1, by omega⟩
    have hjl : j < m.length := by omega
    rw [m_ref9_Product_L172, m_ref9_Product_B172, if_pos (by omega)]
    by_cases hc : 4096 ≤ out.length
    · rw [if_pos (by omega), if_neg (by omega)]
    · rw [if_neg (by omega), gi_nat hi, gi_nat hjl, need_pos (by omega), need_pos (by omega), need_pos (by omega), need_pos (by simp; omega), need_pos (by simp; omega), i64_succ (by omega), ih (j + 1) n _ (by omega) (by omega) (by simp; omega), List.drop_eq_getElem_cons hjl]
      simp only [List.length_append, List.length_cons, List.length_nil, List.map_cons, List.append_assoc, List.singleton_append]
      by_cases h : out.length + (d + 1) ≤ 4096
      · rw [if_pos (by omega), if_pos h]
      · rw [if_neg (by omega), if_neg h]
theorem rProd_mid (X : List (List (List UInt8))) (m : List (List UInt8)) (hb : X.length ≤ 4096 ∧ m.length ≤ 65535 ∧ ∀ r ∈ X, r.length ≤ 10000000) (K : List (List (List UInt8)) → Option (List UInt8 × Int)) : ∀ (d i n : Nat) (out : List (List (List UInt8))), i + d = X.length → d < n → out.length ≤ 4096 →
    m_ref9_Product_L166 X m K n out i = if out.length + ((X.drop i).flatMap (fun r => m.map (fun x => r ++ [x]))).length ≤ 4096 then K (out ++ (X.drop i).flatMap (fun r => m.map (fun x => r ++ [x]))) else some ([], 9) := by
  have hFU := FU_ge
  intro d
  induction d with
  | zero =>
    intro i n out hi hn ho
    obtain ⟨n, rfl⟩ : ∃ q, n = q + 1 := ⟨n - 1, by omega⟩
    rw [m_ref9_Product_L166, m_ref9_Product_B166, if_neg (by omega), List.drop_eq_nil_of_le (by omega)]
    simp [ho]
  | succ d ih =>
    intro i n out hi hn ho
    obtain ⟨n, rfl⟩ : ∃ q, n = q + 1 := ⟨n - 1, by omega⟩
    have hil : i < X.length := by omega
    rw [m_ref9_Product_L166, m_ref9_Product_B166, if_pos (by omega), jn_eq]
    have hin := rProd_in X m i hil ⟨hb.1, hb.2.1, hb.2.2 _ (List.getElem_mem hil)⟩ (fun x8_j3710 => m_ref9_Product_L166 X m K n x8_j3710 (i64 ((i : Int) + 1))) m.length 0 FU out (by omega) (by omega) ho
    rw [Int.natCast_zero, List.drop_zero, i64_succ (by omega)] at hin
    rw [i64_succ (by omega), hin, List.drop_eq_getElem_cons hil, List.flatMap_cons]
    by_cases h : out.length + m.length ≤ 4096
    · rw [if_pos h, ih (i + 1) n _ (by omega) (by omega) (by simp; omega)]
      simp only [List.length_append, List.length_map, List.append_assoc]
      by_cases h2 : out.length + (m.length + ((X.drop (i + 1)).flatMap (fun r => m.map (fun x => r ++ [x]))).length) ≤ 4096
      · rw [if_pos (by omega), if_pos h2]
      · rw [if_neg (by omega), if_neg h2]
    · rw [if_neg h, if_neg (by simp only [List.length_append, List.length_map]; omega)]
theorem rowsR_mem_len {r : List (List UInt8)} : ∀ {R : List (List (List UInt8))}, r ∈ rowsR R → r.length = R.length
  | [], h => by simp [rowsR] at h; subst h; rfl
  | m :: R, h => by
    rw [rowsR] at h
    obtain ⟨s, h1, h2⟩ := List.mem_flatMap.1 h
    obtain ⟨x, _, rfl⟩ := List.mem_map.1 h2
    rw [List.length_append, rowsR_mem_len h1]; rfl
theorem rProd_out (l : List (List UInt8)) (hl : l.length ≤ 1100000) (hp : ∀ m ∈ l.map prtW, 0 < m.length) (K : List (List (List UInt8)) → Option (List UInt8 × Int)) : ∀ (d i n : Nat), i + d = l.length → d < n → cntR ((l.map prtW).take i).reverse ≤ 4096 →
    m_ref9_Product_L88 l K n (rowsR ((l.map prtW).take i).reverse) i = if cntR (l.map prtW).reverse ≤ 4096 then K (rowsR (l.map prtW).reverse) else some ([], 9) := by
  have hFU := FU_ge
  intro d
  induction d with
  | zero =>
    intro i n hi hn hc
    obtain ⟨n, rfl⟩ : ∃ q, n = q + 1 := ⟨n - 1, by omega⟩
    have e : (l.map prtW).take i = l.map prtW := List.take_of_length_le (by simp; omega)
    rw [e] at hc ⊢
    rw [m_ref9_Product_L88, m_ref9_Product_B88, if_neg (by omega), if_pos hc]
  | succ d ih =>
    intro i n hi hn hc
    obtain ⟨n, rfl⟩ : ∃ q, n = q + 1 := ⟨n - 1, by omega⟩
    have hil : i < l.length := by omega
    have hil' : i < (l.map prtW).length := by simpa using hil
    have hm := cnt_mono (l.map prtW) hp (l.length - (i + 1)) (i + 1) (by simp; omega)
    have htr := take_rev (l.map prtW) hil'
    rw [List.getElem_map] at htr
    have hmid := rProd_mid (rowsR ((l.map prtW).take i).reverse) (prtW l[i]) ⟨by rw [rowsR_len]; omega, (prtW_spec l[i]).2.1, fun r hr => by rw [rowsR_mem_len hr]; simp; omega⟩ (fun x => m_ref9_Product_L88 l K n x ((i + 1 : Nat) : Int)) (rowsR ((l.map prtW).take i).reverse).length 0 FU [] (by omega) (by rw [rowsR_len]; omega) (by simp)
    rw [Int.natCast_zero, List.drop_zero, List.nil_append] at hmid
    have hT : (rowsR ((l.map prtW).take i).reverse).flatMap (fun r => (prtW l[i]).map (fun x => r ++ [x])) = rowsR ((l.map prtW).take (i + 1)).reverse := by rw [htr, rowsR]
    rw [hT, rowsR_len, List.length_nil, Nat.zero_add] at hmid
    rw [m_ref9_Product_L88, m_ref9_Product_B88, if_pos (by omega)]
    simp only [jn_eq]
    rw [need_pos (by omega), gi_nat hil, rPartsW, bnd1_mk, i64_succ (by omega), hmid]
    by_cases h : cntR ((l.map prtW).take (i + 1)).reverse ≤ 4096
    · rw [if_pos h, ih (i + 1) n (by omega) (by omega) h]
    · rw [if_neg h, if_neg (by omega)]
theorem rProd_empty (l : List (List UInt8)) (hl : l.length ≤ 10000000) (K : Unit → Option (List UInt8 × Int)) : m_ref9_Product_L2 l K FU 0 = if (l.map prtW).all (fun m => decide (0 < m.length)) = true then K () else some (setW [], 0) := by
  have h := loop_all l (by omega) (fun n (_ : Unit) i => m_ref9_Product_L2 l K n i) (fun s x k => if !decide (0 < (prtW x).length) then some (setW [], 0) else k s) K (fun n s i hi => by
      show m_ref9_Product_L2 l _ (n + 1) _ = _
      rw [m_ref9_Product_L2, m_ref9_Product_B2, if_pos (by omega), need_pos (by omega), gi_nat hi, rPartsW, bnd1_mk, i64_succ (by omega), rSet [] (by simp), bnd1_mk]
      by_cases hk : (prtW l[i]).length = 0
      · rw [if_pos (by omega), if_pos (by rw [hk]; rfl)]
      · have hk' : 0 < (prtW l[i]).length := by omega
        rw [if_neg (by omega), if_neg (by rw [decide_eq_true hk']; simp)]) (fun n s => by
      show m_ref9_Product_L2 l _ (n + 1) _ = _
      rw [m_ref9_Product_L2, m_ref9_Product_B2, if_neg (by omega)]) ()
  refine h.trans ?_
  rw [foldK_any]
  by_cases ha : (l.map prtW).all (fun m => decide (0 < m.length)) = true
  · rw [if_pos ha, if_neg]
    simp at ha ⊢
    intro x hx
    exact List.length_pos_iff.1 (ha x hx)
  · rw [if_neg ha, if_pos]
    simp at ha ⊢
    exact ha
theorem setW_bad {l : List (List UInt8)} (h : [] ∈ l) : setW l = [] := by
  unfold setW
  exact cmpd_no (fun hh => (hh.2.1 [] (((sortW_spec l).2.1 []).2 h)).ne rfl)
theorem rProd_make (X : List (List (List UInt8))) (hX : X.length ≤ 4096) (hr : ∀ r ∈ X, r.length ≤ 10000000) : m_ref9_Product_L174 X (fun x => bnd1 (m_ref9_bounded x) (fun y => some (y.1, y.2))) FU [] 0 = some (bndW (X.map (cmpd 4))) := by
  have hmk : ∀ r ∈ X, m_ref9_Make 4 r = some (cmpd 4 r) := fun r h => by
    have := rMake 4 (by decide) r (by have := hr r h; omega)
    rwa [show ((4 : UInt8).toNat : Int) = 4 from rfl] at this
  have h := loop_all X (by omega) (fun n s i => m_ref9_Product_L174 X (fun x => bnd1 (m_ref9_bounded x) (fun y => some (y.1, y.2))) n s i) (fun r x k => if !decide (cmpd 4 x = []) then need (List.length r + 1 ≤ 137438953472) (k (r ++ [cmpd 4 x])) else some ([], 9)) (fun x => bnd1 (m_ref9_bounded x) (fun y => some (y.1, y.2))) (fun n s i hi => by
      show m_ref9_Product_L174 X _ (n + 1) _ _ = _
      rw [m_ref9_Product_L174, m_ref9_Product_B174, if_pos (by omega), need_pos (by omega), gi_nat hi, hmk _ (List.getElem_mem hi), bnd1_mk, i64_succ (by omega)]
      by_cases hk : cmpd 4 X[i] = []
      · rw [if_pos hk, if_neg (by simp [hk])]
      · rw [if_neg hk, if_pos (by simp [hk])]; rfl) (fun n s => by
      show m_ref9_Product_L174 X _ (n + 1) _ _ = _
      rw [m_ref9_Product_L174, m_ref9_Product_B174, if_neg (by omega)]) []
  refine h.trans ?_
  rw [foldK_all _ _ _ _ _ _ (by simp; omega)]
  by_cases ha : X.all (fun x => !decide (cmpd 4 x = [])) = true
  · rw [if_pos ha, List.nil_append, rBounded _ (by simp; omega), bnd1_mk]
  · rw [if_neg ha]
    have hm : ([] : List UInt8) ∈ X.map (cmpd 4) := by
      simp at ha
      obtain ⟨x, hx, he⟩ := ha
      exact List.mem_map.2 ⟨x, hx, he⟩
    unfold bndW
    rw [if_pos (.inr (setW_bad hm))]
theorem rProduct (l : List (List UInt8)) (hl : l.length ≤ 1100000) : m_ref9_Product l = some (pdW l) := by
  have hFU := FU_ge
  unfold m_ref9_Product pdW
  rw [rSets _ (by omega), bnd1_mk]
  by_cases h : l.all isSet = true
  · rw [if_pos h, if_neg (by simpa using h)]
    simp only [jn_eq]
    rw [rProd_empty l (by omega)]
    by_cases ha : (l.map prtW).all (fun m => decide (0 < m.length)) = true
    · rw [if_pos ha, if_pos ha]
      have hpos : ∀ m ∈ l.map prtW, 0 < m.length := fun m hm => of_decide_eq_true (List.all_eq_true.1 ha m hm)
      have hout := rProd_out l hl hpos (fun x4_j22 => m_ref9_Product_L174 x4_j22 (fun x => bnd1 (m_ref9_bounded x) (fun y => some (y.1, y.2))) FU [] 0) l.length 0 FU (by omega) (by omega) (by simp [cntR])
      rw [Int.natCast_zero] at hout
      refine Eq.trans hout ?_
      by_cases hc : cntR (l.map prtW).reverse ≤ 4096
      · rw [if_pos hc, if_neg (by omega), rProd_make _ (by rw [rowsR_len]; exact hc) (fun r hr => by rw [rowsR_mem_len hr]; simp; omega)]
      · rw [if_neg hc, if_pos (by omega)]
    · rw [if_neg ha, if_neg ha]
  · rw [if_neg h, if_pos (by simpa using h)]
end Go.Proofs.Ytdbnodliomlilaa
/- FinsetProducts, where the arguments hold at most 1048576 items. -/
namespace Go.Proofs.Ytdbnodliomlilaa
attribute [local irreducible] FU

theorem szL_ge {α : Type} (f : α → Nat) (h : ∀ x, 1 ≤ f x) : ∀ l : List α, l.length ≤ szL f l
  | [] => by simp [szL]
  | x :: l => by
    have := szL_ge f h l
    have := h x
    simp only [szL, List.map_cons, List.sum_cons, List.length_cons] at *
    omega
theorem gProd_loop (K : List (List UInt8) → Option Bool) : ∀ (m n : Nat) (l : List Int) (i : Int) (out : List (List UInt8)), m < n → GS l i → out.length + m ≤ 1000 →
    ∃ out', m_law10_FinsetProducts_L2 K n l i out m = K out' ∧ out'.length = out.length + m := by
  intro m
  induction m with
  | zero =>
    intro n l i out hn hg ho
    obtain ⟨n, rfl⟩ : ∃ q, n = q + 1 := ⟨n - 1, by omega⟩
    exact ⟨out, by rw [m_law10_FinsetProducts_L2, m_law10_FinsetProducts_B2, if_neg (by omega)], rfl⟩
  | succ m ih =>
    intro n l i out hn hg ho
    obtain ⟨n, rfl⟩ : ∃ q, n = q + 1 := ⟨n - 1, by omega⟩
    obtain ⟨i1, L, e1, g1, _⟩ := gInts hg
    have e2 : i64 (((m + 1 : Nat) : Int) - 1) = (m : Int) := by rw [i64_id (by omega)]; omega
    obtain ⟨out', h1, h3⟩ := ih n l i1 (out ++ [setW L]) (by omega) g1 (by simp; omega)
    refine ⟨out', ?_, by rw [h3]; simp; omega⟩
    rw [m_law10_FinsetProducts_L2, m_law10_FinsetProducts_B2, if_pos (by omega), e1, bnd1_mk]
    simp only []
    rw [need_pos (by simp; omega), e2, h1]
theorem tmod_bd (x : Int) {m : Int} (h : 0 < m) : -m < Int.tmod x m ∧ Int.tmod x m < m := by
  have h1 := Int.tmod_lt_of_pos x h
  have h2 := Int.tmod_lt_of_pos (-x) h
  rw [Int.neg_tmod] at h2
  omega
theorem wf_i64 {x : Int} (h : (Lit.int .i64 x).wf = true) : -9223372036854775808 ≤ x ∧ x ≤ 9223372036854775807 := by
  simpa [Lit.wf, IntKind.min, IntKind.max, IntKind.signed, IntKind.bits] using h
theorem finsetProducts_true (l : List (List UInt8)) (a b : Int) (c : List Int) (_ : l.length ≤ maxLen ∧ ∀ x ∈ l, x.length ≤ maxLen) (ha : (Lit.int .i64 a).wf = true) (hb : (Lit.int .i64 b).wf = true) (hc : c.length ≤ maxLen ∧ ∀ x ∈ c, (Lit.int .i64 x).wf = true)
    (hsz : (szL (fun x : List UInt8 => x.length + 1) l + 1) + 1 + 1 + (szL (fun _ : Int => 1) c + 1) ≤ 1048576) : m_law10_FinsetProducts l a b c = some true := by
  have hFU := FU_ge
  obtain ⟨a1, a2⟩ := wf_i64 ha
  obtain ⟨b1, b2⟩ := wf_i64 hb
  have hl := szL_ge (fun x : List UInt8 => x.length + 1) (fun x => by omega) l
  by_cases hl1 : l.length ≤ 1100000
  · unfold m_law10_FinsetProducts m_gen_New
    rw [bnd1_mk, jn_eq]
    simp only []
    obtain ⟨y, i1, e1, g1, y0, y1⟩ := gNext (gs_new hc) (n := 5) (by omega) (by omega)
    obtain ⟨m, rfl⟩ : ∃ m : Nat, y = m := ⟨y.toNat, by omega⟩
    rw [e1, bnd1_mk]
    simp only []
    obtain ⟨X, h1, h2⟩ := gProd_loop (fun x10_j3 => bnd1 (m_finset_Product l) (fun y25 => bnd1 (m_ref9_Product l) (fun y26 => bnd1 (m_finset_Product x10_j3) (fun y27 => bnd1 (m_ref9_Product x10_j3) (fun y28 => bnd1 (m_finset_Range a b) (fun y29 => bnd1 (m_ref9_Range a b) (fun y30 => bnd1 (m_finset_Range (Int.tmod a 100) (i64 ((Int.tmod a 100) + (Int.tmod b 20)))) (fun y31 => bnd1 (m_ref9_Range (Int.tmod a 100) (i64 ((Int.tmod a 100) + (Int.tmod b 20)))) (fun y32 => jn (fun (x8_j33 : Bool) => some x8_j33) (fun k33 => bnd1 (m_law10_awake) (fun y35 => if y35 then (if y25.1 = y26.1 then (if y25.2 = y26.2 then (if y27.1 = y28.1 then (if y27.2 = y28.2 then (if y29.1 = y30.1 then (if y29.2 = y30.2 then (if y31.1 = y32.1 then (k33 (decide (y31.2 = y32.2))) else (k33 false)) else (k33 false)) else (k33 false)) else (k33 false)) else (k33 false)) else (k33 false)) else (k33 false)) else (k33 false)))))))))))) m FU c i1 [] (by omega) g1 (by simp; omega)
    simp at h2
    rw [h1]
    have t1 := tmod_bd a (m := 100) (by omega)
    have t2 := tmod_bd b (m := 20) (by omega)
    have e2 : i64 (Int.tmod a 100 + Int.tmod b 20) = Int.tmod a 100 + Int.tmod b 20 := i64_id (by omega)
    rw [e2]
    simp only [vProduct l (by omega), rProduct l hl1, vProduct X (by omega), rProduct X (by omega), bnd1_mk, vRange a1 b2 b1 a2, rRange a1 b2, vRange (a := Int.tmod a 100) (b := Int.tmod a 100 + Int.tmod b 20) (by omega) (by omega) (by omega) (by omega), rRange (a := Int.tmod a 100) (b := Int.tmod a 100 + Int.tmod b 20) (by omega) (by omega), jn_eq, awake_true, if_true, decide_true]
  · omega
end Go.Proofs.Ytdbnodliomlilaa
