/- Making values: program and reference agree. -/
import Derived.Test.YtdppkpiagdaigaaGreatDoorQv1
import Derived.Test.YtdppkpiagdaigaaGreatDoorQv0
namespace Go.Proofs.YtdppkpiagdaigaaGreatDoor
attribute [local irreducible] FU

/-- The bytes of a compound value. -/
def raw (c : UInt8) (l : List (List UInt8)) : List UInt8 := c :: u8i ((l.length / 256 : Nat) : Int) :: u8i ((l.length : Nat) : Int) :: l.flatten
theorem raw_len (c : UInt8) (l : List (List UInt8)) : (raw c l).length = l.flatten.length + 3 := rfl
theorem raw_count {l : List (List UInt8)} (h : l.length ≤ 65535) : l.length = (u8i ((l.length / 256 : Nat) : Int)).toNat * 256 + (u8i ((l.length : Nat) : Int)).toNat := by
  rw [u8i_nat, u8i_nat]; omega
noncomputable def cmpd (c : UInt8) (l : List (List UInt8)) : List UInt8 := by
  classical exact if l.length ≤ 65535 ∧ (∀ x ∈ l, Vd x) ∧ Vd (raw c l) then raw c l else []
theorem cmpd_yes {c : UInt8} {l : List (List UInt8)} (h : l.length ≤ 65535 ∧ (∀ x ∈ l, Vd x) ∧ Vd (raw c l)) : cmpd c l = raw c l := by unfold cmpd; rw [if_pos h]
theorem cmpd_no {c : UInt8} {l : List (List UInt8)} (h : ¬ (l.length ≤ 65535 ∧ (∀ x ∈ l, Vd x) ∧ Vd (raw c l))) : cmpd c l = [] := by unfold cmpd; rw [if_neg h]
theorem prt_raw {c : UInt8} {l : List (List UInt8)} (hc : 3 ≤ c.toNat ∧ c.toNat ≤ 9) (hl : l.length ≤ 65535) (hv : ∀ x ∈ l, Vd x) : prt (raw c l) = l := prt_comp hc (raw_count hl) (fun x h => (hv x h).1.sh) (by omega)
theorem indexFunc_eq (f : List UInt8 → Option Bool) (p : List UInt8 → Bool) (hf : ∀ x, f x = some (p x)) (l : List (List UInt8)) (hl : l.length ≤ 1099511627776) : m_slices_ContainsFunc_L_api_Value_api_Value l f = some (l.any p) := by
  have hFU := FU_ge
  unfold m_slices_ContainsFunc_L_api_Value_api_Value m_slices_IndexFunc_L_api_Value_api_Value
  rw [jn_eq]
  have loop : ∀ (m i n : Nat), i + m = l.length → m < n → ∃ r, m_slices_IndexFunc_L_api_Value_api_Value_L2 l f (fun _ => some (-1)) n i = some r ∧ decide (0 ≤ r) = (l.drop i).any p := by
    intro m
    induction m with
    | zero =>
      intro i n hi hn
      obtain ⟨n, rfl⟩ : ∃ k, n = k + 1 := ⟨n - 1, by omega⟩
      refine ⟨-1, by rw [m_slices_IndexFunc_L_api_Value_api_Value_L2, m_slices_IndexFunc_L_api_Value_api_Value_B2, if_neg (by omega)], ?_⟩
      rw [List.drop_eq_nil_of_le (by omega)]; rfl
    | succ m ih =>
      intro i n hi hn
      obtain ⟨n, rfl⟩ : ∃ k, n = k + 1 := ⟨n - 1, by omega⟩
      have hil : i < l.length := by omega
      rw [m_slices_IndexFunc_L_api_Value_api_Value_L2, m_slices_IndexFunc_L_api_Value_api_Value_B2, if_pos (by omega), need_pos (by omega), gi_nat hil, hf, bnd1_mk, List.drop_eq_getElem_cons hil, List.any_cons]
      cases hp : p l[i] with
      | true => exact ⟨i, rfl, by simp⟩
      | false =>
        rw [if_neg (by simp), i64_succ (by omega)]
        obtain ⟨r, h1, h2⟩ := ih (i + 1) n (by omega) (by omega)
        exact ⟨r, h1, by rw [h2]; simp⟩
  obtain ⟨r, h1, h2⟩ := loop l.length 0 FU (by omega) (by omega)
  rw [Int.natCast_zero] at h1
  rw [h1, bnd1_mk, h2, List.drop_zero]
theorem vChecked (b : List UInt8) : m_value_checked b = some (if vldB b = true then b else []) := by
  unfold m_value_checked
  rw [vValid, bnd1_mk]
  cases vldB b <;> rfl
theorem rChecked (b : List UInt8) : m_ref9_checked b = some (if vldB b = true then b else []) := by
  unfold m_ref9_checked
  rw [rValid, bnd1_mk]
  cases vldB b <;> rfl
theorem vCompound (c : UInt8) (l : List (List UInt8)) (hx : ∀ x ∈ l, x.length ≤ 1099511627776) : m_value_compound (c.toNat : Int) l = some (cmpd c l) := by
  have hFU := FU_ge
  unfold m_value_compound
  by_cases hl : (65535 : Int) < l.length
  · rw [if_pos hl, cmpd_no (fun h => by have := h.1; omega)]
  · rw [if_neg hl, u8i_toNat]
    have e16 : IntKind.u16.wrap (l.length : Int) = (l.length : Int) := by
      unfold IntKind.wrap IntKind.bits IntKind.signed
      simp; omega
    have e8 : Int.fdiv (l.length : Int) (2 ^ min (Int.toNat 8) IntKind.u16.bits) = ((l.length / 256 : Nat) : Int) := by
      rw [show (2 : Int) ^ min (Int.toNat 8) IntKind.u16.bits = 256 from rfl, Int.fdiv_eq_ediv_of_nonneg _ (by omega)]; omega
    unfold m_value_append16
    rw [e16, e8, need_pos (by simp), bnd1_mk, jn_eq]
    have loop : ∀ (K : List UInt8 → Option (List UInt8)) (m i n : Nat) (b : List UInt8), i + m = l.length → m < n → b.length ≤ 131072 →
        ((∀ x ∈ l.drop i, x ≠ []) ∧ b.length + (l.drop i).flatten.length ≤ 131072 ∧ m_value_compound_L2 l K n b i = K (b ++ (l.drop i).flatten)) ∨ (¬ ((∀ x ∈ l.drop i, x ≠ []) ∧ b.length + (l.drop i).flatten.length ≤ 131072) ∧ m_value_compound_L2 l K n b i = some []) := by
      intro K m
      induction m with
      | zero =>
        intro i n b hi hn hb
        obtain ⟨n, rfl⟩ : ∃ k, n = k + 1 := ⟨n - 1, by omega⟩
        rw [List.drop_eq_nil_of_le (by omega)]
        refine .inl ⟨by simp, by simpa using hb, ?_⟩
        rw [m_value_compound_L2, m_value_compound_B2, if_neg (by omega)]; simp
      | succ m ih =>
        intro i n b hi hn hb
        obtain ⟨n, rfl⟩ : ∃ k, n = k + 1 := ⟨n - 1, by omega⟩
        have hil : i < l.length := by omega
        have hxi := hx _ (List.getElem_mem hil)
        rw [m_value_compound_L2, m_value_compound_B2, if_pos (by omega), need_pos (by omega)]
        simp only [jn_eq]
        rw [gi_nat hil, List.drop_eq_getElem_cons hil]
        by_cases he : l[i] = []
        · rw [if_pos he, if_pos trivial]
          exact .inr ⟨fun h => h.1 _ List.mem_cons_self he, rfl⟩
        · have e1 : i64 ((b.length : Int) + (l[i].length : Int)) = ((b.length + l[i].length : Nat) : Int) := by rw [i64_id (by omega)]; omega
          rw [if_neg he, e1]
          by_cases hs : (131072 : Int) < ((b.length + l[i].length : Nat) : Int)
          · rw [if_pos (decide_eq_true hs)]
            exact .inr ⟨fun h => by have := h.2; simp only [List.flatten_cons, List.length_append] at this; omega, rfl⟩
          · rw [if_neg (fun h => hs (of_decide_eq_true h)), need_pos (by omega), i64_succ (by omega)]
            have hlb : (b ++ l[i]).length = b.length + l[i].length := List.length_append
            rcases ih (i + 1) n (b ++ l[i]) (by omega) (by omega) (by omega) with ⟨h1, h2, h3⟩ | ⟨h1, h2⟩
            · refine .inl ⟨fun x h => ?_, ?_, ?_⟩
              · rcases List.mem_cons.1 h with rfl | h
                · exact he
                · exact h1 x h
              · rw [hlb] at h2; simp only [List.flatten_cons, List.length_append]; omega
              · rw [h3, List.append_assoc, List.flatten_cons]
            · refine .inr ⟨fun h => h1 ⟨fun x hx' => h.1 x (List.mem_cons_of_mem _ hx'), ?_⟩, h2⟩
              have := h.2
              simp only [List.flatten_cons, List.length_append] at this
              rw [hlb]; omega
    have hraw : [c] ++ [u8i ((l.length / 256 : Nat) : Int), u8i ((l.length : Nat) : Int)] ++ l.flatten = raw c l := rfl
    rcases loop _ l.length 0 FU ([c] ++ [u8i ((l.length / 256 : Nat) : Int), u8i ((l.length : Nat) : Int)]) (by omega) (by omega) (by simp) with ⟨h1, h2, h3⟩ | ⟨h1, h2⟩
    · rw [Int.natCast_zero, List.drop_zero, hraw] at h3
      rw [List.drop_zero] at h1 h2
      rw [h3, indexFunc_eq m_value_compound_1 (fun x => !vldB x) (fun x => by unfold m_value_compound_1; rw [vValid, bnd1_mk]) l (by omega), bnd1_mk]
      cases hall : l.any (fun x => !vldB x) with
      | true =>
        rw [if_neg (by simp), cmpd_no]
        intro h
        obtain ⟨x, hx, hv⟩ := List.any_eq_true.1 hall
        rw [vldB_iff.2 (h.2.1 x hx)] at hv; cases hv
      | false =>
        have hv : ∀ x ∈ l, Vd x := fun x hx => by
          have := List.any_eq_false.1 hall x hx
          simp at this; exact vldB_iff.1 this
        rw [if_pos (show (!false) = true from rfl), vChecked, bnd1_mk]
        by_cases hr : Vd (raw c l)
        · rw [if_pos (vldB_iff.2 hr), cmpd_yes ⟨by omega, hv, hr⟩]
        · rw [if_neg (fun h => hr (vldB_iff.1 h)), cmpd_no (fun h => hr h.2.2)]
    · rw [Int.natCast_zero] at h2
      rw [h2, cmpd_no]
      intro h
      rw [List.drop_zero] at h1
      refine h1 ⟨fun x hx => (h.2.1 x hx).ne, ?_⟩
      have := h.2.2.2
      rw [raw_len] at this
      simp; simp at this; omega
theorem rCompound (c : UInt8) (hc : 3 ≤ c.toNat ∧ c.toNat ≤ 9) (l : List (List UInt8)) (hv : ∀ x ∈ l, Vd x) : m_ref9_compound (c.toNat : Int) l = some (cmpd c l) := by
  have hFU := FU_ge
  unfold m_ref9_compound
  by_cases hl : (65535 : Int) < l.length
  · rw [if_pos hl, cmpd_no (fun h => by have := h.1; omega)]
  · rw [if_neg hl, u8i_toNat]
    have e8 : Int.fdiv (l.length : Int) (2 ^ min (Int.toNat 8) IntKind.i64.bits) = ((l.length / 256 : Nat) : Int) := by
      rw [show (2 : Int) ^ min (Int.toNat 8) IntKind.i64.bits = 256 from rfl, Int.fdiv_eq_ediv_of_nonneg _ (by omega)]; omega
    unfold m_ref9_two
    rw [e8, bnd1_mk, need_pos (by simp), jn_eq]
    have hraw : [c] ++ [u8i ((l.length / 256 : Nat) : Int), u8i ((l.length : Nat) : Int)] ++ l.flatten = raw c l := rfl
    -- what is done with the bytes
    have hK : ∀ s : List UInt8, s.length ≤ 1000000 → (131072 < s.length ∨ s = raw c l) → bnd1 (m_ref9_read s 32) (fun y122 => jn (fun (x59_j123 : Bool) => if x59_j123 then (some ([] : List UInt8)) else (bnd1 (m_ref9_checked s) (fun y124 => some y124))) (fun k123 => if ¬ y122.1 = (List.length s : Int) then (k123 true) else (k123 (decide (¬ (List.length y122.2.1 : Int) = (List.length l : Int)))))) = some (if 131072 < s.length then [] else cmpd c l) := by
      intro s hs hcase
      unfold m_ref9_read m_ref9_walk
      have h := rWalk 32 (Nat.le_refl _) FU (by omega) s (by omega)
      rw [show ((32 : Nat) : Int) = 32 from rfl] at h
      simp only [jn_eq, rChecked, bnd1_mk]
      by_cases hlong : 131072 < s.length
      · rw [if_pos hlong]
        have hno : vldB s = false := vldB_no (fun h => by have := h.2; omega)
        rcases h with ⟨w, r, d, e, hv', h⟩ | ⟨_, h⟩
        · rw [h, bnd1_mk, bnd1_mk, hno]
          simp only []
          split
          · rfl
          · split <;> rfl
        · rw [h, bnd1_mk, bnd1_mk, hno]
          simp only []
          split
          · rfl
          · split <;> rfl
      · have hs' : s = raw c l := hcase.resolve_left hlong
        rw [if_neg hlong]
        rcases h with ⟨w, r, d, e, hv', h⟩ | ⟨hno, h⟩
        · rw [h, bnd1_mk, bnd1_mk]
          simp only []
          by_cases hr : r = []
          · subst hr
            rw [List.append_nil] at e
            subst e
            have hvr : Vd (raw c l) := by rw [← hs']; exact ⟨hv', by omega⟩
            rw [if_neg (fun h => h rfl), hs', prt_raw hc (by omega) hv, if_neg (by simp), if_pos (vldB_iff.2 hvr), cmpd_yes ⟨by omega, hv, hvr⟩]
          · have hlr : 0 < r.length := List.length_pos_iff.2 hr
            rw [if_pos (by rw [e]; simp; omega), if_pos trivial, cmpd_no]
            intro hh
            have := (hv'.sh.uniq hh.2.2.1.sh r [] (by rw [List.append_nil, ← e, hs'])).2
            exact hr this
        · rw [h, bnd1_mk, bnd1_mk]
          simp only []
          have h3 : 3 ≤ s.length := by rw [hs', raw_len]; omega
          rw [if_pos (by omega), if_pos trivial, cmpd_no (fun hh => hno s [] (by simp) (by rw [hs']; exact hh.2.2.1))]
    have loop : ∀ (K : List UInt8 → Option (List UInt8)) (m i n : Nat) (b : List UInt8), i + m = l.length → m < n → b.length ≤ 262144 →
        (∃ s, s.length ≤ 262144 ∧ (131072 < s.length ∨ s = b ++ (l.drop i).flatten) ∧ (b.length ≤ s.length) ∧ (131072 < s.length → 131072 < (b ++ (l.drop i).flatten).length) ∧ m_ref9_compound_L2 l K n b i = K s) ∨ (131072 < (b ++ (l.drop i).flatten).length ∧ m_ref9_compound_L2 l K n b i = some []) := by
      intro K m
      induction m with
      | zero =>
        intro i n b hi hn hb
        obtain ⟨n, rfl⟩ : ∃ k, n = k + 1 := ⟨n - 1, by omega⟩
        rw [List.drop_eq_nil_of_le (by omega)]
        refine .inl ⟨b, hb, .inr (by simp), Nat.le_refl _, fun h => by simpa using h, ?_⟩
        rw [m_ref9_compound_L2, m_ref9_compound_B2, if_neg (by omega)]
      | succ m ih =>
        intro i n b hi hn hb
        obtain ⟨n, rfl⟩ : ∃ k, n = k + 1 := ⟨n - 1, by omega⟩
        have hil : i < l.length := by omega
        have hvi := hv _ (List.getElem_mem hil)
        rw [m_ref9_compound_L2, m_ref9_compound_B2, if_pos (by omega)]
        simp only [jn_eq]
        rw [need_pos (by omega), gi_nat hil, List.drop_eq_getElem_cons hil, if_neg hvi.ne]
        by_cases hs : (131072 : Int) < (b.length : Int)
        · rw [if_pos (decide_eq_true hs)]
          exact .inr ⟨by simp; omega, rfl⟩
        · have hvl := hvi.2
          rw [if_neg (fun h => hs (of_decide_eq_true h)), need_pos (by omega), need_pos (by omega), i64_succ (by omega)]
          have hlb : (b ++ l[i]).length = b.length + l[i].length := List.length_append
          have hap : (b ++ l[i]) ++ (l.drop (i + 1)).flatten = b ++ (l[i] :: l.drop (i + 1)).flatten := by simp only [List.flatten_cons, List.append_assoc]
          rcases ih (i + 1) n (b ++ l[i]) (by omega) (by omega) (by omega) with ⟨s, h1, h2, h3, h4, h5⟩ | ⟨h1, h2⟩
          · rw [hap] at h2 h4
            exact .inl ⟨s, h1, h2, by omega, h4, h5⟩
          · rw [hap] at h1
            exact .inr ⟨h1, h2⟩
    rcases loop _ l.length 0 FU ([c] ++ [u8i ((l.length / 256 : Nat) : Int), u8i ((l.length : Nat) : Int)]) (by omega) (by omega) (by simp) with ⟨s, h1, h2, _, h4, h5⟩ | ⟨h1, h2⟩
    · rw [Int.natCast_zero] at h5
      rw [List.drop_zero, hraw] at h2 h4
      rw [h5, hK s (by omega) h2]
      split
      · rename_i hlong
        have := h4 hlong
        rw [cmpd_no (fun h => by have := h.2.2.2; omega)]
      · rfl
    · rw [Int.natCast_zero] at h2
      rw [List.drop_zero, hraw] at h1
      rw [h2, cmpd_no (fun h => by have := h.2.2.2; omega)]
theorem rAll (l : List (List UInt8)) (hl : l.length ≤ 1099511627776) : m_ref9_all l = some (l.all vldB) := by
  unfold m_ref9_all
  rw [jn_eq]
  have h := loop_all l (by omega) (fun n (_ : Unit) i => m_ref9_all_L2 l (fun _ => some true) n i) (fun s x k => if !vldB x then some false else k s) (fun _ => some true) (fun n s i hi => by
      show m_ref9_all_L2 l _ (n + 1) i = _
      rw [m_ref9_all_L2, m_ref9_all_B2]
      simp (disch := omega) only [if_pos, need_pos, gi_nat, rValid, bnd1_mk, i64_succ]) (fun n s => by
      show m_ref9_all_L2 l _ (n + 1) _ = _
      rw [m_ref9_all_L2, m_ref9_all_B2, if_neg (by omega)]) ()
  refine h.trans ?_
  rw [foldK_any]
  cases h : l.all vldB with
  | true => rw [if_neg]; simp at h ⊢; exact h
  | false => rw [if_pos]; simp at h ⊢; exact h
theorem rMake (c : UInt8) (hc : 3 ≤ c.toNat ∧ c.toNat ≤ 9) (l : List (List UInt8)) (hl : l.length ≤ 1099511627776) : m_ref9_Make (c.toNat : Int) l = some (cmpd c l) := by
  unfold m_ref9_Make
  rw [rAll l hl, bnd1_mk]
  cases h : l.all vldB with
  | true =>
    simp at h
    rw [if_neg (by simp), rCompound c hc l (fun x hx => vldB_iff.1 (h x hx)), bnd1_mk]
  | false =>
    rw [if_pos (show (!false) = true from rfl), cmpd_no]
    intro hh
    simp at h
    obtain ⟨x, hx, hv⟩ := h
    rw [vldB_iff.2 (hh.2.1 x hx)] at hv; cases hv
noncomputable def setW (l : List (List UInt8)) : List UInt8 := cmpd 5 (sortW l)
theorem vSet (l : List (List UInt8)) (hl : l.length ≤ 10000000) (hx : ∀ x ∈ l, x.length ≤ 1099511627776) : m_value_Set l = some (setW l) := by
  unfold m_value_Set setW
  have := vCompound 5 (sortW l) (fun x h => hx x ((sortW_spec l).2.1 x |>.1 h))
  rw [show ((5 : UInt8).toNat : Int) = 5 from rfl] at this
  rw [vSort l (by omega), bnd1_mk, this, bnd1_mk]
theorem rSet (l : List (List UInt8)) (hl : l.length ≤ 10000000000) : m_ref9_Set l = some (setW l) := by
  unfold m_ref9_Set setW
  rw [rAll l (by omega), bnd1_mk]
  have hmem := (sortW_spec l).2.1
  cases h : l.all vldB with
  | true =>
    simp at h
    have := rCompound 5 (by decide) (sortW l) (fun x hx => vldB_iff.1 (h x ((hmem x).1 hx)))
    rw [show ((5 : UInt8).toNat : Int) = 5 from rfl] at this
    rw [if_neg (by simp), rSort l hl, bnd1_mk, this, bnd1_mk]
  | false =>
    rw [if_pos (show (!false) = true from rfl), cmpd_no]
    intro hh
    simp at h
    obtain ⟨x, hx, hv⟩ := h
    rw [vldB_iff.2 (hh.2.1 x ((hmem x).2 hx))] at hv; cases hv
end Go.Proofs.YtdppkpiagdaigaaGreatDoor
/- Sets of values: elements, merging, bounded results. -/
namespace Go.Proofs.YtdppkpiagdaigaaGreatDoor
attribute [local irreducible] FU

theorem cmpC_val {a b : List UInt8} (ha : Vd a) (hb : Vd b) : cmpC a b = cmpW a b := by unfold cmpC; rw [if_pos ⟨vldB_iff.2 ha, vldB_iff.2 hb⟩]
theorem flat_mem {ps : List (List UInt8)} {p : List UInt8} (h : p ∈ ps) : p.length ≤ ps.flatten.length := by
  obtain ⟨a, b, rfl⟩ := List.append_of_mem h
  simp; omega
noncomputable def isSet (v : List UInt8) : Bool := decide (kindW v = 5)
/-! ### Results -/
/-! ### Merging -/
def MS (F : Bool → Bool → Bool) (A B r : List (List UInt8)) : Prop := SLC r ∧ ∀ y, y ∈ r ↔ F (decide (y ∈ A)) (decide (y ∈ B)) = true ∧ (y ∈ A ∨ y ∈ B)
theorem MS.push {F : Bool → Bool → Bool} {x : List UInt8} {A B r : List (List UInt8)} (fa fb : Bool) (hor : (fa || fb) = true) (hxA : ∀ y ∈ A, cmpC x y < 0) (hxB : ∀ y ∈ B, cmpC x y < 0) (h : MS F A B r) :
    MS F ((if fa then [x] else []) ++ A) ((if fb then [x] else []) ++ B) ((if F fa fb then [x] else []) ++ r) := by
  obtain ⟨hr, hm⟩ := h
  have hA : x ∉ A := fun hh => by have := hxA x hh; rw [cmpC_self] at this; omega
  have hB : x ∉ B := fun hh => by have := hxB x hh; rw [cmpC_self] at this; omega
  refine ⟨?_, fun y => ?_⟩
  · split
    · refine List.pairwise_cons.2 ⟨fun y hy => ?_, hr⟩
      rcases ((hm y).1 hy).2 with h | h
      · exact hxA y h
      · exact hxB y h
    · exact hr
  · by_cases hy : y = x
    · subst hy
      have hnr : y ∉ r := fun hh => by rcases ((hm y).1 hh).2 with h | h; exact hA h; exact hB h
      cases fa <;> cases fb <;> simp_all <;> split <;> simp_all
    · have e1 : (y ∈ (if fa = true then [x] else []) ++ A) ↔ y ∈ A := by cases fa <;> simp [hy]
      have e2 : (y ∈ (if fb = true then [x] else []) ++ B) ↔ y ∈ B := by cases fb <;> simp [hy]
      have e3 : (y ∈ (if F fa fb = true then [x] else []) ++ r) ↔ y ∈ r := by cases F fa fb <;> simp [hy]
      rw [e3, hm]
      simp only [e1, e2]
theorem nodup_len {α : Type} : ∀ {r l : List α}, r.Nodup → (∀ x ∈ r, x ∈ l) → r.length ≤ l.length
  | [], _, _, _ => by simp
  | x :: r, l, hn, hs => by
    obtain ⟨s, t, rfl⟩ := List.append_of_mem (hs x (by simp))
    obtain ⟨h1, h2⟩ := List.nodup_cons.1 hn
    have := nodup_len (r := r) (l := s ++ t) h2 (fun y hy => by
      have h := hs y (List.mem_cons_of_mem _ hy)
      have hne : y ≠ x := fun e => h1 (e ▸ hy)
      simpa [hne] using h)
    simp only [List.length_append, List.length_cons] at this ⊢
    omega
theorem slc_nodup {r : List (List UInt8)} (h : SLC r) : r.Nodup := h.imp (fun {a b} hab he => by subst he; rw [cmpC_self] at hab; omega)
theorem MS.len {F : Bool → Bool → Bool} {A B r : List (List UInt8)} (h : MS F A B r) : r.length ≤ A.length + B.length := by
  have := nodup_len (l := A ++ B) (slc_nodup h.1) (fun x hx => by rcases ((h.2 x).1 hx).2 with h | h <;> simp [h])
  simpa using this
end Go.Proofs.YtdppkpiagdaigaaGreatDoor
/- Operations on sets: program and reference agree. -/
namespace Go.Proofs.YtdppkpiagdaigaaGreatDoor
attribute [local irreducible] FU

end Go.Proofs.YtdppkpiagdaigaaGreatDoor
/- Operations on sets of sets and maps: program and reference agree. -/
namespace Go.Proofs.YtdppkpiagdaigaaGreatDoor
attribute [local irreducible] FU

end Go.Proofs.YtdppkpiagdaigaaGreatDoor
/- Subsets and keys: program and reference agree. -/
namespace Go.Proofs.YtdppkpiagdaigaaGreatDoor
attribute [local irreducible] FU

theorem u64_nat {n : Nat} (h : n ≤ 4611686018427387904) : IntKind.u64.wrap (n : Int) = (n : Int) := by
  unfold IntKind.wrap IntKind.bits IntKind.signed
  simp; omega
/-! ### Keys -/
end Go.Proofs.YtdppkpiagdaigaaGreatDoor
/- Integers as values; sets of them; the check of awake. -/
namespace Go.Proofs.YtdppkpiagdaigaaGreatDoor
attribute [local irreducible] FU

/-- The last k bytes of w. -/
def byD (w : Nat) : Nat → List UInt8
  | 0 => []
  | k + 1 => u8i ((w / 2 ^ (8 * k) : Nat) : Int) :: byD w k
theorem byD_len (w : Nat) : ∀ k, (byD w k).length = k
  | 0 => rfl
  | k + 1 => by simp [byD, byD_len w k]
theorem beNat_cons (b : UInt8) (l : List UInt8) : beNat (b :: l) = b.toNat * 256 ^ l.length + beNat l := by
  have key : ∀ (l : List UInt8) (a : Nat), l.foldl (fun n b => n * 256 + b.toNat) a = a * 256 ^ l.length + beNat l := by
    intro l
    induction l with
    | nil => intro a; simp [beNat]
    | cons x l ih =>
      intro a
      have e : beNat (x :: l) = x.toNat * 256 ^ l.length + beNat l := by
        have := ih (0 * 256 + x.toNat)
        simpa [beNat] using this
      rw [List.foldl_cons, ih, e, List.length_cons, Nat.pow_succ, Nat.add_mul, Nat.mul_assoc, Nat.mul_comm 256]
      omega
  have := key l b.toNat
  simpa [beNat] using this
theorem pow8 (k : Nat) : 256 ^ k = 2 ^ (8 * k) := by rw [Nat.pow_mul]
theorem beNat_byD (w : Nat) : ∀ k, beNat (byD w k) = w % 2 ^ (8 * k)
  | 0 => by simp [byD, beNat, Nat.mod_one]
  | k + 1 => by
    rw [byD, beNat_cons, byD_len, u8i_nat, beNat_byD w k, pow8, show 8 * (k + 1) = 8 * k + 8 by omega, Nat.pow_add, Nat.mod_mul, Nat.mul_comm, Nat.add_comm, Nat.mul_comm]
def wOf (n : Int) : Nat := (n % 18446744073709551616).toNat
theorem u64_mod (x : Int) : IntKind.u64.wrap x = (wOf x : Int) := by rw [wrap_u64]; unfold wOf; omega
theorem fdiv_pow (w k : Nat) (hk : 8 * k ≤ 64) : Int.fdiv (w : Int) (2 ^ min (Int.toNat ((8 * k : Nat) : Int)) IntKind.u64.bits) = ((w / 2 ^ (8 * k) : Nat) : Int) := by
  rw [Int.toNat_natCast, show IntKind.u64.bits = 64 from rfl, Nat.min_eq_left hk]
  have : (2 : Int) ^ (8 * k) = ((2 ^ (8 * k) : Nat) : Int) := by simp
  rw [this, Int.fdiv_eq_ediv_of_nonneg _ (Int.natCast_nonneg _)]
  rfl
noncomputable def intW (n : Int) : List UInt8 := 1 :: byD (wOf n) 8
theorem vAppend64 (w : Nat) (K : List UInt8 → Option (List UInt8)) : ∀ (k n : Nat) (out : List UInt8), k ≤ 8 → k < n → out.length + k ≤ 100 → m_value_append64_L2 w K n out (8 * (k : Int) - 8) = K (out ++ byD w k) := by
  intro k
  induction k with
  | zero =>
    intro n out hk hn ho
    obtain ⟨n, rfl⟩ : ∃ q, n = q + 1 := ⟨n - 1, by omega⟩
    rw [m_value_append64_L2, m_value_append64_B2, if_neg (by omega)]
    simp [byD]
  | succ k ih =>
    intro n out hk hn ho
    obtain ⟨n, rfl⟩ : ∃ q, n = q + 1 := ⟨n - 1, by omega⟩
    have e : 8 * ((k + 1 : Nat) : Int) - 8 = ((8 * k : Nat) : Int) := by omega
    have e2 : i64 (((8 * k : Nat) : Int) - 8) = 8 * (k : Int) - 8 := by rw [i64_id (by omega)]; omega
    rw [e, m_value_append64_L2, m_value_append64_B2, if_pos (by omega), need_pos (by omega), fdiv_pow w k (by omega), need_pos (by simp; omega), e2, ih n _ (by omega) (by omega) (by simp; omega)]
    simp [byD]
theorem vInt (n : Int) : m_value_Int n = some (intW n) := by
  have hFU := FU_ge
  unfold m_value_Int m_value_append64
  have h := vAppend64 (wOf n) (fun x => some x) 8 FU [1] (by omega) (by omega) (by simp)
  rw [show 8 * ((8 : Nat) : Int) - 8 = 56 from rfl] at h
  rw [u64_mod, jn_eq]
  rw [h, bnd1_mk]; rfl
theorem set_byD (w k : Nat) (hk : k < 8) : List.set (List.replicate (8 - k) (0 : UInt8) ++ byD w k) (7 - k) (u8i ((w / 2 ^ (8 * k) : Nat) : Int)) = List.replicate (8 - (k + 1)) (0 : UInt8) ++ byD w (k + 1) := by
  rw [show 8 - k = (8 - (k + 1)) + 1 by omega, List.replicate_succ', List.append_assoc, List.set_append_right _ _ (by simp)]
  have : 7 - k - (List.replicate (8 - (k + 1)) (0 : UInt8)).length = 0 := by simp
  rw [this]; rfl
theorem rEight_loop (n0 : Int) (K : List UInt8 → Option (List UInt8)) : ∀ (m k n : Nat), k + m = 8 → m < n → m_ref9_eight_L2 n0 K n (List.replicate (8 - k) (0 : UInt8) ++ byD (wOf n0) k) k = K (byD (wOf n0) 8) := by
  intro m
  induction m with
  | zero =>
    intro k n hk hn
    obtain ⟨n, rfl⟩ : ∃ q, n = q + 1 := ⟨n - 1, by omega⟩
    obtain rfl : k = 8 := by omega
    rw [m_ref9_eight_L2, m_ref9_eight_B2, if_neg (by omega)]
    simp
  | succ m ih =>
    intro k n hk hn
    obtain ⟨n, rfl⟩ : ∃ q, n = q + 1 := ⟨n - 1, by omega⟩
    have e1 : i64 (8 * (k : Int)) = ((8 * k : Nat) : Int) := by rw [i64_id (by omega)]; omega
    have e2 : i64 (7 - (k : Int)) = ((7 - k : Nat) : Int) := by rw [i64_id (by omega)]; omega
    rw [m_ref9_eight_L2, m_ref9_eight_B2, if_pos (by omega), e1, u64_nat (by omega), need_pos (by omega), e2, need_pos (by simp [byD_len]; omega), Int.toNat_natCast (7 - k), u64_mod, fdiv_pow _ k (by omega), i64_succ (by omega)]
    rw [set_byD (wOf n0) k (by omega)]
    exact ih (k + 1) n (by omega) (by omega)
theorem rInt (n : Int) : m_ref9_Int n = some (intW n) := by
  have hFU := FU_ge
  unfold m_ref9_Int m_ref9_eight
  have h := rEight_loop n (fun x => some x) 8 0 FU (by omega) (by omega)
  rw [Int.natCast_zero] at h
  rw [need_pos (by omega), jn_eq]
  rw [show List.replicate (Int.toNat 8) (0 : UInt8) = List.replicate (8 - 0) (0 : UInt8) ++ byD (wOf n) 0 from rfl, h, bnd1_mk, need_pos (by simp [byD_len])]
  rfl
theorem intW_IsV (n : Int) (k : Nat) : IsV (k + 1) (intW n) := .int k _ (byD_len _ 8)
theorem intW_len (n : Int) : (intW n).length = 9 := by simp [intW, byD_len]
theorem numV_intW {n : Int} (h : -9223372036854775808 ≤ n ∧ n ≤ 9223372036854775807) : numV (intW n) = n := by
  unfold numV intW
  rw [List.drop_succ_cons, List.drop_zero, beNat_byD]
  have e : wOf n % 2 ^ (8 * 8) = wOf n := Nat.mod_eq_of_lt (by unfold wOf; omega)
  rw [e]
  unfold wOf i64
  rw [show (((n % 18446744073709551616).toNat : Nat) : Int) = n % 18446744073709551616 by omega]
  unfold IntKind.wrap IntKind.bits IntKind.signed
  simp; split <;> omega
theorem intW_inj {a b : Int} (ha : -9223372036854775808 ≤ a ∧ a ≤ 9223372036854775807) (hb : -9223372036854775808 ≤ b ∧ b ≤ 9223372036854775807) (h : intW a = intW b) : a = b := by
  rw [← numV_intW ha, ← numV_intW hb, h]

/-! ### Sets that are valid -/
theorem SLC_ascB : ∀ {ps : List (List UInt8)}, (∀ p ∈ ps, Vd p) → SLC ps → ascB ps = true
  | [], _, _ => rfl
  | [_], _, _ => rfl
  | x :: y :: t, hv, h => by
    obtain ⟨h1, h2⟩ := List.pairwise_cons.1 h
    have := h1 y (by simp)
    rw [cmpC_val (hv x (by simp)) (hv y (by simp))] at this
    rw [ascB, SLC_ascB (fun p hp => hv p (by simp [hp])) h2, decide_eq_true this]; rfl
/-- A set of valid values that is neither too deep nor too long. -/
theorem set_ok {l : List (List UInt8)} {k : Nat} (hk : k ≤ 31) (hv : ∀ x ∈ l, IsV k x) (hl : (sortW l).length ≤ 65535) (hs : 3 + (sortW l).flatten.length ≤ 131072) :
    setW l = raw 5 (sortW l) ∧ IsV (k + 1) (setW l) ∧ prtW (setW l) = sortW l ∧ isSet (setW l) = true ∧ setW l ≠ [] ∧ (setW l).length ≤ 131072 := by
  have hm := (sortW_spec l).2.1
  have hV : ∀ x ∈ sortW l, Vd x := fun x hx => ⟨(hv x ((hm x).1 hx)).le (by omega), by have := flat_mem hx; omega⟩
  have hI : IsV (k + 1) (raw 5 (sortW l)) := .comp k 5 _ _ (sortW l) (by decide) (raw_count hl) (fun x hx => hv x ((hm x).1 hx)) (by
    have := SLC_ascB hV (sortW_spec l).1
    simpa [formedB] using this)
  have hVr : Vd (raw 5 (sortW l)) := ⟨hI.le (by omega), by rw [raw_len]; omega⟩
  have he : setW l = raw 5 (sortW l) := cmpd_yes ⟨hl, hV, hVr⟩
  have hvb := vldB_iff.2 hVr
  rw [he]
  refine ⟨rfl, hI, ?_, ?_, by simp [raw], hVr.2⟩
  · unfold prtW; rw [if_pos hvb]; exact prt_raw (by decide) hl hV
  · unfold isSet kindW; rw [if_pos hvb]; rfl
/-! ### The subsets are different -/
/-! ### Ranges -/
end Go.Proofs.YtdppkpiagdaigaaGreatDoor
/- The generator of values always returns. -/
namespace Go.Proofs.YtdppkpiagdaigaaGreatDoor
attribute [local irreducible] FU

/-- The state of the choices. -/
def GS (l : List Int) (i : Int) : Prop := 0 ≤ i ∧ i ≤ l.length ∧ l.length ≤ 9223372036854775807
theorem gNext {l : List Int} {i : Int} (h : GS l i) {n : Int} (h0 : 0 < n) (h1 : n ≤ 1000000) : ∃ y i', m_gen_Choices_Next (l, i) n = some (y, (l, i')) ∧ GS l i' ∧ 0 ≤ y ∧ y < n := by
  obtain ⟨g1, g2, g3⟩ := h
  unfold m_gen_Choices_Next
  simp only []
  by_cases hc : (List.length l : Int) ≤ i
  · rw [if_pos hc]; exact ⟨0, i, rfl, ⟨g1, g2, g3⟩, by omega, h0⟩
  · have e : i64 (i64 (i + 1) - 1) = i := by rw [i64_id (x := i + 1) (by omega), i64_id (by omega)]; omega
    have en : IntKind.u64.wrap n = n := by rw [wrap_u64]; omega
    unfold m_help_Mod
    rw [if_neg hc, e, need_pos (by omega), en, need_pos (by omega), bnd1_mk, i64_id (x := i + 1) (by omega)]
    have ha := wrap_u64 (gi l i)
    have h3 : 0 ≤ Int.tmod (IntKind.u64.wrap (gi l i)) n := Int.tmod_nonneg _ (by omega)
    have h4 : Int.tmod (IntKind.u64.wrap (gi l i)) n < n := Int.tmod_lt_of_pos _ h0
    exact ⟨_, _, rfl, ⟨by omega, by omega, g3⟩, by rw [i64_id (by omega)]; exact h3, by rw [i64_id (by omega)]; exact h4⟩
theorem gNumber {l : List Int} {i : Int} (h : GS l i) : ∃ v i', m_gen_Choices_Number (l, i) = some (v, (l, i')) ∧ GS l i' := by
  unfold m_gen_Choices_Number
  obtain ⟨y, i1, e1, g1, y0, y1⟩ := gNext h (n := 9) (by omega) (by omega)
  obtain ⟨a, ia, ea, ga, _⟩ := gNext g1 (n := 2) (by omega) (by omega)
  obtain ⟨b, ib, eb, gb, _⟩ := gNext g1 (n := 7) (by omega) (by omega)
  simp only [e1, bnd1_mk, ea, eb]
  split
  · exact ⟨_, _, rfl, g1⟩
  · split
    · exact ⟨_, _, rfl, ga⟩
    · split
      · exact ⟨_, _, rfl, ga⟩
      · exact ⟨_, _, rfl, gb⟩
/-- Some value, and the choices go on. -/
def GV (f : List Int × Int → Option (List UInt8 × (List Int × Int))) : Prop := ∀ (l : List Int) (i : Int), GS l i → ∃ v i', f (l, i) = some (v, (l, i')) ∧ GS l i'
theorem gValues_loop (self : List Int × Int → Int → Option (List UInt8 × (List Int × Int))) (d : Int) (hs : GV (fun s => self s d)) (K : List Int → Int → List (List UInt8) → Option (List (List UInt8) × (List Int × Int))) : ∀ (m n : Nat) (l : List Int) (i : Int) (out : List (List UInt8)), m < n → GS l i → out.length + m ≤ 1000 →
    ∃ i' out', m_gen_Choices_Values_L2 self d K n l i out m = K l i' out' ∧ GS l i' ∧ out'.length = out.length + m := by
  intro m
  induction m with
  | zero =>
    intro n l i out hn hg ho
    obtain ⟨n, rfl⟩ : ∃ q, n = q + 1 := ⟨n - 1, by omega⟩
    exact ⟨i, out, by rw [m_gen_Choices_Values_L2, m_gen_Choices_Values_B2, if_neg (by omega)], hg, rfl⟩
  | succ m ih =>
    intro n l i out hn hg ho
    obtain ⟨n, rfl⟩ : ∃ q, n = q + 1 := ⟨n - 1, by omega⟩
    obtain ⟨v, i1, e1, g1⟩ := hs l i hg
    have e2 : i64 (((m + 1 : Nat) : Int) - 1) = (m : Int) := by rw [i64_id (by omega)]; omega
    obtain ⟨i', out', h1, h2, h3⟩ := ih n l i1 (out ++ [v]) (by omega) g1 (by simp; omega)
    refine ⟨i', out', ?_, h2, by rw [h3]; simp; omega⟩
    simp only [] at e1
    rw [m_gen_Choices_Values_L2, m_gen_Choices_Values_B2, if_pos (by omega), e1, bnd1_mk]
    simp only []
    rw [need_pos (by simp; omega), e2, h1]
theorem gValues (self : List Int × Int → Int → Option (List UInt8 × (List Int × Int))) (d : Int) (hs : GV (fun s => self s d)) {l : List Int} {i : Int} (h : GS l i) {most : Int} (h0 : 0 < most) (h1 : most ≤ 100) :
    ∃ L i', m_gen_Choices_Values self (l, i) d most = some (L, (l, i')) ∧ GS l i' ∧ (L.length : Int) < most := by
  have hFU := FU_ge
  unfold m_gen_Choices_Values
  rw [jn_eq]
  obtain ⟨y, i1, e1, g1, y0, y1⟩ := gNext h (n := most) (by omega) (by omega)
  obtain ⟨m, rfl⟩ : ∃ m : Nat, y = m := ⟨y.toNat, by omega⟩
  obtain ⟨i', L, h1, h2, h3⟩ := gValues_loop self d hs (fun x0_0_j1 x0_1_j1 x3_j1 => some (x3_j1, (x0_0_j1, x0_1_j1))) m FU l i1 [] (by omega) g1 (by simp; omega)
  simp only []
  rw [e1, bnd1_mk]
  simp only []
  rw [h1]
  exact ⟨L, i', rfl, h2, by simp at h3; omega⟩

/-! ### What is made always comes back -/
theorem rName (k : Int) : ∃ v, m_ref9_Name k = some v := by
  unfold m_ref9_Name
  simp only [jn_eq]
  unfold m_ref9_two
  split
  · exact ⟨_, rfl⟩
  · split
    · exact ⟨_, rfl⟩
    · rw [bnd1_mk, need_pos (by simp)]; exact ⟨_, rfl⟩
theorem rBool (b : Bool) : ∃ v, m_ref9_Bool b = some v := by
  unfold m_ref9_Bool; split <;> exact ⟨_, rfl⟩
theorem rDot (k : Int) (l : List (List UInt8)) (hl : l.length ≤ 1000) : ∃ v, m_ref9_Dot k l = some v := by
  unfold m_ref9_Dot
  obtain ⟨v, hv⟩ := rName k
  have := rMake 7 (by decide) ([v] ++ l) (by simp; omega)
  rw [show ((7 : UInt8).toNat : Int) = 7 from rfl] at this
  rw [hv, bnd1_mk, need_pos (by simp; omega), this, bnd1_mk]; exact ⟨_, rfl⟩
theorem rNumbered (c : UInt8) (hc : 3 ≤ c.toNat ∧ c.toNat ≤ 9) (k : Int) (l : List (List UInt8)) (hl : l.length ≤ 1000) : ∃ v, m_ref9_Numbered (c.toNat : Int) k l = some v := by
  unfold m_ref9_Numbered
  rw [rInt, bnd1_mk, need_pos (by simp; omega), rMake c hc _ (by simp; omega), bnd1_mk]; exact ⟨_, rfl⟩
theorem rMap_in (a b y : List (List UInt8)) (hab : a.length = b.length) (ha : a.length ≤ 1000) (q : Nat) (hq : q < y.length) (K : List (List UInt8) → Option (List UInt8)) : ∀ (m i n : Nat) (out : List (List UInt8)), i + m = a.length → m < n → out.length + 2 * m ≤ 10000000 →
    ∃ out', m_ref9_Map_L14 a b y q K n out i = K out' ∧ out'.length ≤ out.length + 2 * m ∧ ∀ x ∈ out', x ∈ out ∨ x ∈ y ∨ x ∈ b := by
  intro m
  induction m with
  | zero =>
    intro i n out hi hn ho
    obtain ⟨n, rfl⟩ : ∃ q, n = q + 1 := ⟨n - 1, by omega⟩
    exact ⟨out, by rw [m_ref9_Map_L14, m_ref9_Map_B14, if_neg (by omega)], by omega, fun x h => .inl h⟩
  | succ m ih =>
    intro i n out hi hn ho
    obtain ⟨n, rfl⟩ : ∃ q, n = q + 1 := ⟨n - 1, by omega⟩
    have h1 : i < a.length := by omega
    have h2 : i < b.length := by omega
    rw [m_ref9_Map_L14, m_ref9_Map_B14, if_pos (by omega)]
    simp only [jn_eq]
    rw [need_pos (by omega), need_pos (by omega), need_pos (by omega), need_pos (by omega), need_pos (by simp; omega), gi_nat h1, gi_nat h2, gi_nat hq, i64_succ (by omega)]
    split
    · obtain ⟨o, g1, g2, g3⟩ := ih (i + 1) n (out ++ [y[q], b[i]]) (by omega) (by omega) (by simp; omega)
      refine ⟨o, g1, by simp at g2; omega, fun x hx => ?_⟩
      rcases g3 x hx with h | h | h
      · simp only [List.mem_append, List.mem_cons, List.not_mem_nil, or_false] at h
        rcases h with h | h | h
        · exact .inl h
        · exact .inr (.inl (h ▸ List.getElem_mem _))
        · exact .inr (.inr (h ▸ List.getElem_mem _))
      · exact .inr (.inl h)
      · exact .inr (.inr h)
    · obtain ⟨o, g1, g2, g3⟩ := ih (i + 1) n out (by omega) (by omega) (by omega)
      exact ⟨o, g1, by omega, g3⟩
theorem rMap_out (a b y : List (List UInt8)) (hab : a.length = b.length) (ha : a.length ≤ 1000) (hy : y.length ≤ 1000) (K : List (List UInt8) → Option (List UInt8)) : ∀ (m i n : Nat) (out : List (List UInt8)), i + m = y.length → m < n → out.length + 2000 * m ≤ 10000000 → (∀ x ∈ out, x ∈ y ∨ x ∈ b) →
    ∃ out', m_ref9_Map_L8 a b y K n out i = K out' ∧ ∀ x ∈ out', x ∈ y ∨ x ∈ b := by
  have hFU := FU_ge
  intro m
  induction m with
  | zero =>
    intro i n out hi hn ho hx
    obtain ⟨n, rfl⟩ : ∃ q, n = q + 1 := ⟨n - 1, by omega⟩
    exact ⟨out, by rw [m_ref9_Map_L8, m_ref9_Map_B8, if_neg (by omega)], hx⟩
  | succ m ih =>
    intro i n out hi hn ho hx
    obtain ⟨n, rfl⟩ : ∃ q, n = q + 1 := ⟨n - 1, by omega⟩
    rw [m_ref9_Map_L8, m_ref9_Map_B8, if_pos (by omega)]
    simp only [jn_eq]
    obtain ⟨o, g1, g2, g3⟩ := rMap_in a b y hab ha i (by omega) (fun x6_j420 => m_ref9_Map_L8 a b y K n x6_j420 (i64 ((i : Int) + 1))) a.length 0 FU out (by omega) (by omega) (by omega)
    rw [Int.natCast_zero] at g1
    rw [g1, i64_succ (by omega)]
    refine ih (i + 1) n o (by omega) (by omega) (by omega) (fun x h => ?_)
    rcases g3 x h with h | h
    · exact hx x h
    · exact h
theorem rMap (a b : List (List UInt8)) (ha : a.length ≤ 1000) (hb : b.length ≤ 1000) : ∃ v, m_ref9_Map a b = some v := by
  have hFU := FU_ge
  unfold m_ref9_Map
  simp only [jn_eq]
  by_cases hl : a.length = b.length
  · rw [if_neg (fun h => h (by omega)), rAll a (by omega), bnd1_mk, rAll b (by omega)]
    simp only [bnd1_mk, rSort a (by omega)]
    cases h1 : a.all vldB with
    | false => simp
    | true =>
      rw [if_neg (by simp)]
      cases h2 : b.all vldB with
      | false => simp
      | true =>
        rw [if_neg (by simp)]
        split
        · exact ⟨_, rfl⟩
        · have hm := (sortW_spec a).2.1
          have hlen := (sortW_spec a).2.2
          obtain ⟨o, g1, g2⟩ := rMap_out a b (sortW a) hl ha (by omega) (fun x6_j13 => bnd1 (m_ref9_compound 6 x6_j13) (fun y500 => some y500)) (sortW a).length 0 FU [] (by omega) (by omega) (by simp; omega) (by simp)
          rw [Int.natCast_zero] at g1
          have := rCompound 6 (by decide) o (fun x hx => by
            rcases g2 x hx with h | h
            · exact vldB_iff.1 (List.all_eq_true.1 h1 x ((hm x).1 h))
            · exact vldB_iff.1 (List.all_eq_true.1 h2 x h))
          rw [show ((6 : UInt8).toNat : Int) = 6 from rfl] at this
          rw [g1, this, bnd1_mk]; exact ⟨_, rfl⟩
  · rw [if_pos (fun h => hl (by omega)), if_pos trivial]; exact ⟨_, rfl⟩
theorem gVal_loop (self : List Int × Int → Int → Option (List UInt8 × (List Int × Int))) (d : Int) (hs : GV (fun s => self s (i64 (d - 1)))) (y : List (List UInt8)) (hy : y.length ≤ 1000) (K : List Int → Int → List (List UInt8) → Option (List UInt8 × (List Int × Int))) : ∀ (m q n : Nat) (l : List Int) (i : Int) (out : List (List UInt8)), q + m = y.length → m < n → GS l i → out.length + m ≤ 1000 →
    ∃ i' out', m_gen_Choices_Value_L4 self d y K n l i out q = K l i' out' ∧ GS l i' ∧ out'.length = out.length + m := by
  intro m
  induction m with
  | zero =>
    intro q n l i out hq hn hg ho
    obtain ⟨n, rfl⟩ : ∃ q, n = q + 1 := ⟨n - 1, by omega⟩
    exact ⟨i, out, by rw [m_gen_Choices_Value_L4, m_gen_Choices_Value_B4, if_neg (by omega)], hg, rfl⟩
  | succ m ih =>
    intro q n l i out hq hn hg ho
    obtain ⟨n, rfl⟩ : ∃ q, n = q + 1 := ⟨n - 1, by omega⟩
    obtain ⟨v, i1, e1, g1⟩ := hs l i hg
    obtain ⟨i', out', h1, h2, h3⟩ := ih (q + 1) n l i1 (out ++ [v]) (by omega) (by omega) g1 (by simp; omega)
    refine ⟨i', out', ?_, h2, by rw [h3]; simp; omega⟩
    simp only [] at e1
    rw [m_gen_Choices_Value_L4, m_gen_Choices_Value_B4, if_pos (by omega), e1, bnd1_mk]
    simp only []
    rw [need_pos (by simp; omega), i64_succ (by omega), h1]
theorem gValue_F (self : List Int × Int → Int → Option (List UInt8 × (List Int × Int))) (d : Int) (hd : d ≤ 1 ∨ (1 < d ∧ d ≤ 1000 ∧ GV (fun s => self s (d - 1)))) : GV (fun s => m_gen_Choices_Value_F self s d) := by
  have hFU := FU_ge
  intro l i h
  show ∃ v i', m_gen_Choices_Value_F self (l, i) d = some (v, (l, i')) ∧ GS l i'
  unfold m_gen_Choices_Value_F
  obtain ⟨y, i1, e1, g1, y0, y1⟩ := gNext h (n := 9) (by omega) (by omega)
  rw [e1, bnd1_mk]
  simp only [jn_eq]
  -- the leaves
  have leaf : ∀ (x : Int), x = 0 ∨ x = 1 ∨ x = 2 → ∀ R3 R4 R5 R6 R7 R8 : Option (List UInt8 × (List Int × Int)), ∃ v i', (if x = 1 then (bnd1 (m_gen_Choices_Next (l, i1) 2) (fun y45 => bnd1 (m_ref9_Bool (decide (y45.1 = 1))) (fun y46 => some (y46, (y45.2.1, y45.2.2))))) else (if x = 2 then (bnd1 (m_gen_Choices_Next (l, i1) 4) (fun y47 => bnd1 (m_ref9_Name y47.1) (fun y48 => some (y48, (y47.2.1, y47.2.2))))) else (if x = 3 then R3 else (if x = 4 then R4 else (if x = 5 then R5 else (if x = 6 then R6 else (if x = 7 then R7 else (if x = 8 then R8 else (bnd1 (m_gen_Choices_Number (l, i1)) (fun y85 => bnd1 (m_ref9_Int y85.1) (fun y86 => some (y86, (y85.2.1, y85.2.2)))))))))))) ) = some (v, (l, i')) ∧ GS l i' := by
    intro x hx R3 R4 R5 R6 R7 R8
    rcases hx with rfl | rfl | rfl
    · obtain ⟨v, i2, e2, g2⟩ := gNumber g1
      simp only [e2, bnd1_mk, rInt]
      exact ⟨_, _, rfl, g2⟩
    · obtain ⟨v, i2, e2, g2, _⟩ := gNext g1 (n := 2) (by omega) (by omega)
      obtain ⟨w, hw⟩ := rBool (decide (v = 1))
      simp only [e2, bnd1_mk, hw]
      exact ⟨_, _, rfl, g2⟩
    · obtain ⟨v, i2, e2, g2, _⟩ := gNext g1 (n := 4) (by omega) (by omega)
      obtain ⟨w, hw⟩ := rName v
      simp only [e2, bnd1_mk, hw]
      exact ⟨_, _, rfl, g2⟩
  by_cases hd1 : d ≤ 1
  · rw [if_pos hd1]
    have t1 : 0 ≤ Int.tmod y 3 := Int.tmod_nonneg _ y0
    have t2 : Int.tmod y 3 < 3 := Int.tmod_lt_of_pos _ (by omega)
    exact leaf (Int.tmod y 3) (by omega) _ _ _ _ _ _
  · obtain ⟨_, hd2, hs⟩ := hd.resolve_left hd1
    rw [if_neg hd1]
    have ed : i64 (d - 1) = d - 1 := i64_id (by omega)
    by_cases hy : y = 0 ∨ y = 1 ∨ y = 2
    · exact leaf y hy _ _ _ _ _ _
    · rw [if_neg (by omega), if_neg (by omega), ed]
      rcases (show y = 3 ∨ y = 4 ∨ y = 5 ∨ y = 6 ∨ y = 7 ∨ y = 8 by omega) with rfl | rfl | rfl | rfl | rfl | rfl
      · obtain ⟨v, i2, e2, g2⟩ := hs l i1 g1
        obtain ⟨w, i3, e3, g3⟩ := hs l i2 g2
        have := rMake 3 (by decide) [v, w] (by simp)
        rw [show ((3 : UInt8).toNat : Int) = 3 from rfl] at this
        simp only [] at e2 e3
        simp only [if_true, e2, bnd1_mk, e3, this]
        exact ⟨_, _, rfl, g3⟩
      · obtain ⟨L, i2, e2, g2, hl⟩ := gValues self (d - 1) hs g1 (most := 4) (by omega) (by omega)
        have := rMake 4 (by decide) L (by omega)
        rw [show ((4 : UInt8).toNat : Int) = 4 from rfl] at this
        rw [if_neg (by omega), if_pos rfl, e2, bnd1_mk, this, bnd1_mk]
        exact ⟨_, _, rfl, g2⟩
      · obtain ⟨L, i2, e2, g2, hl⟩ := gValues self (d - 1) hs g1 (most := 4) (by omega) (by omega)
        rw [if_neg (by omega), if_neg (by omega), if_pos rfl, e2, bnd1_mk, rSet L (by omega), bnd1_mk]
        exact ⟨_, _, rfl, g2⟩
      · obtain ⟨k, i2, e2, g2, _⟩ := gNext g1 (n := 3) (by omega) (by omega)
        obtain ⟨L, i3, e3, g3, hl⟩ := gValues self (d - 1) hs g2 (most := 3) (by omega) (by omega)
        obtain ⟨v, hv⟩ := rDot k L (by omega)
        rw [if_neg (by omega), if_neg (by omega), if_neg (by omega), if_pos rfl, e2, bnd1_mk]
        simp only []
        rw [e3, bnd1_mk, hv, bnd1_mk]
        exact ⟨_, _, rfl, g3⟩
      · obtain ⟨L, i2, e2, g2, hl⟩ := gValues self (d - 1) hs g1 (most := 3) (by omega) (by omega)
        have hsl := (sortW_spec L).2.2
        rw [if_neg (by omega), if_neg (by omega), if_neg (by omega), if_neg (by omega), if_pos rfl, e2, bnd1_mk, rSort L (by omega), bnd1_mk]
        obtain ⟨i3, O, h1, h2, h3⟩ := gVal_loop self d (by rw [ed]; exact hs) (sortW L) (by omega) (fun x0_0_j61 x0_1_j61 x7_j61 => bnd1 (m_ref9_Map (sortW L) x7_j61) (fun y81 => some (y81, (x0_0_j61, x0_1_j61)))) (sortW L).length 0 FU l i2 [] (by omega) (by omega) g2 (by simp; omega)
        rw [Int.natCast_zero] at h1
        obtain ⟨v, hv⟩ := rMap (sortW L) O (by omega) (by simp at h3; omega)
        simp only []
        rw [h1, hv, bnd1_mk]
        exact ⟨_, _, rfl, h2⟩
      · obtain ⟨k, i2, e2, g2, _⟩ := gNext g1 (n := 3) (by omega) (by omega)
        obtain ⟨L, i3, e3, g3, hl⟩ := gValues self (d - 1) hs g2 (most := 2) (by omega) (by omega)
        obtain ⟨v, hv⟩ := rNumbered 8 (by decide) k L (by omega)
        rw [show ((8 : UInt8).toNat : Int) = 8 from rfl] at hv
        rw [if_neg (by omega), if_neg (by omega), if_neg (by omega), if_neg (by omega), if_neg (by omega), if_pos rfl, e2, bnd1_mk]
        simp only []
        rw [e3, bnd1_mk, hv, bnd1_mk]
        exact ⟨_, _, rfl, g3⟩
theorem gValue_S : ∀ (k : Nat), k ≤ 1000 → ∀ n, k < n → GV (fun s => m_gen_Choices_Value_S n s (k : Int))
  | 0, _, n, hn => by
    obtain ⟨n, rfl⟩ : ∃ q, n = q + 1 := ⟨n - 1, by omega⟩
    exact gValue_F _ _ (.inl (by omega))
  | k + 1, hk, n, hn => by
    obtain ⟨n, rfl⟩ : ∃ q, n = q + 1 := ⟨n - 1, by omega⟩
    have ih := gValue_S k (by omega) n (by omega)
    refine gValue_F _ _ ?_
    by_cases h : k = 0
    · exact .inl (by omega)
    · refine .inr ⟨by omega, by omega, ?_⟩
      rw [show ((k + 1 : Nat) : Int) - 1 = (k : Int) by omega]; exact ih
theorem gValue (k : Nat) (hk : k ≤ 1000) : GV (fun s => m_gen_Choices_Value s (k : Int)) := by
  have hFU := FU_ge
  exact gValue_S k hk FU (by omega)
end Go.Proofs.YtdppkpiagdaigaaGreatDoor
/- The generator makes valid values. -/
namespace Go.Proofs.YtdppkpiagdaigaaGreatDoor
attribute [local irreducible] FU

/-! ### Maps -/
/-! ### The generator -/
def PV (k c : Nat) (v : List UInt8) : Prop := IsV k v ∧ v.length ≤ c
theorem PV.le {k c k' c' : Nat} {v : List UInt8} (h : PV k c v) (hk : k ≤ k') (hc : c ≤ c') : PV k' c' v := ⟨h.1.le hk, Nat.le_trans h.2 hc⟩
/-! ### Lists -/
end Go.Proofs.YtdppkpiagdaigaaGreatDoor
/- The check of layer 9: text, kind and order of one set. -/
namespace Go.Proofs.YtdppkpiagdaigaaGreatDoor
attribute [local irreducible] FU

theorem cmpC_int {a b : Int} (ha : -9223372036854775808 ≤ a ∧ a ≤ 9223372036854775807) (hb : -9223372036854775808 ≤ b ∧ b ≤ 9223372036854775807) : cmpC (intW a) (intW b) = sgn a b := by
  have va : Vd (intW a) := ⟨intW_IsV a 31, by rw [intW_len]; omega⟩
  have vb : Vd (intW b) := ⟨intW_IsV b 31, by rw [intW_len]; omega⟩
  rw [cmpC_val va vb]
  unfold cmpW
  show (if intW a = intW b then 0 else if gi (intW a) 0 ≠ gi (intW b) 0 then sgnB (gi (intW a) 0) (gi (intW b) 0) else if gi (intW a) 0 = 1 then sgn (numV (intW a)) (numV (intW b)) else _) = _
  by_cases h : intW a = intW b
  · rw [if_pos h, intW_inj ha hb h]; unfold sgn; simp
  · rw [if_neg h, if_neg (fun hn => hn rfl), if_pos (show gi (intW a) 0 = 1 from rfl), numV_intW ha, numV_intW hb]
theorem sort12 : sortW [intW 2, intW 1, intW 2] = [intW 1, intW 2] := by
  refine slc_ext (sortW_spec _).1 ?_ (fun x => ?_)
  · refine List.pairwise_cons.2 ⟨fun y hy => ?_, by simp⟩
    rw [List.mem_singleton] at hy
    subst hy
    rw [cmpC_int (by omega) (by omega)]; decide
  · rw [(sortW_spec _).2.1]; simp; exact fun h => .inr h
theorem set12 : setW [intW 2, intW 1, intW 2] = raw 5 [intW 1, intW 2] ∧ prtW (setW [intW 2, intW 1, intW 2]) = [intW 1, intW 2] ∧ isSet (setW [intW 2, intW 1, intW 2]) = true ∧ vldB (setW [intW 2, intW 1, intW 2]) = true := by
  have hl : ∀ x ∈ [intW 2, intW 1, intW 2], IsV 1 x := fun x hx => by
    simp at hx
    rcases hx with rfl | rfl | rfl <;> exact intW_IsV _ 0
  obtain ⟨a1, a2, a3, a4, _, a6⟩ := set_ok (l := [intW 2, intW 1, intW 2]) (k := 1) (by omega) hl (by rw [sort12]; simp) (by rw [sort12]; simp [intW_len])
  rw [sort12] at a1 a3
  exact ⟨a1, a3, a4, vldB_iff.2 ⟨a2.le (by omega), a6⟩⟩
end Go.Proofs.YtdppkpiagdaigaaGreatDoor
