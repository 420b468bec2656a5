/- Making values: program and reference agree. -/
import Derived.Test.YtjlbdhicabgliaaGreatQC1
namespace Go.Proofs.YtjlbdhicabgliaaGreat
attribute [local irreducible] FU

def raw (c : UInt8) (l : List (List UInt8)) : List UInt8 := c :: u8i ((l.length / 256 : Nat) : Int) :: u8i ((l.length : Nat) : Int) :: l.flatten
theorem raw_len (c : UInt8) (l : List (List UInt8)) : (raw c l).length = l.flatten.length + 3 := rfl
theorem raw_count {l : List (List UInt8)} (h : l.length ≤ 65535) : l.length = (u8i ((l.length / 256 : Nat) : Int)).toNat * 256 + (u8i ((l.length : Nat) : Int)).toNat := by
 rw [u8i_nat, u8i_nat]; omega
noncomputable def cmpd (c : UInt8) (l : List (List UInt8)) : List UInt8 := by
 classical exact if l.length ≤ 65535 ∧ (∀ x ∈ l, Vd x) ∧ Vd (raw c l) then raw c l else []
theorem cmpd_yes {c : UInt8} {l : List (List UInt8)} (h : l.length ≤ 65535 ∧ (∀ x ∈ l, Vd x) ∧ Vd (raw c l)) : cmpd c l = raw c l := by unfold cmpd; rw [if_pos h]
theorem cmpd_no {c : UInt8} {l : List (List UInt8)} (h : ¬ (l.length ≤ 65535 ∧ (∀ x ∈ l, Vd x) ∧ Vd (raw c l))) : cmpd c l = [] := by unfold cmpd; rw [if_neg h]
theorem cmpd_ne {c : UInt8} {l : List (List UInt8)} : cmpd c l ≠ [] ↔ (l.length ≤ 65535 ∧ (∀ x ∈ l, Vd x) ∧ Vd (raw c l)) := by
 constructor
 ·intro h
  exact Classical.byContradiction fun hn => h (cmpd_no hn)
 ·intro h; rw [cmpd_yes h]; simp [raw]
theorem prt_raw {c : UInt8} {l : List (List UInt8)} (hc : 3 ≤ c.toNat ∧ c.toNat ≤ 9) (hl : l.length ≤ 65535) (hv : ∀ x ∈ l, Vd x) : prt (raw c l) = l := prt_comp hc (raw_count hl) (fun x h => (hv x h).1.sh) (by omega)
theorem indexFunc_eq (f : List UInt8 → Option Bool) (p : List UInt8 → Bool) (hf : ∀ x, f x = some (p x)) (l : List (List UInt8)) (hl : l.length ≤ 1099511627776) : m_slices_ContainsFunc_L_api_Value_api_Value l f = some (l.any p) := by
 have hFU := FU_ge
 unfold m_slices_ContainsFunc_L_api_Value_api_Value m_slices_IndexFunc_L_api_Value_api_Value
 rw [jn_eq]
 have loop : ∀ (m i n : Nat), i + m = l.length → m < n → ∃ r, m_slices_IndexFunc_L_api_Value_api_Value_L2 l f (fun _ => some (-1)) n i = some r ∧ decide (0 ≤ r) = (l.drop i).any p := by
  intro m
  induction m with
  | zero =>
   intro i n hi hn
   obtain ⟨n, rfl⟩ : ∃ k, n = k + 1 := ⟨n - 1, by omega⟩
   refine ⟨-1, by rw [m_slices_IndexFunc_L_api_Value_api_Value_L2, m_slices_IndexFunc_L_api_Value_api_Value_B2, if_neg (by omega)], ?_⟩
   rw [List.drop_eq_nil_of_le (by omega)]; rfl
  | succ m ih =>
   intro i n hi hn
   obtain ⟨n, rfl⟩ : ∃ k, n = k + 1 := ⟨n - 1, by omega⟩
   have hil : i < l.length := by omega
   rw [m_slices_IndexFunc_L_api_Value_api_Value_L2, m_slices_IndexFunc_L_api_Value_api_Value_B2, if_pos (by omega), need_pos (by omega), gi_nat hil, hf, bnd1_mk, List.drop_eq_getElem_cons hil, List.any_cons]
   cases hp : p l[i] with
   | true => exact ⟨i, rfl, by simp⟩
   | false =>
    rw [if_neg (by simp), i64_succ (by omega)]
    obtain ⟨r, h1, h2⟩ := ih (i + 1) n (by omega) (by omega)
    exact ⟨r, h1, by rw [h2]; simp⟩
 obtain ⟨r, h1, h2⟩ := loop l.length 0 FU (by omega) (by omega)
 rw [Int.natCast_zero] at h1
 rw [h1, bnd1_mk, h2, List.drop_zero]
theorem vChecked (b : List UInt8) : m_value_checked b = some (if vldB b = true then b else []) := by
 unfold m_value_checked
 rw [vValid, bnd1_mk]
 cases vldB b <;> rfl
theorem rChecked (b : List UInt8) : m_ref9_checked b = some (if vldB b = true then b else []) := by
 unfold m_ref9_checked
 rw [rValid, bnd1_mk]
 cases vldB b <;> rfl
theorem vCompound (c : UInt8) (l : List (List UInt8)) (hx : ∀ x ∈ l, x.length ≤ 1099511627776) : m_value_compound (c.toNat : Int) l = some (cmpd c l) := by
 have hFU := FU_ge
 unfold m_value_compound
 by_cases hl : (65535 : Int) < l.length
 ·rw [if_pos hl, cmpd_no (fun h => by have := h.1; omega)]
 ·rw [if_neg hl, u8i_toNat]
  have e16 : IntKind.u16.wrap (l.length : Int) = (l.length : Int) := by
   unfold IntKind.wrap IntKind.bits IntKind.signed
   simp; omega
  have e8 : Int.fdiv (l.length : Int) (2 ^ min (Int.toNat 8) IntKind.u16.bits) = ((l.length / 256 : Nat) : Int) := by
   rw [show (2 : Int) ^ min (Int.toNat 8) IntKind.u16.bits = 256 from rfl, Int.fdiv_eq_ediv_of_nonneg _ (by omega)]; omega
  unfold m_value_append16
  rw [e16, e8, need_pos (by simp), bnd1_mk, jn_eq]
  have loop : ∀ (K : List UInt8 → Option (List UInt8)) (m i n : Nat) (b : List UInt8), i + m = l.length → m < n → b.length ≤ 131072 →
    ((∀ x ∈ l.drop i, x ≠ []) ∧ b.length + (l.drop i).flatten.length ≤ 131072 ∧ m_value_compound_L2 l K n b i = K (b ++ (l.drop i).flatten)) ∨ (¬ ((∀ x ∈ l.drop i, x ≠ []) ∧ b.length + (l.drop i).flatten.length ≤ 131072) ∧ m_value_compound_L2 l K n b i = some []) := by
   intro K m
   induction m with
   | zero =>
    intro i n b hi hn hb
    obtain ⟨n, rfl⟩ : ∃ k, n = k + 1 := ⟨n - 1, by omega⟩
    rw [List.drop_eq_nil_of_le (by omega)]
    refine .inl ⟨by simp, by simpa using hb, ?_⟩
    rw [m_value_compound_L2, m_value_compound_B2, if_neg (by omega)]; simp
   | succ m ih =>
    intro i n b hi hn hb
    obtain ⟨n, rfl⟩ : ∃ k, n = k + 1 := ⟨n - 1, by omega⟩
    have hil : i < l.length := by omega
    have hxi := hx _ (List.getElem_mem hil)
    rw [m_value_compound_L2, m_value_compound_B2, if_pos (by omega), need_pos (by omega)]
    simp only [jn_eq]
    rw [gi_nat hil, List.drop_eq_getElem_cons hil]
    by_cases he : l[i] = []
    ·rw [if_pos he, if_pos trivial]
     exact .inr ⟨fun h => h.1 _ List.mem_cons_self he, rfl⟩
    ·have e1 : i64 ((b.length : Int) + (l[i].length : Int)) = ((b.length + l[i].length : Nat) : Int) := by rw [i64_id (by omega)]; omega
     rw [if_neg he, e1]
     by_cases hs : (131072 : Int) < ((b.length + l[i].length : Nat) : Int)
     ·rw [if_pos (decide_eq_true hs)]
      exact .inr ⟨fun h => by have := h.2; simp only [List.flatten_cons, List.length_append] at this; omega, rfl⟩
     ·rw [if_neg (fun h => hs (of_decide_eq_true h)), need_pos (by omega), i64_succ (by omega)]
      have hlb : (b ++ l[i]).length = b.length + l[i].length := List.length_append
      rcases ih (i + 1) n (b ++ l[i]) (by omega) (by omega) (by omega) with ⟨h1, h2, h3⟩ | ⟨h1, h2⟩
      ·refine .inl ⟨fun x h => ?_, ?_, ?_⟩
       ·rcases List.mem_cons.1 h with rfl | h
        ·exact he
        ·exact h1 x h
       ·rw [hlb] at h2; simp only [List.flatten_cons, List.length_append]; omega
       ·rw [h3, List.append_assoc, List.flatten_cons]
      ·refine .inr ⟨fun h => h1 ⟨fun x hx' => h.1 x (List.mem_cons_of_mem _ hx'), ?_⟩, h2⟩
       have := h.2
       simp only [List.flatten_cons, List.length_append] at this
       rw [hlb]; omega
  have hraw : [c] ++ [u8i ((l.length / 256 : Nat) : Int), u8i ((l.length : Nat) : Int)] ++ l.flatten = raw c l := rfl
  rcases loop _ l.length 0 FU ([c] ++ [u8i ((l.length / 256 : Nat) : Int), u8i ((l.length : Nat) : Int)]) (by omega) (by omega) (by simp) with ⟨h1, h2, h3⟩ | ⟨h1, h2⟩
  ·rw [Int.natCast_zero, List.drop_zero, hraw] at h3
   rw [List.drop_zero] at h1 h2
   rw [h3, indexFunc_eq m_value_compound_1 (fun x => !vldB x) (fun x => by unfold m_value_compound_1; rw [vValid, bnd1_mk]) l (by omega), bnd1_mk]
   cases hall : l.any (fun x => !vldB x) with
   | true =>
    rw [if_neg (by simp), cmpd_no]
    intro h
    obtain ⟨x, hx, hv⟩ := List.any_eq_true.1 hall
    rw [vldB_iff.2 (h.2.1 x hx)] at hv; cases hv
   | false =>
    have hv : ∀ x ∈ l, Vd x := fun x hx => by
     have := List.any_eq_false.1 hall x hx
     simp at this; exact vldB_iff.1 this
    rw [if_pos (show (!false) = true from rfl), vChecked, bnd1_mk]
    by_cases hr : Vd (raw c l)
    ·rw [if_pos (vldB_iff.2 hr), cmpd_yes ⟨by omega, hv, hr⟩]
    ·rw [if_neg (fun h => hr (vldB_iff.1 h)), cmpd_no (fun h => hr h.2.2)]
  ·rw [Int.natCast_zero] at h2
   rw [h2, cmpd_no]
   intro h
   rw [List.drop_zero] at h1
   refine h1 ⟨fun x hx => (h.2.1 x hx).ne, ?_⟩
   have := h.2.2.2
   rw [raw_len] at this
   simp; simp at this; omega
theorem rCompound (c : UInt8) (hc : 3 ≤ c.toNat ∧ c.toNat ≤ 9) (l : List (List UInt8)) (hv : ∀ x ∈ l, Vd x) : m_ref9_compound (c.toNat : Int) l = some (cmpd c l) := by
 have hFU := FU_ge
 unfold m_ref9_compound
 by_cases hl : (65535 : Int) < l.length
 ·rw [if_pos hl, cmpd_no (fun h => by have := h.1; omega)]
 ·rw [if_neg hl, u8i_toNat]
  have e8 : Int.fdiv (l.length : Int) (2 ^ min (Int.toNat 8) IntKind.i64.bits) = ((l.length / 256 : Nat) : Int) := by
   rw [show (2 : Int) ^ min (Int.toNat 8) IntKind.i64.bits = 256 from rfl, Int.fdiv_eq_ediv_of_nonneg _ (by omega)]; omega
  unfold m_ref9_two
  rw [e8, bnd1_mk, need_pos (by simp), jn_eq]
  have hraw : [c] ++ [u8i ((l.length / 256 : Nat) : Int), u8i ((l.length : Nat) : Int)] ++ l.flatten = raw c l := rfl
  -- what is done with the bytes
  have hK : ∀ s : List UInt8, s.length ≤ 1000000 → (131072 < s.length ∨ s = raw c l) → bnd1 (m_ref9_read s 32) (fun y122 => jn (fun (x59_j123 : Bool) => if x59_j123 then (some ([] : List UInt8)) else (bnd1 (m_ref9_checked s) (fun y124 => some y124))) (fun k123 => if ¬ y122.1 = (List.length s : Int) then (k123 true) else (k123 (decide (¬ (List.length y122.2.1 : Int) = (List.length l : Int)))))) = some (if 131072 < s.length then [] else cmpd c l) := by
   intro s hs hcase
   unfold m_ref9_read m_ref9_walk
   have h := rWalk 32 (Nat.le_refl _) FU (by omega) s (by omega)
   rw [show ((32 : Nat) : Int) = 32 from rfl] at h
   simp only [jn_eq, rChecked, bnd1_mk]
   by_cases hlong : 131072 < s.length
   ·rw [if_pos hlong]
    have hno : vldB s = false := vldB_no (fun h => by have := h.2; omega)
    rcases h with ⟨w, r, d, e, hv', h⟩ | ⟨_, h⟩
    ·rw [h, bnd1_mk, bnd1_mk, hno]
     simp only []
     split
     ·rfl
     ·split <;> rfl
    ·rw [h, bnd1_mk, bnd1_mk, hno]
     simp only []
     split
     ·rfl
     ·split <;> rfl
   ·have hs' : s = raw c l := hcase.resolve_left hlong
    rw [if_neg hlong]
    rcases h with ⟨w, r, d, e, hv', h⟩ | ⟨hno, h⟩
    ·rw [h, bnd1_mk, bnd1_mk]
     simp only []
     by_cases hr : r = []
     ·subst hr
      rw [List.append_nil] at e
      subst e
      have hvr : Vd (raw c l) := by rw [← hs']; exact ⟨hv', by omega⟩
      rw [if_neg (fun h => h rfl), hs', prt_raw hc (by omega) hv, if_neg (by simp), if_pos (vldB_iff.2 hvr), cmpd_yes ⟨by omega, hv, hvr⟩]
     ·have hlr : 0 < r.length := List.length_pos_iff.2 hr
      rw [if_pos (by rw [e]; simp; omega), if_pos trivial, cmpd_no]
      intro hh
      have := (hv'.sh.uniq hh.2.2.1.sh r [] (by rw [List.append_nil, ← e, hs'])).2
      exact hr this
    ·rw [h, bnd1_mk, bnd1_mk]
     simp only []
     have h3 : 3 ≤ s.length := by rw [hs', raw_len]; omega
     rw [if_pos (by omega), if_pos trivial, cmpd_no (fun hh => hno s [] (by simp) (by rw [hs']; exact hh.2.2.1))]
  have loop : ∀ (K : List UInt8 → Option (List UInt8)) (m i n : Nat) (b : List UInt8), i + m = l.length → m < n → b.length ≤ 262144 →
    (∃ s, s.length ≤ 262144 ∧ (131072 < s.length ∨ s = b ++ (l.drop i).flatten) ∧ (b.length ≤ s.length) ∧ (131072 < s.length → 131072 < (b ++ (l.drop i).flatten).length) ∧ m_ref9_compound_L2 l K n b i = K s) ∨ (131072 < (b ++ (l.drop i).flatten).length ∧ m_ref9_compound_L2 l K n b i = some []) := by
   intro K m
   induction m with
   | zero =>
    intro i n b hi hn hb
    obtain ⟨n, rfl⟩ : ∃ k, n = k + 1 := ⟨n - 1, by omega⟩
    rw [List.drop_eq_nil_of_le (by omega)]
    refine .inl ⟨b, hb, .inr (by simp), Nat.le_refl _, fun h => by simpa using h, ?_⟩
    rw [m_ref9_compound_L2, m_ref9_compound_B2, if_neg (by omega)]
   | succ m ih =>
    intro i n b hi hn hb
    obtain ⟨n, rfl⟩ : ∃ k, n = k + 1 := ⟨n - 1, by omega⟩
    have hil : i < l.length := by omega
    have hvi := hv _ (List.getElem_mem hil)
    rw [m_ref9_compound_L2, m_ref9_compound_B2, if_pos (by omega)]
    simp only [jn_eq]
    rw [need_pos (by omega), gi_nat hil, List.drop_eq_getElem_cons hil, if_neg hvi.ne]
    by_cases hs : (131072 : Int) < (b.length : Int)
    ·rw [if_pos (decide_eq_true hs)]
     exact .inr ⟨by simp; omega, rfl⟩
    ·have hvl := hvi.2
     rw [if_neg (fun h => hs (of_decide_eq_true h)), need_pos (by omega), need_pos (by omega), i64_succ (by omega)]
     have hlb : (b ++ l[i]).length = b.length + l[i].length := List.length_append
     have hap : (b ++ l[i]) ++ (l.drop (i + 1)).flatten = b ++ (l[i] :: l.drop (i + 1)).flatten := by simp only [List.flatten_cons, List.append_assoc]
     rcases ih (i + 1) n (b ++ l[i]) (by omega) (by omega) (by omega) with ⟨s, h1, h2, h3, h4, h5⟩ | ⟨h1, h2⟩
     ·rw [hap] at h2 h4
      exact .inl ⟨s, h1, h2, by omega, h4, h5⟩
     ·rw [hap] at h1
      exact .inr ⟨h1, h2⟩
  rcases loop _ l.length 0 FU ([c] ++ [u8i ((l.length / 256 : Nat) : Int), u8i ((l.length : Nat) : Int)]) (by omega) (by omega) (by simp) with ⟨s, h1, h2, _, h4, h5⟩ | ⟨h1, h2⟩
  ·rw [Int.natCast_zero] at h5
   rw [List.drop_zero, hraw] at h2 h4
   rw [h5, hK s (by omega) h2]
   split
   ·rename_i hlong
    have := h4 hlong
    rw [cmpd_no (fun h => by have := h.2.2.2; omega)]
   ·rfl
  ·rw [Int.natCast_zero] at h2
   rw [List.drop_zero, hraw] at h1
   rw [h2, cmpd_no (fun h => by have := h.2.2.2; omega)]
theorem rAll (l : List (List UInt8)) (hl : l.length ≤ 1099511627776) : m_ref9_all l = some (l.all vldB) := by
 unfold m_ref9_all
 rw [jn_eq]
 have h := loop_all l (by omega) (fun n (_ : Unit) i => m_ref9_all_L2 l (fun _ => some true) n i) (fun s x k => if !vldB x then some false else k s) (fun _ => some true) (fun n s i hi => by
   show m_ref9_all_L2 l _ (n + 1) i = _
   rw [m_ref9_all_L2, m_ref9_all_B2]
   simp (disch := omega) only [if_pos, need_pos, gi_nat, rValid, bnd1_mk, i64_succ]) (fun n s => by
   show m_ref9_all_L2 l _ (n + 1) _ = _
   rw [m_ref9_all_L2, m_ref9_all_B2, if_neg (by omega)]) ()
 refine h.trans ?_
 rw [foldK_any]
 cases h : l.all vldB with
 | true => rw [if_neg]; simp at h ⊢; exact h
 | false => rw [if_pos]; simp at h ⊢; exact h
theorem rMake (c : UInt8) (hc : 3 ≤ c.toNat ∧ c.toNat ≤ 9) (l : List (List UInt8)) (hl : l.length ≤ 1099511627776) : m_ref9_Make (c.toNat : Int) l = some (cmpd c l) := by
 unfold m_ref9_Make
 rw [rAll l hl, bnd1_mk]
 cases h : l.all vldB with
 | true =>
  simp at h
  rw [if_neg (by simp), rCompound c hc l (fun x hx => vldB_iff.1 (h x hx)), bnd1_mk]
 | false =>
  rw [if_pos (show (!false) = true from rfl), cmpd_no]
  intro hh
  simp at h
  obtain ⟨x, hx, hv⟩ := h
  rw [vldB_iff.2 (hh.2.1 x hx)] at hv; cases hv
noncomputable def setW (l : List (List UInt8)) : List UInt8 := cmpd 5 (sortW l)
theorem vSet (l : List (List UInt8)) (hl : l.length ≤ 10000000) (hx : ∀ x ∈ l, x.length ≤ 1099511627776) : m_value_Set l = some (setW l) := by
 unfold m_value_Set setW
 have := vCompound 5 (sortW l) (fun x h => hx x ((sortW_spec l).2.1 x |>.1 h))
 rw [show ((5 : UInt8).toNat : Int) = 5 from rfl] at this
 rw [vSort l (by omega), bnd1_mk, this, bnd1_mk]
theorem rSet (l : List (List UInt8)) (hl : l.length ≤ 10000000000) : m_ref9_Set l = some (setW l) := by
 unfold m_ref9_Set setW
 rw [rAll l (by omega), bnd1_mk]
 have hmem := (sortW_spec l).2.1
 cases h : l.all vldB with
 | true =>
  simp at h
  have := rCompound 5 (by decide) (sortW l) (fun x hx => vldB_iff.1 (h x ((hmem x).1 hx)))
  rw [show ((5 : UInt8).toNat : Int) = 5 from rfl] at this
  rw [if_neg (by simp), rSort l hl, bnd1_mk, this, bnd1_mk]
 | false =>
  rw [if_pos (show (!false) = true from rfl), cmpd_no]
  intro hh
  simp at h
  obtain ⟨x, hx, hv⟩ := h
  rw [vldB_iff.2 (hh.2.1 x ((hmem x).2 hx))] at hv; cases hv
end Go.Proofs.YtjlbdhicabgliaaGreat
/- Sets of values: elements, merging, bounded results. -/
namespace Go.Proofs.YtjlbdhicabgliaaGreat
attribute [local irreducible] FU

theorem cmpC_val {a b : List UInt8} (ha : Vd a) (hb : Vd b) : cmpC a b = cmpW a b := by unfold cmpC; rw [if_pos ⟨vldB_iff.2 ha, vldB_iff.2 hb⟩]
theorem flat_mem {ps : List (List UInt8)} {p : List UInt8} (h : p ∈ ps) : p.length ≤ ps.flatten.length := by
 obtain ⟨a, b, rfl⟩ := List.append_of_mem h
 simp; omega
theorem prtW_spec (v : List UInt8) : (∀ x ∈ prtW v, Vd x) ∧ (prtW v).length ≤ 65535 ∧ (prtW v).flatten.length ≤ v.length ∧ (prtW v).flatten.length ≤ 131072 ∧ (3 ≤ kindW v → kindW v ≤ 9 → formedB (gi v 0) (prtW v) = true ∧ v = raw (gi v 0) (prtW v)) := by
 unfold prtW kindW
 cases h0 : vldB v with
 | false => simp
 | true =>
  obtain ⟨hv, hl⟩ := vldB_iff.1 h0
  simp only [if_true]
  cases hv with
  | int k b h => simp [prt, gi_0]
  | bool k b h => simp [prt, gi_0]
  | name k h l => simp [prt, gi_0]
  | comp k c h l ps hc hn hp hf =>
   rw [prt_comp hc hn (fun p hp' => (hp p hp').sh) (by omega), gi_0]
   simp only [List.length_cons] at hl ⊢
   have hh := UInt8.toNat_lt h
   have hh' := UInt8.toNat_lt l
   refine ⟨fun x hx => ⟨(hp x hx).mono, by have := flat_mem hx; omega⟩, by omega, by omega, by omega, fun _ _ => ⟨hf, ?_⟩⟩
   have e1 : u8i ((ps.length / 256 : Nat) : Int) = h := u8_inj (by rw [u8i_nat]; omega)
   have e2 : u8i ((ps.length : Nat) : Int) = l := u8_inj (by rw [u8i_nat]; omega)
   unfold raw
   rw [e1, e2]
noncomputable def isSet (v : List UInt8) : Bool := decide (kindW v = 5)
theorem foldK_all {α β ρ : Type} (p : α → Bool) (g : α → β) (R : Option ρ) (K : List β → Option ρ) : ∀ (l : List α) (r : List β), r.length + l.length ≤ 137438953472 →
  foldK (fun r x k => if p x then need (List.length r + 1 ≤ 137438953472) (k (r ++ [g x])) else R) K l r = if l.all p then K (r ++ l.map g) else R
 | [], r, _ => by simp [foldK]
 | x :: xs, r, h => by
  simp only [List.length_cons] at h
  rw [foldK]
  cases hp : p x with
  | true => simp only [if_true]; rw [need_pos (by omega), foldK_all p g R K xs _ (by simp; omega)]; simp [hp]
  | false => simp [hp]
theorem vElements (l : List (List UInt8)) (hl : l.length ≤ 137438953472) : m_finset_elements l = some (if l.all isSet then (l.map prtW, 0) else ([], 6)) := by
 unfold m_finset_elements
 rw [jn_eq]
 have h := loop_all l (by omega) (fun n (s : List (List (List UInt8))) i => m_finset_elements_L2 l (fun x => some (x, 0)) n s i) (fun r x k => if isSet x then need (List.length r + 1 ≤ 137438953472) (k (r ++ [prtW x])) else some ([], 6)) (fun x => some (x, 0)) (fun n s i hi => by
   show m_finset_elements_L2 l _ (n + 1) _ _ = _
   rw [m_finset_elements_L2, m_finset_elements_B2, if_pos (by omega), need_pos (by omega), gi_nat hi, vKind, bnd1_mk]
   by_cases hk : kindW l[i] = 5
   ·rw [if_neg (fun h => h hk), vPartsW, bnd1_mk, if_pos (show isSet l[i] = true from decide_eq_true hk), i64_succ (by omega)]; rfl
   ·rw [if_pos hk, if_neg (show ¬ isSet l[i] = true from fun h => hk (of_decide_eq_true h))]) (fun n s => by
   show m_finset_elements_L2 l _ (n + 1) _ _ = _
   rw [m_finset_elements_L2, m_finset_elements_B2, if_neg (by omega)]) []
 refine h.trans ?_
 rw [foldK_all _ _ _ _ _ _ (by simp; omega)]
 split <;> simp
theorem sortW_id {l : List (List UInt8)} (h : SLC l) : sortW l = l := slc_ext (sortW_spec l).1 h (sortW_spec l).2.1
theorem sortW_congr {l l' : List (List UInt8)} (h : ∀ x, x ∈ l ↔ x ∈ l') : sortW l = sortW l' :=
 slc_ext (sortW_spec l).1 (sortW_spec l').1 (fun x => by rw [(sortW_spec l).2.1, (sortW_spec l').2.1, h])
noncomputable def bndW (l : List (List UInt8)) : List UInt8 × Int := if 4096 < (sortW l).length ∨ setW l = [] then ([], 9) else (setW l, 0)
theorem setW_congr {l l' : List (List UInt8)} (h : ∀ x, x ∈ l ↔ x ∈ l') : setW l = setW l' := by unfold setW; rw [sortW_congr h]
theorem bndW_congr {l l' : List (List UInt8)} (h : ∀ x, x ∈ l ↔ x ∈ l') : bndW l = bndW l' := by unfold bndW; rw [sortW_congr h, setW_congr h]
theorem setW_sort (l : List (List UInt8)) : setW (sortW l) = setW l := by unfold setW; rw [sortW_id (sortW_spec l).1]
theorem rBounded (l : List (List UInt8)) (hl : l.length ≤ 10000000) : m_ref9_bounded l = some (bndW l) := by
 unfold m_ref9_bounded bndW
 have := (sortW_spec l).2.2
 rw [rSort l (by omega), bnd1_mk]
 by_cases h : 4096 < (sortW l).length
 ·rw [if_pos (by omega), if_pos (.inl h)]
 ·rw [if_neg (by omega), rSet _ (by omega), bnd1_mk, setW_sort]
  by_cases h' : setW l = []
  ·rw [if_pos h', if_pos (.inr h')]
  ·rw [if_neg h', if_neg (by simp [h, h'])]
theorem vSized (n : Nat) (v : List UInt8) : m_finset_sized n v = some (if 4096 < n ∨ v = [] then ([], 9) else (v, 0)) := by
 unfold m_finset_sized
 simp only [jn_eq]
 by_cases h : 4096 < n
 ·rw [if_pos (by omega), if_pos trivial, if_pos (.inl h)]
 ·rw [if_neg (by omega)]
  by_cases h' : v = []
  ·rw [if_pos (decide_eq_true h'), if_pos (.inr h')]
  ·rw [if_neg (fun h => h' (of_decide_eq_true h)), if_neg (by simp [h, h'])]
theorem vSetF (l : List (List UInt8)) (hl : l.length ≤ 10000000) (hx : ∀ x ∈ l, x.length ≤ 1099511627776) (h : SLC l ∨ l.length ≤ 4096) : m_finset_set l = some (bndW l) := by
 unfold m_finset_set bndW
 have hs := (sortW_spec l).2.2
 by_cases hc : 4096 < l.length
 ·have : sortW l = l := sortW_id (h.resolve_right (by omega))
  rw [if_pos (by omega), if_pos (.inl (by rw [this]; exact hc))]
 ·rw [if_neg (by omega), vSet l hl hx, bnd1_mk, vSized, bnd1_mk]
  have h1 : ¬ 4096 < (sortW l).length := by omega
  by_cases h' : setW l = []
  ·rw [if_pos (.inr h'), if_pos (.inr h')]
  ·rw [if_neg (by simp [hc, h']), if_neg (by simp [h1, h'])]

def MS (F : Bool → Bool → Bool) (A B r : List (List UInt8)) : Prop := SLC r ∧ ∀ y, y ∈ r ↔ F (decide (y ∈ A)) (decide (y ∈ B)) = true ∧ (y ∈ A ∨ y ∈ B)
theorem MS.push {F : Bool → Bool → Bool} {x : List UInt8} {A B r : List (List UInt8)} (fa fb : Bool) (hor : (fa || fb) = true) (hxA : ∀ y ∈ A, cmpC x y < 0) (hxB : ∀ y ∈ B, cmpC x y < 0) (h : MS F A B r) :
  MS F ((if fa then [x] else []) ++ A) ((if fb then [x] else []) ++ B) ((if F fa fb then [x] else []) ++ r) := by
 obtain ⟨hr, hm⟩ := h
 have hA : x ∉ A := fun hh => by have := hxA x hh; rw [cmpC_self] at this; omega
 have hB : x ∉ B := fun hh => by have := hxB x hh; rw [cmpC_self] at this; omega
 refine ⟨?_, fun y => ?_⟩
 ·split
  ·refine List.pairwise_cons.2 ⟨fun y hy => ?_, hr⟩
   rcases ((hm y).1 hy).2 with h | h
   ·exact hxA y h
   ·exact hxB y h
  ·exact hr
 ·by_cases hy : y = x
  ·subst hy
   have hnr : y ∉ r := fun hh => by rcases ((hm y).1 hh).2 with h | h; exact hA h; exact hB h
   cases fa <;> cases fb <;> simp_all <;> split <;> simp_all
  ·have e1 : (y ∈ (if fa = true then [x] else []) ++ A) ↔ y ∈ A := by cases fa <;> simp [hy]
   have e2 : (y ∈ (if fb = true then [x] else []) ++ B) ↔ y ∈ B := by cases fb <;> simp [hy]
   have e3 : (y ∈ (if F fa fb = true then [x] else []) ++ r) ↔ y ∈ r := by cases F fa fb <;> simp [hy]
   rw [e3, hm]
   simp only [e1, e2]
theorem nodup_len {α : Type} : ∀ {r l : List α}, r.Nodup → (∀ x ∈ r, x ∈ l) → r.length ≤ l.length
 | [], _, _, _ => by simp
 | x :: r, l, hn, hs => by
  obtain ⟨s, t, rfl⟩ := List.append_of_mem (hs x (by simp))
  obtain ⟨h1, h2⟩ := List.nodup_cons.1 hn
  have := nodup_len (r := r) (l := s ++ t) h2 (fun y hy => by
   have h := hs y (List.mem_cons_of_mem _ hy)
   have hne : y ≠ x := fun e => h1 (e ▸ hy)
   simpa [hne] using h)
  simp only [List.length_append, List.length_cons] at this ⊢
  omega
theorem slc_nodup {r : List (List UInt8)} (h : SLC r) : r.Nodup := h.imp (fun {a b} hab he => by subst he; rw [cmpC_self] at hab; omega)
theorem MS.len {F : Bool → Bool → Bool} {A B r : List (List UInt8)} (h : MS F A B r) : r.length ≤ A.length + B.length := by
 have := nodup_len (l := A ++ B) (slc_nodup h.1) (fun x hx => by rcases ((h.2 x).1 hx).2 with h | h <;> simp [h])
 simpa using this
end Go.Proofs.YtjlbdhicabgliaaGreat
/- Operations on sets: program and reference agree. -/
namespace Go.Proofs.YtjlbdhicabgliaaGreat
attribute [local irreducible] FU

end Go.Proofs.YtjlbdhicabgliaaGreat
/- Operations on sets of sets and maps: program and reference agree. -/
namespace Go.Proofs.YtjlbdhicabgliaaGreat
attribute [local irreducible] FU

end Go.Proofs.YtjlbdhicabgliaaGreat
/- Subsets and keys: program and reference agree. -/
namespace Go.Proofs.YtjlbdhicabgliaaGreat
attribute [local irreducible] FU

theorem u64_nat {n : Nat} (h : n ≤ 4611686018427387904) : IntKind.u64.wrap (n : Int) = (n : Int) := by
 unfold IntKind.wrap IntKind.bits IntKind.signed
 simp; omega
end Go.Proofs.YtjlbdhicabgliaaGreat
/- Integers as values; sets of them; the check of awake. -/
namespace Go.Proofs.YtjlbdhicabgliaaGreat
attribute [local irreducible] FU

def byD (w : Nat) : Nat → List UInt8
 | 0 => []
 | k + 1 => u8i ((w / 2 ^ (8 * k) : Nat) : Int) :: byD w k
theorem byD_len (w : Nat) : ∀ k, (byD w k).length = k
 | 0 => rfl
 | k + 1 => by simp [byD, byD_len w k]
theorem beNat_cons (b : UInt8) (l : List UInt8) : beNat (b :: l) = b.toNat * 256 ^ l.length + beNat l := by
 have key : ∀ (l : List UInt8) (a : Nat), l.foldl (fun n b => n * 256 + b.toNat) a = a * 256 ^ l.length + beNat l := by
  intro l
  induction l with
  | nil => intro a; simp [beNat]
  | cons x l ih =>
   intro a
   have e : beNat (x :: l) = x.toNat * 256 ^ l.length + beNat l := by
    have := ih (0 * 256 + x.toNat)
    simpa [beNat] using this
   rw [List.foldl_cons, ih, e, List.length_cons, Nat.pow_succ, Nat.add_mul, Nat.mul_assoc, Nat.mul_comm 256]
   omega
 have := key l b.toNat
 simpa [beNat] using this
theorem pow8 (k : Nat) : 256 ^ k = 2 ^ (8 * k) := by rw [Nat.pow_mul]
theorem beNat_byD (w : Nat) : ∀ k, beNat (byD w k) = w % 2 ^ (8 * k)
 | 0 => by simp [byD, beNat, Nat.mod_one]
 | k + 1 => by
  rw [byD, beNat_cons, byD_len, u8i_nat, beNat_byD w k, pow8, show 8 * (k + 1) = 8 * k + 8 by omega, Nat.pow_add, Nat.mod_mul, Nat.mul_comm, Nat.add_comm, Nat.mul_comm]
def wOf (n : Int) : Nat := (n % 18446744073709551616).toNat
theorem u64_mod (x : Int) : IntKind.u64.wrap x = (wOf x : Int) := by rw [wrap_u64]; unfold wOf; omega
theorem fdiv_pow (w k : Nat) (hk : 8 * k ≤ 64) : Int.fdiv (w : Int) (2 ^ min (Int.toNat ((8 * k : Nat) : Int)) IntKind.u64.bits) = ((w / 2 ^ (8 * k) : Nat) : Int) := by
 rw [Int.toNat_natCast, show IntKind.u64.bits = 64 from rfl, Nat.min_eq_left hk]
 have : (2 : Int) ^ (8 * k) = ((2 ^ (8 * k) : Nat) : Int) := by simp
 rw [this, Int.fdiv_eq_ediv_of_nonneg _ (Int.natCast_nonneg _)]
 rfl
noncomputable def intW (n : Int) : List UInt8 := 1 :: byD (wOf n) 8
theorem set_byD (w k : Nat) (hk : k < 8) : List.set (List.replicate (8 - k) (0 : UInt8) ++ byD w k) (7 - k) (u8i ((w / 2 ^ (8 * k) : Nat) : Int)) = List.replicate (8 - (k + 1)) (0 : UInt8) ++ byD w (k + 1) := by
 rw [show 8 - k = (8 - (k + 1)) + 1 by omega, List.replicate_succ', List.append_assoc, List.set_append_right _ _ (by simp)]
 have : 7 - k - (List.replicate (8 - (k + 1)) (0 : UInt8)).length = 0 := by simp
 rw [this]; rfl
theorem rEight_loop (n0 : Int) (K : List UInt8 → Option (List UInt8)) : ∀ (m k n : Nat), k + m = 8 → m < n → m_ref9_eight_L2 n0 K n (List.replicate (8 - k) (0 : UInt8) ++ byD (wOf n0) k) k = K (byD (wOf n0) 8) := by
 intro m
 induction m with
 | zero =>
  intro k n hk hn
  obtain ⟨n, rfl⟩ : ∃ q, n = q + 1 := ⟨n - 1, by omega⟩
  obtain rfl : k = 8 := by omega
  rw [m_ref9_eight_L2, m_ref9_eight_B2, if_neg (by omega)]
  simp
 | succ m ih =>
  intro k n hk hn
  obtain ⟨n, rfl⟩ : ∃ q, n = q + 1 := ⟨n - 1, by omega⟩
  have e1 : i64 (8 * (k : Int)) = ((8 * k : Nat) : Int) := by rw [i64_id (by omega)]; omega
  have e2 : i64 (7 - (k : Int)) = ((7 - k : Nat) : Int) := by rw [i64_id (by omega)]; omega
  rw [m_ref9_eight_L2, m_ref9_eight_B2, if_pos (by omega), e1, u64_nat (by omega), need_pos (by omega), e2, need_pos (by simp [byD_len]; omega), Int.toNat_natCast (7 - k), u64_mod, fdiv_pow _ k (by omega), i64_succ (by omega)]
  rw [set_byD (wOf n0) k (by omega)]
  exact ih (k + 1) n (by omega) (by omega)
theorem rInt (n : Int) : m_ref9_Int n = some (intW n) := by
 have hFU := FU_ge
 unfold m_ref9_Int m_ref9_eight
 have h := rEight_loop n (fun x => some x) 8 0 FU (by omega) (by omega)
 rw [Int.natCast_zero] at h
 rw [need_pos (by omega), jn_eq]
 rw [show List.replicate (Int.toNat 8) (0 : UInt8) = List.replicate (8 - 0) (0 : UInt8) ++ byD (wOf n) 0 from rfl, h, bnd1_mk, need_pos (by simp [byD_len])]
 rfl
theorem intW_IsV (n : Int) (k : Nat) : IsV (k + 1) (intW n) := .int k _ (byD_len _ 8)
theorem intW_len (n : Int) : (intW n).length = 9 := by simp [intW, byD_len]
theorem numV_intW {n : Int} (h : -9223372036854775808 ≤ n ∧ n ≤ 9223372036854775807) : numV (intW n) = n := by
 unfold numV intW
 rw [List.drop_succ_cons, List.drop_zero, beNat_byD]
 have e : wOf n % 2 ^ (8 * 8) = wOf n := Nat.mod_eq_of_lt (by unfold wOf; omega)
 rw [e]
 unfold wOf i64
 rw [show (((n % 18446744073709551616).toNat : Nat) : Int) = n % 18446744073709551616 by omega]
 unfold IntKind.wrap IntKind.bits IntKind.signed
 simp; split <;> omega
theorem intW_inj {a b : Int} (ha : -9223372036854775808 ≤ a ∧ a ≤ 9223372036854775807) (hb : -9223372036854775808 ≤ b ∧ b ≤ 9223372036854775807) (h : intW a = intW b) : a = b := by
 rw [← numV_intW ha, ← numV_intW hb, h]

theorem flat_le {l : List (List UInt8)} {c : Nat} (h : ∀ x ∈ l, x.length ≤ c) : l.flatten.length ≤ c * l.length := by
 induction l with
 | nil => simp
 | cons x l ih =>
  have h1 := h x (by simp)
  have h2 := ih (fun y hy => h y (by simp [hy]))
  simp only [List.flatten_cons, List.length_append, List.length_cons, Nat.mul_add, Nat.mul_one]
  omega
theorem SLC_ascB : ∀ {ps : List (List UInt8)}, (∀ p ∈ ps, Vd p) → SLC ps → ascB ps = true
 | [], _, _ => rfl
 | [_], _, _ => rfl
 | x :: y :: t, hv, h => by
  obtain ⟨h1, h2⟩ := List.pairwise_cons.1 h
  have := h1 y (by simp)
  rw [cmpC_val (hv x (by simp)) (hv y (by simp))] at this
  rw [ascB, SLC_ascB (fun p hp => hv p (by simp [hp])) h2, decide_eq_true this]; rfl
theorem set_ok {l : List (List UInt8)} {k : Nat} (hk : k ≤ 31) (hv : ∀ x ∈ l, IsV k x) (hl : (sortW l).length ≤ 65535) (hs : 3 + (sortW l).flatten.length ≤ 131072) :
  setW l = raw 5 (sortW l) ∧ IsV (k + 1) (setW l) ∧ prtW (setW l) = sortW l ∧ isSet (setW l) = true ∧ setW l ≠ [] ∧ (setW l).length ≤ 131072 := by
 have hm := (sortW_spec l).2.1
 have hV : ∀ x ∈ sortW l, Vd x := fun x hx => ⟨(hv x ((hm x).1 hx)).le (by omega), by have := flat_mem hx; omega⟩
 have hI : IsV (k + 1) (raw 5 (sortW l)) := .comp k 5 _ _ (sortW l) (by decide) (raw_count hl) (fun x hx => hv x ((hm x).1 hx)) (by
  have := SLC_ascB hV (sortW_spec l).1
  simpa [formedB] using this)
 have hVr : Vd (raw 5 (sortW l)) := ⟨hI.le (by omega), by rw [raw_len]; omega⟩
 have he : setW l = raw 5 (sortW l) := cmpd_yes ⟨hl, hV, hVr⟩
 have hvb := vldB_iff.2 hVr
 rw [he]
 refine ⟨rfl, hI, ?_, ?_, by simp [raw], hVr.2⟩
 ·unfold prtW; rw [if_pos hvb]; exact prt_raw (by decide) hl hV
 ·unfold isSet kindW; rw [if_pos hvb]; rfl
theorem bnd_ok {l : List (List UInt8)} (h : (sortW l).length ≤ 4096) (hn : setW l ≠ []) : bndW l = (setW l, 0) := by
 unfold bndW; rw [if_neg]; rintro (h' | h')
 ·omega
 ·exact hn h'
theorem sort_nodup {l : List (List UInt8)} (h : l.Nodup) : (sortW l).length = l.length :=
 Nat.le_antisymm (sortW_spec l).2.2 (nodup_len h (fun x hx => ((sortW_spec l).2.1 x).2 hx))

noncomputable def runW (a : Int) (m : Nat) : List (List UInt8) := (List.range m).map (fun i : Nat => intW (a + i))
theorem runW_len (a : Int) (m : Nat) : (runW a m).length = m := by simp [runW]
theorem runW_succ (a : Int) (m : Nat) : runW a (m + 1) = intW a :: runW (a + 1) m := by
 unfold runW
 rw [List.range_succ_eq_map, List.map_cons, List.map_map]
 simp only [Int.natCast_zero, Int.add_zero]
 congr 1
 refine List.map_congr_left fun i _ => ?_
 show intW (a + ((i + 1 : Nat) : Int)) = intW (a + 1 + (i : Int))
 congr 1; omega
theorem runW_nodup {a : Int} {m : Nat} (h : -9223372036854775808 ≤ a ∧ a + m ≤ 9223372036854775808) : (runW a m).Nodup := by
 refine List.pairwise_map.2 (List.Pairwise.imp_of_mem ?_ List.nodup_range)
 intro i j hi hj hne he
 simp at hi hj
 have := intW_inj (a := a + i) (b := a + j) (by omega) (by omega) he
 omega
theorem runW_spec (a : Int) (m : Nat) : (∀ x ∈ runW a m, x.length ≤ 9) ∧ ∀ k, ∀ x ∈ runW a m, IsV (k + 1) x := by
 refine ⟨fun x hx => ?_, fun k x hx => ?_⟩
 ·obtain ⟨i, _, rfl⟩ := List.mem_map.1 hx; rw [intW_len]; omega
 ·obtain ⟨i, _, rfl⟩ := List.mem_map.1 hx; exact intW_IsV _ _
theorem run_set {a : Int} {m : Nat} (h : -9223372036854775808 ≤ a ∧ a + m ≤ 9223372036854775808) (hm : m ≤ 4096) : bndW (runW a m) = (setW (runW a m), 0) ∧ prtW (setW (runW a m)) = sortW (runW a m) ∧ isSet (setW (runW a m)) = true ∧ (sortW (runW a m)).length = m ∧ IsV 2 (setW (runW a m)) := by
 have hn := sort_nodup (runW_nodup h)
 rw [runW_len] at hn
 have hfl : (sortW (runW a m)).flatten.length ≤ 9 * (sortW (runW a m)).length := flat_le (fun x hx => (runW_spec a m).1 x (((sortW_spec _).2.1 x).1 hx))
 obtain ⟨b1, b2, b3, b4, b5, _⟩ := set_ok (l := runW a m) (k := 1) (by omega) ((runW_spec a m).2 0) (by omega) (by omega)
 exact ⟨bnd_ok (by omega) b5, b3, b4, hn, b2⟩
end Go.Proofs.YtjlbdhicabgliaaGreat
/- The generator of values always returns. -/
namespace Go.Proofs.YtjlbdhicabgliaaGreat
attribute [local irreducible] FU

end Go.Proofs.YtjlbdhicabgliaaGreat
/- The generator makes valid values. -/
namespace Go.Proofs.YtjlbdhicabgliaaGreat
attribute [local irreducible] FU

theorem comp_ok {c : UInt8} (hc : 3 ≤ c.toNat ∧ c.toNat ≤ 9) {l : List (List UInt8)} {k : Nat} (hk : k ≤ 31) (hv : ∀ x ∈ l, IsV k x) (hn : l.length ≤ 65535) (hl : l.flatten.length ≤ 131069) (hf : formedB c l = true) :
  cmpd c l = raw c l ∧ IsV (k + 1) (raw c l) ∧ prtW (raw c l) = l ∧ kindW (raw c l) = (c.toNat : Int) ∧ Vd (raw c l) := by
 have hV : ∀ x ∈ l, Vd x := fun x hx => ⟨(hv x hx).le (by omega), by have := flat_mem hx; omega⟩
 have hI : IsV (k + 1) (raw c l) := .comp k c _ _ l hc (raw_count hn) hv hf
 have hVr : Vd (raw c l) := ⟨hI.le (by omega), by rw [raw_len]; omega⟩
 refine ⟨cmpd_yes ⟨hn, hV, hVr⟩, hI, ?_, ?_, hVr⟩
 ·unfold prtW; rw [if_pos (vldB_iff.2 hVr)]; exact prt_raw hc hn hV
 ·unfold kindW; rw [if_pos (vldB_iff.2 hVr)]; rfl
theorem gi2_00 {α : Type} [Inhabited α] (x : α) (l : List α) : gi (x :: l) 0 = x := rfl
def nameW (k : Int) : List UInt8 := [10, u8i (k / 256), u8i k]
theorem nameW_IsV (k : Int) (j : Nat) : IsV (j + 1) (nameW k) := .name j _ _
theorem rNameW {k : Int} (h0 : 0 ≤ k) (h1 : k ≤ 65535) : m_ref9_Name k = some (nameW k) := by
 unfold m_ref9_Name
 simp only [jn_eq]
 unfold m_ref9_two
 rw [if_neg (by omega), if_neg (by simp; omega), bnd1_mk, need_pos (by simp), show (2 : Int) ^ min (Int.toNat 8) IntKind.i64.bits = 256 from rfl, Int.fdiv_eq_ediv_of_nonneg _ (by omega)]; rfl
theorem rDotW {k : Int} (h0 : 0 ≤ k) (h1 : k ≤ 65535) (l : List (List UInt8)) (hl : l.length ≤ 1000) : m_ref9_Dot k l = some (cmpd 7 (nameW k :: l)) := by
 unfold m_ref9_Dot
 have := rMake 7 (by decide) ([nameW k] ++ l) (by simp; omega)
 rw [show ((7 : UInt8).toNat : Int) = 7 from rfl] at this
 rw [rNameW h0 h1, bnd1_mk, need_pos (by simp; omega), this, bnd1_mk]; rfl
def PV (k c : Nat) (v : List UInt8) : Prop := IsV k v ∧ v.length ≤ c
theorem PV.le {k c k' c' : Nat} {v : List UInt8} (h : PV k c v) (hk : k ≤ k') (hc : c ≤ c') : PV k' c' v := ⟨h.1.le hk, Nat.le_trans h.2 hc⟩
end Go.Proofs.YtjlbdhicabgliaaGreat
/- The laws of sets of small integers: FinsetAlgebra, FinsetSubsetsCount. -/
namespace Go.Proofs.YtjlbdhicabgliaaGreat
attribute [local irreducible] FU

def SI (x : List UInt8) : Prop := ∃ k : Int, 0 ≤ k ∧ k < 6 ∧ x = intW k
theorem SI.IsV {x : List UInt8} (h : SI x) (k : Nat) : IsV (k + 1) x := by obtain ⟨n, _, _, rfl⟩ := h; exact intW_IsV n k
theorem SI.len {x : List UInt8} (h : SI x) : x.length = 9 := by obtain ⟨n, _, _, rfl⟩ := h; exact intW_len n
theorem SI.mem {x : List UInt8} (h : SI x) : x ∈ runW 0 6 := by
 obtain ⟨n, h0, h1, rfl⟩ := h
 exact List.mem_map.2 ⟨n.toNat, List.mem_range.2 (by omega), by congr 1; omega⟩
theorem fs_set {L : List (List UInt8)} (h : ∀ x ∈ L, SI x) : prtW (setW L) = sortW L ∧ isSet (setW L) = true ∧ bndW L = (setW L, 0) ∧ (sortW L).length ≤ 6 := by
 have hm := (sortW_spec L).2.1
 have hl : (sortW L).length ≤ 6 := by
  have := nodup_len (l := runW 0 6) (slc_nodup (sortW_spec L).1) (fun x hx => (h x ((hm x).1 hx)).mem)
  rwa [runW_len] at this
 have hf : (sortW L).flatten.length ≤ 9 * (sortW L).length := flat_le (fun x hx => by rw [(h x ((hm x).1 hx)).len]; omega)
 obtain ⟨_, _, a3, a4, a5, _⟩ := set_ok (l := L) (k := 1) (by omega) (fun x hx => (h x hx).IsV 0) (by omega) (by omega)
 exact ⟨a3, a4, bnd_ok (by omega) a5, hl⟩
end Go.Proofs.YtjlbdhicabgliaaGreat
/- Products and ranges: FinsetLimits. -/
namespace Go.Proofs.YtjlbdhicabgliaaGreat
attribute [local irreducible] FU

theorem rRange_loop (b : Int) (hb : b ≤ 9223372036854775807) (K : List (List UInt8) → Option (List UInt8 × Int)) : ∀ (m n : Nat) (a : Int) (out : List (List UInt8)), -9223372036854775808 ≤ a → a + m = b + 1 → m < n → out.length ≤ 4096 → (out.length + m ≤ 4096 → m_ref9_Range_L2 b K n out a = K (out ++ runW a m)) := by
 intro m
 induction m with
 | zero =>
  intro n a out h1 h2 hn _ ho
  obtain ⟨n, rfl⟩ : ∃ q, n = q + 1 := ⟨n - 1, by omega⟩
  rw [m_ref9_Range_L2, m_ref9_Range_B2, if_neg (by omega), show runW a 0 = [] from rfl, List.append_nil]
 | succ m ih =>
  intro n a out h1 h2 hn _ ho
  obtain ⟨n, rfl⟩ : ∃ q, n = q + 1 := ⟨n - 1, by omega⟩
  rw [m_ref9_Range_L2, m_ref9_Range_B2, if_pos (by omega), if_neg (by omega), rInt, bnd1_mk, need_pos (by simp; omega)]
  by_cases h : a = 9223372036854775807
  ·obtain rfl : m = 0 := by omega
   rw [if_pos h, runW_succ]; rfl
  ·rw [if_neg h, i64_id (by omega), ih n (a + 1) _ (by omega) (by omega) (by omega) (by simp; omega) (by simp; omega), runW_succ]; simp
theorem rRange_over (b : Int) (hb : b ≤ 9223372036854775807) (K : List (List UInt8) → Option (List UInt8 × Int)) : ∀ (m n : Nat) (a : Int) (out : List (List UInt8)), -9223372036854775808 ≤ a → out.length + m = 4096 → m < n → a + m ≤ b → m_ref9_Range_L2 b K n out a = some ([], 9) := by
 intro m
 induction m with
 | zero =>
  intro n a out h1 h2 hn h3
  obtain ⟨n, rfl⟩ : ∃ q, n = q + 1 := ⟨n - 1, by omega⟩
  rw [m_ref9_Range_L2, m_ref9_Range_B2, if_pos (by omega), if_pos (by omega)]
 | succ m ih =>
  intro n a out h1 h2 hn h3
  obtain ⟨n, rfl⟩ : ∃ q, n = q + 1 := ⟨n - 1, by omega⟩
  rw [m_ref9_Range_L2, m_ref9_Range_B2, if_pos (by omega), if_neg (by omega), rInt, bnd1_mk, need_pos (by simp; omega), if_neg (by omega), i64_id (by omega), ih n (a + 1) _ (by omega) (by simp; omega) (by omega) (by omega)]
theorem rRange {a b : Int} (ha : -9223372036854775808 ≤ a) (hb : b ≤ 9223372036854775807) : m_ref9_Range a b = some (if a ≤ b ∧ 4096 ≤ b - a then ([], 9) else bndW (runW a (b - a + 1).toNat)) := by
 have hFU := FU_ge
 unfold m_ref9_Range
 rw [jn_eq]
 have hset : ∀ m : Nat, m ≤ 4096 → m_ref9_bounded (runW a m) = some (bndW (runW a m)) := fun m hm => rBounded _ (by rw [runW_len]; omega)
 by_cases hc : a ≤ b ∧ 4096 ≤ b - a
 ·rw [if_pos hc, rRange_over b hb _ 4096 FU a [] ha (by simp) (by omega) (by omega)]
 ·rw [if_neg hc]
  by_cases hab : a ≤ b
  ·rw [rRange_loop b hb _ (b - a + 1).toNat FU a [] ha (by omega) (by omega) (by simp) (by simp; omega), List.nil_append, hset _ (by omega), bnd1_mk]
  ·obtain ⟨n, hn⟩ := FU_k 1 (by omega)
   rw [hn, m_ref9_Range_L2, m_ref9_Range_B2, if_neg hab, show (b - a + 1).toNat = 0 by omega]
   have := hset 0 (by omega)
   rw [show runW a 0 = [] from rfl] at this ⊢
   rw [this, bnd1_mk]

theorem vSeq (l : List (List UInt8)) (hx : ∀ x ∈ l, x.length ≤ 1099511627776) : m_value_Seq l = some (cmpd 4 l) := by
 unfold m_value_Seq
 have := vCompound 4 l hx
 rw [show ((4 : UInt8).toNat : Int) = 4 from rfl] at this
 rw [this, bnd1_mk]
end Go.Proofs.YtjlbdhicabgliaaGreat
/- Products of sets: program and reference agree. -/
namespace Go.Proofs.YtjlbdhicabgliaaGreat
attribute [local irreducible] FU

def cntR : List (List (List UInt8)) → Nat
 | [] => 1
 | m :: R => cntR R * m.length
noncomputable def rowR : List (List (List UInt8)) → Nat → List (List UInt8)
 | [], _ => []
 | m :: R, k => rowR R (k / m.length) ++ [gi m ((k % m.length : Nat) : Int)]
def rowsR : List (List (List UInt8)) → List (List (List UInt8))
 | [] => [[]]
 | m :: R => (rowsR R).flatMap (fun r => m.map (fun x => r ++ [x]))
theorem rowsR_len : ∀ R, (rowsR R).length = cntR R
 | [] => rfl
 | m :: R => by
  rw [rowsR, cntR, ← rowsR_len R]
  induction rowsR R with
  | nil => simp
  | cons r t ih => rw [List.flatMap_cons, List.length_append, ih, List.length_map, List.length_cons, Nat.add_mul]; omega
theorem range_mul {α : Type} (f : Nat → α) (b : Nat) : ∀ a, (List.range (a * b)).map f = (List.range a).flatMap (fun i => (List.range b).map (fun j => f (i * b + j)))
 | 0 => by simp
 | a + 1 => by
  rw [Nat.add_mul, Nat.one_mul, List.range_add, List.map_append, range_mul f b a, List.range_succ, List.flatMap_append, List.map_map]
  simp
theorem range_gi (m : List (List UInt8)) (g : List UInt8 → List (List UInt8)) : (List.range m.length).map (fun j : Nat => g (gi m ((j : Nat) : Int))) = m.map g := by
 refine List.ext_getElem (by simp) (fun i h1 h2 => ?_)
 simp at h1 h2
 simp only [List.getElem_map, List.getElem_range]
 rw [gi_nat h1]
theorem rowsR_eq : ∀ R : List (List (List UInt8)), (∀ m ∈ R, 0 < m.length) → rowsR R = (List.range (cntR R)).map (rowR R)
 | [], _ => rfl
 | m :: R, h => by
  have hm := h m (by simp)
  have ih := rowsR_eq R (fun x hx => h x (by simp [hx]))
  rw [rowsR, cntR, range_mul, ih, List.flatMap_map]
  congr 1
  funext i
  rw [← range_gi m (fun x => rowR R i ++ [x])]
  refine List.map_congr_left fun j hj => ?_
  simp at hj
  rw [rowR, show (i * m.length + j) / m.length = i by rw [Nat.mul_comm, Nat.mul_add_div hm, Nat.div_eq_of_lt hj, Nat.add_zero], show (i * m.length + j) % m.length = j by rw [Nat.mul_comm, Nat.mul_add_mod, Nat.mod_eq_of_lt hj]]
theorem rowR_mem {k : Nat} {x : List UInt8} : ∀ {R : List (List (List UInt8))} {k : Nat}, (∀ m ∈ R, 0 < m.length) → x ∈ rowR R k → ∃ m ∈ R, x ∈ m
 | [], _, _, h => by simp [rowR] at h
 | m :: R, k, hp, h => by
  rw [rowR] at h
  have hm := Nat.mod_lt k (hp m (by simp))
  rcases List.mem_append.1 h with h | h
  ·obtain ⟨m', h1, h2⟩ := rowR_mem (k := k) (fun x hx => hp x (by simp [hx])) h
   exact ⟨m', by simp [h1], h2⟩
  ·rw [gi_nat hm, List.mem_singleton] at h
   exact ⟨m, by simp, h ▸ List.getElem_mem _⟩
theorem take_rev {α : Type} (L : List α) {i : Nat} (h : i < L.length) : (L.take (i + 1)).reverse = L[i] :: (L.take i).reverse := by
 rw [← List.take_append_getElem h, List.reverse_append]; rfl
theorem vCount_loop (L : List (List (List UInt8))) (hL : L.length ≤ 10000000) (hb : ∀ m ∈ L, m.length ≤ 65535) : ∀ (d i n : Nat) (c : Nat), i + d = L.length → d < n → (∀ m ∈ L.take i, 0 < m.length) → c = min (cntR (L.take i).reverse) 4097 →
  m_finset_count_L2 L (fun x => some x) n (c : Int) i = some (if L.all (fun m => decide (0 < m.length)) then ((min (cntR L.reverse) 4097 : Nat) : Int) else 0) := by
 intro d
 induction d with
 | zero =>
  intro i n c hi hn hp hc
  obtain ⟨n, rfl⟩ : ∃ q, n = q + 1 := ⟨n - 1, by omega⟩
  rw [show i = L.length by omega, List.take_length] at hp hc
  rw [m_finset_count_L2, m_finset_count_B2, if_neg (by omega), if_pos (by simpa using hp), hc]
 | succ d ih =>
  intro i n c hi hn hp hc
  obtain ⟨n, rfl⟩ : ∃ q, n = q + 1 := ⟨n - 1, by omega⟩
  have hil : i < L.length := by omega
  rw [m_finset_count_L2, m_finset_count_B2, if_pos (by omega), need_pos (by omega), gi_nat hil, i64_succ (by omega)]
  have hbi := hb _ (List.getElem_mem hil)
  by_cases h0 : L[i].length = 0
  ·rw [if_pos (by omega), if_neg]
   intro h
   have := List.all_eq_true.1 h _ (List.getElem_mem hil)
   simp [h0] at this
  ·rw [if_neg (by omega)]
   have hc7 : c ≤ 4097 := by rw [hc]; exact Nat.min_le_right _ _
   have hmul : c * L[i].length ≤ 4097 * 65535 := Nat.mul_le_mul hc7 hbi
   have e1 : i64 ((c : Int) * (L[i].length : Int)) = ((c * L[i].length : Nat) : Int) := by rw [← Int.natCast_mul]; exact i64_id (by omega)
   rw [e1, show min (((c * L[i].length : Nat) : Int)) 4097 = ((min (c * L[i].length) 4097 : Nat) : Int) by omega]
   refine ih (i + 1) n _ (by omega) (by omega) (fun m hm => ?_) ?_
   ·rw [← List.take_append_getElem hil] at hm
    rcases List.mem_append.1 hm with h | h
    ·exact hp m h
    ·rw [List.mem_singleton.1 h]; omega
   ·rw [take_rev L hil, cntR]
    generalize cntR (L.take i).reverse = C at hc
    generalize L[i].length = z at h0
    by_cases hC : C ≤ 4097
    ·rw [hc, Nat.min_eq_left hC]
    ·have h1 : 4097 * 1 ≤ 4097 * z := Nat.mul_le_mul_left _ (by omega)
     have h2 : 4097 * 1 ≤ C * z := Nat.mul_le_mul (by omega) (by omega)
     have hc' : c = 4097 := by rw [hc]; exact Nat.min_eq_right (by omega)
     rw [hc', Nat.min_eq_right (by omega), Nat.min_eq_right (by omega)]
theorem vCount (L : List (List (List UInt8))) (hL : L.length ≤ 10000000) (hb : ∀ m ∈ L, m.length ≤ 65535) : m_finset_count L = some (if L.all (fun m => decide (0 < m.length)) then ((min (cntR L.reverse) 4097 : Nat) : Int) else 0) := by
 have hFU := FU_ge
 unfold m_finset_count
 rw [jn_eq]
 have := vCount_loop L hL hb L.length 0 FU 1 (by omega) (by omega) (by simp) rfl
 rw [Int.natCast_zero] at this
 exact this
theorem vRow {y1 : List (List (List UInt8)) × Int} (hL : y1.1.length ≤ 10000000) (hp : ∀ m ∈ y1.1, 0 < m.length ∧ m.length ≤ 65535) (K : List (List UInt8) → Option (List UInt8 × Int)) : ∀ (j n k : Nat) (T : List (List UInt8)), j ≤ y1.1.length → j < n → k ≤ 100000 →
  m_finset_Product_L26 y1 K n k (List.replicate j ([] : List UInt8) ++ T) ((j : Int) - 1) = K (rowR (y1.1.take j).reverse k ++ T) := by
 intro j
 induction j with
 | zero =>
  intro n k T hj hn hk
  obtain ⟨n, rfl⟩ : ∃ q, n = q + 1 := ⟨n - 1, by omega⟩
  rw [m_finset_Product_L26, m_finset_Product_B26, if_neg (by omega)]
  simp [rowR]
 | succ j ih =>
  intro n k T hj hn hk
  obtain ⟨n, rfl⟩ : ∃ q, n = q + 1 := ⟨n - 1, by omega⟩
  have hjl : j < y1.1.length := by omega
  obtain ⟨h0, hb⟩ := hp _ (List.getElem_mem hjl)
  have e : ((j + 1 : Nat) : Int) - 1 = (j : Int) := by omega
  have ht : Int.tmod (k : Int) (y1.1[j].length : Int) = ((k % y1.1[j].length : Nat) : Int) := rfl
  have hdv : Int.tdiv (k : Int) (y1.1[j].length : Int) = ((k / y1.1[j].length : Nat) : Int) := rfl
  have hd : k / y1.1[j].length ≤ k := Nat.div_le_self _ _
  have hm : k % y1.1[j].length < y1.1[j].length := Nat.mod_lt _ h0
  have hset : List.set (List.replicate (j + 1) ([] : List UInt8) ++ T) j (gi y1.1[j] ((k % y1.1[j].length : Nat) : Int)) = List.replicate j ([] : List UInt8) ++ (gi y1.1[j] ((k % y1.1[j].length : Nat) : Int) :: T) := by
   rw [List.replicate_succ', List.append_assoc, List.set_append_right _ _ (by simp)]
   simp
  rw [m_finset_Product_L26, m_finset_Product_B26, e, if_pos (by omega), gi_nat hjl, ht, hdv, Int.toNat_natCast, hset]
  have ei : i64 ((k / y1.1[j].length : Nat) : Int) = ((k / y1.1[j].length : Nat) : Int) := by
   generalize k / y1.1[j].length = z at hd
   exact i64_id (by omega)
  have ei2 : i64 ((j : Int) - 1) = (j : Int) - 1 := i64_id (by omega)
  rw [need_pos (by omega), need_pos (by omega), need_pos (by omega), need_pos (by omega), need_pos (by simp; omega), need_pos (by omega), need_pos (by omega), ei, ei2, ih n _ _ (by omega) (by omega) (by omega), take_rev _ hjl, rowR]
  simp
theorem vRows {y1 : List (List (List UInt8)) × Int} (hL : y1.1.length ≤ 10000000) (hp : ∀ m ∈ y1.1, 0 < m.length ∧ m.length ≤ 65535) (hx : ∀ m ∈ y1.1, ∀ x ∈ m, x.length ≤ 131072) (N : Nat) (hN : N ≤ 4096) (K : List (List UInt8) → Option (List UInt8 × Int)) : ∀ (d j n : Nat) (out : List (List UInt8)), j + d = N → d < n → out.length + d ≤ 100000 →
  m_finset_Product_L14 y1 (N : Int) K n out j = K (out ++ (List.range' j d).map (fun k : Nat => cmpd 4 (rowR y1.1.reverse k))) := by
 have hFU := FU_ge
 intro d
 induction d with
 | zero =>
  intro j n out hi hn ho
  obtain ⟨n, rfl⟩ : ∃ q, n = q + 1 := ⟨n - 1, by omega⟩
  rw [m_finset_Product_L14, m_finset_Product_B14, if_neg (by omega)]
  simp
 | succ d ih =>
  intro j n out hi hn ho
  obtain ⟨n, rfl⟩ : ∃ q, n = q + 1 := ⟨n - 1, by omega⟩
  rw [m_finset_Product_L14, m_finset_Product_B14, if_pos (by omega)]
  simp only [jn_eq]
  have hr := vRow hL hp (fun x9_j563 => bnd1 (m_value_Seq x9_j563) (fun y607 => need (List.length out + List.length [y607] ≤ 137438953472) (m_finset_Product_L14 y1 (N : Int) K n (out ++ [y607]) (i64 ((j : Int) + 1))))) y1.1.length FU j [] (by omega) (by omega) (by omega)
  rw [List.append_nil, List.append_nil, List.take_length] at hr
  rw [need_pos (by omega), i64_id (x := (y1.1.length : Int) - 1) (by omega), Int.toNat_natCast, hr, vSeq _ (fun x h => by
   obtain ⟨m, h1, h2⟩ := rowR_mem (k := j) (fun m hm => (hp m (by simpa using hm)).1) h
   have := hx m (by simpa using h1) x h2; omega), bnd1_mk, need_pos (by simp; omega), i64_succ (by omega), ih (j + 1) n _ (by omega) (by omega) (by simp; omega)]
  simp [List.range'_succ]
noncomputable def pdW (l : List (List UInt8)) : List UInt8 × Int :=
 if l.all isSet = true then (if (l.map prtW).all (fun m => decide (0 < m.length)) = true then (if 4096 < cntR (l.map prtW).reverse then ([], 9) else bndW ((rowsR (l.map prtW).reverse).map (cmpd 4))) else (setW [], 0)) else ([], 6)
theorem vProduct (l : List (List UInt8)) (hl : l.length ≤ 10000000) : m_finset_Product l = some (pdW l) := by
 have hFU := FU_ge
 unfold m_finset_Product pdW
 rw [vElements _ (by omega), bnd1_mk]
 have hb : ∀ m ∈ l.map prtW, m.length ≤ 65535 := fun m hm => by
  obtain ⟨v, _, rfl⟩ := List.mem_map.1 hm
  exact (prtW_spec v).2.1
 have hx : ∀ m ∈ l.map prtW, ∀ x ∈ m, x.length ≤ 131072 := fun m hm x hxm => by
  obtain ⟨v, _, rfl⟩ := List.mem_map.1 hm
  exact ((prtW_spec v).1 x hxm).2
 by_cases h : l.all isSet = true
 ·rw [if_pos h, if_pos h]
  generalize hy : ((l.map prtW, 0) : List (List (List UInt8)) × Int) = y1
  have hg : l.map prtW = y1.1 := by rw [← hy]
  have hg0 : y1.2 = 0 := by rw [← hy]
  rw [hg] at hb hx ⊢
  have hyl : y1.1.length ≤ 10000000 := by rw [← hg]; simpa using hl
  have hsetf : ∀ S : List (List UInt8), S.length ≤ 4096 → (∀ x ∈ S, x.length ≤ 131072) → m_finset_set S = some (bndW S) := fun S hS hSx => vSetF S (by omega) (fun x hx => by have := hSx x hx; omega) (.inr hS)
  rw [if_neg (fun h => h hg0), vCount _ hyl hb, bnd1_mk]
  by_cases ha : y1.1.all (fun m => decide (0 < m.length)) = true
  ·rw [if_pos ha, if_pos ha]
   have hpos : ∀ m ∈ y1.1, 0 < m.length := by simpa using ha
   by_cases hc : 4096 < cntR y1.1.reverse
   ·rw [if_pos (by omega), if_pos hc]
   ·rw [if_neg (by omega), if_neg hc, jn_eq, show min (cntR y1.1.reverse) 4097 = cntR y1.1.reverse by omega]
    have hr := vRows hyl (fun m hm => ⟨hpos m hm, hb m hm⟩) hx (cntR y1.1.reverse) (by omega) (fun x => bnd1 (m_finset_set x) (fun y610 => some (y610.1, y610.2))) (cntR y1.1.reverse) 0 FU [] (by omega) (by omega) (by simp; omega)
    rw [Int.natCast_zero] at hr
    have he : (List.range' 0 (cntR y1.1.reverse)).map (fun k : Nat => cmpd 4 (rowR y1.1.reverse k)) = (rowsR y1.1.reverse).map (cmpd 4) := by
     rw [rowsR_eq _ (fun m hm => hpos m (by simpa using hm)), List.map_map, ← List.range_eq_range']; rfl
    rw [hr, List.nil_append, he, hsetf _ (by rw [List.length_map, rowsR_len]; omega) (fun x hx => by
     obtain ⟨r, _, rfl⟩ := List.mem_map.1 hx
     unfold cmpd; split
     ·rename_i h; exact h.2.2.2
     ·simp), bnd1_mk]
  ·rw [if_neg ha, if_neg ha, if_neg (by omega), jn_eq]
   obtain ⟨n, hn⟩ := FU_k 1 (by omega)
   rw [hn, m_finset_Product_L14, m_finset_Product_B14, if_neg (by omega), hsetf [] (by simp) (by simp), bnd1_mk, (fs_set (L := []) (by simp)).2.2.1]
 ·rw [if_neg h, if_neg h, if_pos (by decide)]

end Go.Proofs.YtjlbdhicabgliaaGreat
