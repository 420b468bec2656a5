/- Lists of constructors and channels: what the parts of dataspace come to. -/
import Derived.Test.YtjlbdhicabgliaaQA2
import Derived.Test.YtjlbdhicabgliaaQA4
import Derived.Test.YtjlbdhicabgliaaQA6
namespace Go.Proofs.Ytjlbdhicabgliaa
attribute [local irreducible] FU

abbrev Vl := List UInt8
theorem kind_vd {v : Vl} (h : kindW v ≠ 0) : Vd v := by
  unfold kindW at h
  split at h
  · rename_i hv; exact vldB_iff.1 hv
  · exact absurd rfl h
theorem kind_g0 {v : Vl} (h : kindW v ≠ 0) : kindW v = ((gi v 0).toNat : Int) := by
  have hv := kind_vd h
  unfold kindW; rw [if_pos (vldB_iff.2 hv)]
theorem kind_shape {v : Vl} (h : kindW v ≠ 0) : (kindW v = 1 ∧ ∃ b, b.length = 8 ∧ v = 1 :: b) ∨ (kindW v = 2 ∧ ∃ b : UInt8, b.toNat ≤ 1 ∧ v = [2, b]) ∨ (kindW v = 10 ∧ ∃ h l, v = [10, h, l]) ∨ (3 ≤ kindW v ∧ kindW v ≤ 9) := by
  have hk := kind_g0 h
  obtain ⟨hv, _⟩ := kind_vd h
  cases hv with
  | int k b hb => exact .inl ⟨by rw [hk]; rfl, b, hb, rfl⟩
  | bool k b hb => exact .inr (.inl ⟨by rw [hk]; rfl, b, hb, rfl⟩)
  | name k a b => exact .inr (.inr (.inl ⟨by rw [hk]; rfl, a, b, rfl⟩))
  | comp k c a b ps hc hn hp hf => exact .inr (.inr (.inr (by rw [hk, gi_0]; omega)))
noncomputable def numW (v : Vl) : Int := if kindW v = 1 then numV v else if kindW v = 2 then ((gi v 1).toNat : Int) else if kindW v = 10 then (((gi v 1).toNat * 256 + (gi v 2).toNat : Nat) : Int) else 0
theorem vNum (v : Vl) : m_value_Number v = some (numW v) := by
  unfold m_value_Number numW
  rw [vKind, bnd1_mk]
  by_cases h1 : kindW v = 1
  · rcases kind_shape (v := v) (by omega) with ⟨_, b, hb, rfl⟩ | ⟨h, _⟩ | ⟨h, _⟩ | h
    · rw [if_pos h1, if_pos h1, vInteger _ (by simp [hb]), bnd1_mk, numV, List.take_of_length_le (by simp [hb])]
    · omega
    · omega
    · omega
  rw [if_neg h1, if_neg h1]
  by_cases h2 : kindW v = 2
  · rcases kind_shape (v := v) (by omega) with ⟨h, _⟩ | ⟨_, b, hb, rfl⟩ | ⟨h, _⟩ | h
    · omega
    · rw [if_pos h2, if_pos h2, need_pos (by simp)]
    · omega
    · omega
  rw [if_neg h2, if_neg h2]
  by_cases h3 : kindW v = 10
  · rcases kind_shape (v := v) (by omega) with ⟨h, _⟩ | ⟨h, _⟩ | ⟨_, a, b, rfl⟩ | h
    · omega
    · omega
    · rw [if_pos h3, if_pos h3, need_pos (by simp), need_pos (by simp), i64_step]
    · omega
  rw [if_neg h3, if_neg h3]
theorem pName {k : Int} (h0 : 0 ≤ k) (h1 : k ≤ 65535) : m_value_Name k = some (nameW k) := by
  unfold m_value_Name
  simp only [jn_eq]
  unfold m_value_append16
  have e : IntKind.u16.wrap k = k := by
    unfold IntKind.wrap IntKind.bits IntKind.signed
    simp; omega
  rw [if_neg (by omega), if_neg (by simp; omega), e, need_pos (by simp), show (2 : Int) ^ min (Int.toNat 8) IntKind.u16.bits = 256 from rfl, Int.fdiv_eq_ediv_of_nonneg _ (by omega), bnd1_mk]; rfl
theorem pDot {k : Int} (h0 : 0 ≤ k) (h1 : k ≤ 65535) (l : List Vl) (hl : l.length ≤ 1000000000) (hx : ∀ x ∈ l, x.length ≤ 1099511627776) : m_value_Dot k l = some (cmpd 7 (nameW k :: l)) := by
  unfold m_value_Dot
  have := vCompound 7 ([nameW k] ++ l) (fun x h => by
    rcases List.mem_cons.1 h with rfl | h
    · simp [nameW]
    · exact hx x h)
  rw [show ((7 : UInt8).toNat : Int) = 7 from rfl] at this
  rw [pName h0 h1, bnd1_mk, need_pos (by simp; omega), this, bnd1_mk]; rfl

abbrev Inf := Vl × Int × List Int × List Vl
theorem vContainsV (a : List Vl) (v : Vl) (ha : a.length ≤ 1099511627776) : m_slices_Contains_L_api_Value_api_Value a v = some (decide (v ∈ a)) := by
  have hFU := FU_ge
  unfold m_slices_Contains_L_api_Value_api_Value m_slices_Index_L_api_Value_api_Value
  rw [jn_eq]
  have loop : ∀ (m i n : Nat), i + m = a.length → m < n → ∃ r, m_slices_Index_L_api_Value_api_Value_L2 a v (fun _ => some (-1)) n i = some r ∧ (0 ≤ r ↔ v ∈ a.drop i) := by
    intro m
    induction m with
    | zero =>
      intro i n hi hn
      obtain ⟨n, rfl⟩ : ∃ k, n = k + 1 := ⟨n - 1, by omega⟩
      refine ⟨-1, by rw [m_slices_Index_L_api_Value_api_Value_L2, m_slices_Index_L_api_Value_api_Value_B2, if_neg (by omega)], ?_⟩
      rw [List.drop_eq_nil_of_le (by omega)]; simp
    | succ m ih =>
      intro i n hi hn
      obtain ⟨n, rfl⟩ : ∃ k, n = k + 1 := ⟨n - 1, by omega⟩
      have hil : i < a.length := by omega
      rw [m_slices_Index_L_api_Value_api_Value_L2, m_slices_Index_L_api_Value_api_Value_B2, if_pos (by omega), need_pos (by omega), gi_nat hil]
      have hm : v ∈ a.drop i ↔ v = a[i] ∨ v ∈ a.drop (i + 1) := by rw [List.drop_eq_getElem_cons hil]; exact List.mem_cons
      by_cases he : v = a[i]
      · rw [if_pos he]; exact ⟨i, rfl, fun _ => hm.2 (.inl he), fun _ => by omega⟩
      · rw [if_neg he, i64_succ (by omega)]
        obtain ⟨r, h1, h2⟩ := ih (i + 1) n (by omega) (by omega)
        exact ⟨r, h1, h2.trans ⟨fun h => hm.2 (.inr h), fun h => (hm.1 h).resolve_left he⟩⟩
  obtain ⟨r, h1, h2⟩ := loop a.length 0 FU (by omega) (by omega)
  rw [Int.natCast_zero] at h1
  rw [List.drop_zero] at h2
  rw [h1, bnd1_mk]
  by_cases hr : 0 ≤ r
  · rw [decide_eq_true hr, decide_eq_true (h2.1 hr)]
  · rw [decide_eq_false hr, decide_eq_false (fun h => hr (h2.2 h))]
theorem pConcat (a : List (List Vl)) (ha : a.length ≤ 1000000) (hl : a.flatten.length ≤ 137438953472) : m_slices_Concat_L_api_Value_api_Value a = some a.flatten := by
  have hFU := FU_ge
  unfold m_slices_Concat_L_api_Value_api_Value
  simp only [jn_eq]
  have loop : ∀ (K : Int → Option (List Vl)) (m i n s : Nat), i + m = a.length → m < n → s + (a.drop i).flatten.length = a.flatten.length → m_slices_Concat_L_api_Value_api_Value_L2 a K n (s : Int) (i : Int) = K (a.flatten.length : Int) := by
    intro K m
    induction m with
    | zero =>
      intro i n s hi hn hs
      obtain ⟨n, rfl⟩ : ∃ j, n = j + 1 := ⟨n - 1, by omega⟩
      rw [List.drop_eq_nil_of_le (by omega), List.flatten_nil, List.length_nil, Nat.add_zero] at hs
      rw [m_slices_Concat_L_api_Value_api_Value_L2, m_slices_Concat_L_api_Value_api_Value_B2, if_neg (by omega), hs]
    | succ m ih =>
      intro i n s hi hn hs
      obtain ⟨n, rfl⟩ : ∃ j, n = j + 1 := ⟨n - 1, by omega⟩
      have hil : i < a.length := by omega
      rw [List.drop_eq_getElem_cons hil, List.flatten_cons, List.length_append] at hs
      rw [m_slices_Concat_L_api_Value_api_Value_L2, m_slices_Concat_L_api_Value_api_Value_B2, if_pos (by omega), need_pos (by omega), gi_nat hil, i64_id (by omega), if_neg (by omega), i64_succ (by omega)]
      have := ih (i + 1) n (s + a[i].length) (by omega) (by omega) (by omega)
      rw [Int.natCast_add] at this
      exact this
  have h1 := fun K => loop K a.length 0 FU 0 (by omega) (by omega) (by simp)
  simp only [Int.natCast_zero] at h1
  rw [h1]
  have hg : m_slices_Grow_L_api_Value_api_Value (a.flatten.length : Int) = some [] := by
    unfold m_slices_Grow_L_api_Value_api_Value
    simp only [jn_eq]
    rw [if_neg (by omega), show i64 (0 - 0) = 0 from by rw [i64_id (by omega)]; rfl, i64_id (by omega)]
    split
    · rw [need_pos (by omega), need_pos (by simp)]; simp
    · rfl
  rw [hg, bnd1_mk]
  have loop2 : ∀ (m i n : Nat) (s : List Vl), i + m = a.length → m < n → s ++ (a.drop i).flatten = a.flatten → m_slices_Concat_L_api_Value_api_Value_L4 a (fun x => some x) n s (i : Int) = some a.flatten := by
    intro m
    induction m with
    | zero =>
      intro i n s hi hn hs
      obtain ⟨n, rfl⟩ : ∃ j, n = j + 1 := ⟨n - 1, by omega⟩
      rw [List.drop_eq_nil_of_le (by omega)] at hs
      rw [m_slices_Concat_L_api_Value_api_Value_L4, m_slices_Concat_L_api_Value_api_Value_B4, if_neg (by omega)]
      simp at hs
      rw [hs]
    | succ m ih =>
      intro i n s hi hn hs
      obtain ⟨n, rfl⟩ : ∃ j, n = j + 1 := ⟨n - 1, by omega⟩
      have hil : i < a.length := by omega
      rw [List.drop_eq_getElem_cons hil, List.flatten_cons, ← List.append_assoc] at hs
      have hsl := congrArg List.length hs
      rw [List.length_append, List.length_append] at hsl
      rw [m_slices_Concat_L_api_Value_api_Value_L4, m_slices_Concat_L_api_Value_api_Value_B4, if_pos (by omega), need_pos (by omega), gi_nat hil, need_pos (by omega), i64_succ (by omega)]
      exact ih (i + 1) n _ (by omega) (by omega) hs
  have h2 := loop2 a.length 0 FU [] (by omega) (by omega) (by simp)
  rw [Int.natCast_zero] at h2
  exact h2

noncomputable def dots (v : Vl) : Int × List Vl × Bool := if kindW v = 7 then (numW (gi (prtW v) 0), (prtW v).drop 1, true) else (0, [], false)
theorem dot_parts {v : Vl} (h : kindW v = 7) : 1 ≤ (prtW v).length ∧ (prtW v).length ≤ 9 := by
  have hv := kind_vd (v := v) (by omega)
  have hk := kind_g0 (v := v) (by omega)
  unfold prtW; rw [if_pos (vldB_iff.2 hv)]
  obtain ⟨hv, _⟩ := hv
  cases hv with
  | int k b hb => simp [gi_0] at hk; omega
  | bool k b hb => simp [gi_0] at hk; omega
  | name k a b => simp [gi_0] at hk; omega
  | comp k c x y ps hc hn hp hf =>
    have : c = 7 := u8_inj (by rw [gi_0] at hk; rw [show (7 : UInt8).toNat = 7 from rfl]; omega)
    subst this
    rw [prt_comp hc hn (fun p hp' => (hp p hp').sh) (by omega)]
    simp only [formedB] at hf
    simp at hf
    omega
theorem vSplit (v : Vl) : m_dataspace_split v = some (dots v) := by
  unfold m_dataspace_split dots
  rw [vKind, bnd1_mk]
  by_cases h : kindW v = 7
  · have hl := dot_parts h
    rw [if_neg (by simpa using h), if_pos h, vPartsW, bnd1_mk, need_pos (by omega), vNum, bnd1_mk, need_pos (by omega)]; rfl
  · rw [if_pos h, if_neg h]
end Go.Proofs.Ytjlbdhicabgliaa
/- Valid lists; what is missing; choices; complete values; events. -/
namespace Go.Proofs.Ytjlbdhicabgliaa
attribute [local irreducible] FU

noncomputable def okD (d : Vl) : Bool := decide (d = [] ∨ kindW d = 5)
noncomputable def okI (x : Inf) : Bool := decide (-1 ≤ x.2.1) && (decide (x.2.2.2.length ≤ 8) && x.2.2.2.all okD)
noncomputable def validB (l : List Inf) : Bool := l.all okI && decide (l.length ≤ 65536)
theorem valid_in (a0 : List Inf) (p : Int) (k : Unit → Option Bool) (ds : List Vl) (hds : (gi a0 p).2.2.2 = ds) (h8 : ds.length ≤ 8) : ∀ (m i n : Nat), i + m = ds.length → m < n → m_dataspace_Valid_L14 a0 p k n i = if (ds.drop i).all okD then k () else some false := by
  intro m
  induction m with
  | zero =>
    intro i n hi hn
    obtain ⟨n, rfl⟩ : ∃ q, n = q + 1 := ⟨n - 1, by omega⟩
    rw [m_dataspace_Valid_L14, m_dataspace_Valid_B14, hds, if_neg (by omega), List.drop_eq_nil_of_le (by omega)]; rfl
  | succ m ih =>
    intro i n hi hn
    obtain ⟨n, rfl⟩ : ∃ q, n = q + 1 := ⟨n - 1, by omega⟩
    have hil : i < ds.length := by omega
    rw [m_dataspace_Valid_L14, m_dataspace_Valid_B14, hds, if_pos (by omega), need_pos (by omega)]
    simp only [jn_eq]
    rw [gi_nat hil, List.drop_eq_getElem_cons hil, List.all_cons, i64_succ (by omega), ih (i + 1) n (by omega) (by omega)]
    by_cases h0 : ds[i] = []
    · rw [if_neg (by simpa using h0), if_neg Bool.false_ne_true]
      have : okD ds[i] = true := decide_eq_true (.inl h0)
      rw [this, Bool.true_and]
    · rw [if_pos h0, vKind, bnd1_mk]
      by_cases h5 : kindW ds[i] = 5
      · have : okD ds[i] = true := decide_eq_true (.inr h5)
        rw [this, Bool.true_and, if_neg (by simpa using h5)]
      · have : okD ds[i] = false := decide_eq_false (fun h => h.elim h0 h5)
        rw [this, Bool.false_and, if_pos (by simpa using h5)]; rfl
theorem vValidL (l : List Inf) (hl : l.length ≤ 1099511627776) : m_dataspace_Valid l = some (validB l) := by
  have hFU := FU_ge
  unfold m_dataspace_Valid
  rw [jn_eq]
  have loop : ∀ (K : Unit → Option Bool) (m i n : Nat), i + m = l.length → m < n → m_dataspace_Valid_L8 l K n i = if (l.drop i).all okI then K () else some false := by
    intro K m
    induction m with
    | zero =>
      intro i n hi hn
      obtain ⟨n, rfl⟩ : ∃ q, n = q + 1 := ⟨n - 1, by omega⟩
      rw [m_dataspace_Valid_L8, m_dataspace_Valid_B8, if_neg (by omega), List.drop_eq_nil_of_le (by omega)]; rfl
    | succ m ih =>
      intro i n hi hn
      obtain ⟨n, rfl⟩ : ∃ q, n = q + 1 := ⟨n - 1, by omega⟩
      have hil : i < l.length := by omega
      rw [m_dataspace_Valid_L8, m_dataspace_Valid_B8, if_pos (by omega)]
      simp only [jn_eq]
      rw [need_pos (by omega), gi_nat hil, List.drop_eq_getElem_cons hil, List.all_cons]
      by_cases h1 : (l[i]).2.1 < -1
      · have : okI l[i] = false := by unfold okI; rw [decide_eq_false (by omega), Bool.false_and]
        rw [if_pos h1, if_pos trivial, this]; rfl
      · rw [if_neg h1]
        by_cases h2 : (8 : Int) < (l[i]).2.2.2.length
        · have : okI l[i] = false := by unfold okI; rw [decide_eq_false (p := (l[i]).2.2.2.length ≤ 8) (by omega), Bool.false_and, Bool.and_false]
          rw [if_pos (decide_eq_true h2), this]; rfl
        · rw [if_neg (fun h => h2 (of_decide_eq_true h))]
          have e := valid_in l i (fun _ => m_dataspace_Valid_L8 l K n (i64 ((i : Int) + 1))) (l[i]).2.2.2 (by rw [gi_nat hil]) (by omega) (l[i]).2.2.2.length 0 FU (by omega) (by omega)
          rw [Int.natCast_zero, List.drop_zero] at e
          rw [e, i64_succ (by omega), ih (i + 1) n (by omega) (by omega)]
          have : okI l[i] = (l[i]).2.2.2.all okD := by unfold okI; rw [decide_eq_true (by omega), decide_eq_true (p := (l[i]).2.2.2.length ≤ 8) (by omega), Bool.true_and, Bool.true_and]
          rw [this]
          cases (l[i]).2.2.2.all okD <;> rfl
  have := loop (fun _ => some (decide ((List.length l : Int) ≤ 65536))) l.length 0 FU (by omega) (by omega)
  rw [Int.natCast_zero, List.drop_zero] at this
  rw [this]
  unfold validB
  cases l.all okI
  · rfl
  · rw [if_pos rfl, Bool.true_and]; congr 1; exact decide_eq_decide.2 (by omega)
theorem vMissing {l : List Inf} {v : Vl} {n : Nat} {f : List Vl} {b : Bool} (hd : dots v = ((n : Int), f, b)) (hn : n < l.length) (hf : f.length ≤ (l[n]).2.2.2.length) : m_dataspace_missing l v = some ((l[n]).2.2.2.drop f.length) := by
  unfold m_dataspace_missing
  rw [vSplit, bnd1_mk, hd]
  simp only []
  rw [need_pos (by omega), gi_nat hn, need_pos (by omega), Int.toNat_natCast]
theorem vUnb {l : List Inf} {v : Vl} {n : Nat} {f : List Vl} {b : Bool} (hd : dots v = ((n : Int), f, b)) (hn : n < l.length) (hf : f.length ≤ (l[n]).2.2.2.length) (h8 : (l[n]).2.2.2.length ≤ 1000) : m_dataspace_unbounded l v = some (decide ([] ∈ (l[n]).2.2.2.drop f.length)) := by
  unfold m_dataspace_unbounded
  rw [vMissing hd hn hf, bnd1_mk, vContainsV _ _ (by rw [List.length_drop]; omega), bnd1_mk]
def chStep (out : List (List Vl)) (ps : List Vl) : List (List Vl) := out.flatMap (fun r => ps.map (fun v => r ++ [v]))
noncomputable def chGo : List Vl → List (List Vl) → List (List Vl) × Bool
  | [], out => (out, true)
  | d :: ds, out => if 4096 < out.length * (prtW d).length then ([], false) else chGo ds (chStep out (prtW d))
noncomputable def chW (ds : List Vl) : List (List Vl) × Bool := if ds.any (fun d => decide ((prtW d).length = 0)) then ([], true) else chGo ds [[]]
theorem chStep_len (out : List (List Vl)) (ps : List Vl) : (chStep out ps).length = out.length * ps.length := by
  induction out with
  | nil => simp [chStep]
  | cons r out ih => simp [chStep] at ih ⊢; rw [ih, Nat.add_mul]; omega
theorem ch_inner (rows : List (List Vl)) (ps : List Vl) (x : Nat) (hx : x < rows.length) (hr : (rows[x]).length ≤ 1000) (hp : ps.length ≤ 131072) (K : List (List Vl) → Option (List (List Vl) × Bool)) : ∀ (m i n : Nat) (out : List (List Vl)), i + m = ps.length → m < n → out.length + m ≤ 1000000 →
    m_dataspace_choices_L172 rows ps x K n out i = K (out ++ (ps.drop i).map (fun v => rows[x] ++ [v])) := by
  intro m
  induction m with
  | zero =>
    intro i n out hi hn ho
    obtain ⟨n, rfl⟩ : ∃ q, n = q + 1 := ⟨n - 1, by omega⟩
    rw [m_dataspace_choices_L172, m_dataspace_choices_B172, if_neg (by omega), List.drop_eq_nil_of_le (by omega)]; simp
  | succ m ih =>
    intro i n out hi hn ho
    obtain ⟨n, rfl⟩ : ∃ q, n = q + 1 := ⟨n - 1, by omega⟩
    have hil : i < ps.length := by omega
    rw [m_dataspace_choices_L172, m_dataspace_choices_B172, if_pos (by omega), need_pos (by omega), gi_nat hx, vClone _ (by omega), bnd1_mk, need_pos (by simp; omega), need_pos (by simp; omega), gi_nat hil, i64_succ (by omega), ih (i + 1) n _ (by omega) (by omega) (by simp; omega), List.drop_eq_getElem_cons hil, List.map_cons, List.append_assoc]
    rfl
theorem ch_mid (rows : List (List Vl)) (ps : List Vl) (hl : rows.length ≤ 4096) (hr : ∀ r ∈ rows, r.length ≤ 1000) (hp : rows.length * ps.length ≤ 4096) (hp' : ps.length ≤ 131072) (K : List (List Vl) → Option (List (List Vl) × Bool)) : ∀ (m i n : Nat) (out : List (List Vl)), i + m = rows.length → m < n → out.length + m * ps.length ≤ 4096 →
    m_dataspace_choices_L166 rows ps K n out i = K (out ++ chStep (rows.drop i) ps) := by
  have hFU := FU_ge
  intro m
  induction m with
  | zero =>
    intro i n out hi hn ho
    obtain ⟨n, rfl⟩ : ∃ q, n = q + 1 := ⟨n - 1, by omega⟩
    rw [m_dataspace_choices_L166, m_dataspace_choices_B166, if_neg (by omega), List.drop_eq_nil_of_le (by omega)]; simp [chStep]
  | succ m ih =>
    intro i n out hi hn ho
    obtain ⟨n, rfl⟩ : ∃ q, n = q + 1 := ⟨n - 1, by omega⟩
    have hil : i < rows.length := by omega
    rw [Nat.add_mul] at ho
    rw [m_dataspace_choices_L166, m_dataspace_choices_B166, if_pos (by omega)]
    simp only [jn_eq]
    have e := ch_inner rows ps i hil (hr _ (List.getElem_mem hil)) hp' (fun x10_j3419 => m_dataspace_choices_L166 rows ps K n x10_j3419 (i64 ((i : Int) + 1))) ps.length 0 FU out (by omega) (by omega) (by omega)
    rw [Int.natCast_zero, List.drop_zero] at e
    rw [need_pos (by omega), e, i64_succ (by omega), ih (i + 1) n _ (by omega) (by omega) (by simp; omega), List.drop_eq_getElem_cons hil, List.append_assoc]
    rfl
theorem chStep_row {out : List (List Vl)} {ps : List Vl} {k : Nat} (h : ∀ r ∈ out, r.length = k) : ∀ r ∈ chStep out ps, r.length = k + 1 := fun r hr => by
  obtain ⟨q, hq, hr⟩ := List.mem_flatMap.1 hr
  obtain ⟨v, _, rfl⟩ := List.mem_map.1 hr
  simp [h q hq]
theorem vChoices (ds : List Vl) (hl : ds.length ≤ 1000) : m_dataspace_choices ds = some (chW ds) := by
  have hFU := FU_ge
  unfold m_dataspace_choices chW
  rw [jn_eq]
  have loop1 : ∀ (K : Unit → Option (List (List Vl) × Bool)) (m i n : Nat), i + m = ds.length → m < n → m_dataspace_choices_L2 ds K n i = if (ds.drop i).any (fun d => decide ((prtW d).length = 0)) then some ([], true) else K () := by
    intro K m
    induction m with
    | zero =>
      intro i n hi hn
      obtain ⟨n, rfl⟩ : ∃ q, n = q + 1 := ⟨n - 1, by omega⟩
      rw [m_dataspace_choices_L2, m_dataspace_choices_B2, if_neg (by omega), List.drop_eq_nil_of_le (by omega)]; rfl
    | succ m ih =>
      intro i n hi hn
      obtain ⟨n, rfl⟩ : ∃ q, n = q + 1 := ⟨n - 1, by omega⟩
      have hil : i < ds.length := by omega
      rw [m_dataspace_choices_L2, m_dataspace_choices_B2, if_pos (by omega), need_pos (by omega), gi_nat hil, vPartsW, bnd1_mk, List.drop_eq_getElem_cons hil, List.any_cons]
      by_cases h : (prtW ds[i]).length = 0
      · rw [if_pos (by omega), decide_eq_true h]; rfl
      · rw [if_neg (by omega), decide_eq_false h, i64_succ (by omega), ih (i + 1) n (by omega) (by omega), Bool.false_or]
  have loop2 : ∀ (m i n : Nat) (out : List (List Vl)), i + m = ds.length → m < n → out.length ≤ 4096 → (∀ r ∈ out, r.length = i) → m_dataspace_choices_L88 ds (fun x => some (x, true)) n out i = some (chGo (ds.drop i) out) := by
    intro m
    induction m with
    | zero =>
      intro i n out hi hn ho hr
      obtain ⟨n, rfl⟩ : ∃ q, n = q + 1 := ⟨n - 1, by omega⟩
      rw [m_dataspace_choices_L88, m_dataspace_choices_B88, if_neg (by omega), List.drop_eq_nil_of_le (by omega)]; rfl
    | succ m ih =>
      intro i n out hi hn ho hr
      obtain ⟨n, rfl⟩ : ∃ q, n = q + 1 := ⟨n - 1, by omega⟩
      have hil : i < ds.length := by omega
      have hpl := (prtW_spec ds[i]).2.1
      have hm : out.length * (prtW ds[i]).length ≤ 4096 * 65535 := Nat.mul_le_mul ho hpl
      rw [m_dataspace_choices_L88, m_dataspace_choices_B88, if_pos (by omega)]
      simp only [jn_eq]
      have e : i64 ((out.length : Int) * ((prtW ds[i]).length : Int)) = ((out.length * (prtW ds[i]).length : Nat) : Int) := by rw [← Int.natCast_mul, i64_id (by omega)]
      rw [need_pos (by omega), gi_nat hil, vPartsW, bnd1_mk, e, List.drop_eq_getElem_cons hil, chGo]
      by_cases h : 4096 < out.length * (prtW ds[i]).length
      · rw [if_pos (by omega), if_pos h]
      · rw [if_neg (by omega), if_neg h]
        have e2 := ch_mid out (prtW ds[i]) ho (fun r hr' => by rw [hr r hr']; omega) (by omega) (by omega) (fun x => m_dataspace_choices_L88 ds (fun x => some (x, true)) n x (i64 ((i : Int) + 1))) out.length 0 FU [] (by omega) (by omega) (by simp; omega)
        rw [Int.natCast_zero, List.drop_zero, List.nil_append] at e2
        rw [e2, i64_succ (by omega), ih (i + 1) n _ (by omega) (by omega) (by rw [chStep_len]; omega) (chStep_row hr)]
  have h1 := loop1 (fun _ => jn (fun x6_j15 => some (x6_j15, true)) (fun k15 => m_dataspace_choices_L88 ds k15 FU ([[]]) 0)) ds.length 0 FU (by omega) (by omega)
  rw [Int.natCast_zero, List.drop_zero] at h1
  rw [h1]
  split
  · rfl
  · rw [jn_eq]
    have h2 := loop2 ds.length 0 FU [[]] (by omega) (by omega) (by simp) (by simp)
    rw [Int.natCast_zero, List.drop_zero] at h2
    exact h2
end Go.Proofs.Ytjlbdhicabgliaa
/- Complete values and events: what the program's functions come to. -/
namespace Go.Proofs.Ytjlbdhicabgliaa
attribute [local irreducible] FU

noncomputable abbrev dotW (n : Nat) (f : List Vl) : Vl := cmpd 7 (nameW (n : Int) :: f)
noncomputable def comW (n : Nat) (f : List Vl) (rows : List (List Vl)) : List Vl × Int := if rows.any (fun r => decide (dotW n (f ++ r) = [])) then ([], 9) else (rows.map (fun r => dotW n (f ++ r)), 0)
theorem com_loop (n : Nat) (hn : n ≤ 65535) (f : List Vl) (hf : f.length ≤ 1000) (hfx : ∀ x ∈ f, x.length ≤ 1099511627776) (rows : List (List Vl)) (ok : Bool) (hr : ∀ r ∈ rows, r.length ≤ 1000 ∧ ∀ x ∈ r, x.length ≤ 1099511627776) (hl : rows.length ≤ 1000000) (b : Bool) :
    ∀ (m i g : Nat) (out : List Vl), i + m = rows.length → m < g → out.length + m ≤ 2000000 → m_dataspace_complete_L2 (rows, ok) ((n : Int), f, b) (fun x => some (x, 0)) g out i = some (if (rows.drop i).any (fun r => decide (dotW n (f ++ r) = [])) then ([], 9) else (out ++ (rows.drop i).map (fun r => dotW n (f ++ r)), 0)) := by
  intro m
  induction m with
  | zero =>
    intro i g out hi hg ho
    obtain ⟨g, rfl⟩ : ∃ q, g = q + 1 := ⟨g - 1, by omega⟩
    rw [m_dataspace_complete_L2, m_dataspace_complete_B2, if_neg (by simp only []; omega), List.drop_eq_nil_of_le (by omega)]; simp
  | succ m ih =>
    intro i g out hi hg ho
    obtain ⟨g, rfl⟩ : ∃ q, g = q + 1 := ⟨g - 1, by omega⟩
    have hil : i < rows.length := by omega
    obtain ⟨r1, r2⟩ := hr _ (List.getElem_mem hil)
    rw [m_dataspace_complete_L2, m_dataspace_complete_B2, if_pos (by simp only []; omega)]
    simp only []
    rw [need_pos (by omega), gi_nat hil, pConcat _ (by simp) (by simp; omega), bnd1_mk, show [f, rows[i]].flatten = f ++ rows[i] by simp,
      pDot (by omega) (by omega) _ (by simp; omega) (fun x hx => (List.mem_append.1 hx).elim (hfx x) (r2 x)), bnd1_mk, List.drop_eq_getElem_cons hil, List.any_cons, List.map_cons]
    by_cases h : dotW n (f ++ rows[i]) = []
    · rw [if_pos h, decide_eq_true h]; rfl
    · rw [if_neg h, decide_eq_false h, need_pos (by simp; omega), i64_succ (by omega), ih (i + 1) g _ (by omega) (by omega) (by simp; omega), Bool.false_or, List.append_assoc]; rfl
theorem chGo_bound : ∀ (ds : List Vl) (out : List (List Vl)) (k : Nat), out.length ≤ 4096 → (∀ r ∈ out, r.length = k ∧ ∀ x ∈ r, x.length ≤ 131072) → (chGo ds out).1.length ≤ 4096 ∧ ∀ r ∈ (chGo ds out).1, r.length = k + ds.length ∧ ∀ x ∈ r, x.length ≤ 131072
  | [], out, k, h1, h2 => ⟨h1, h2⟩
  | d :: ds, out, k, h1, h2 => by
    rw [chGo]
    split
    · exact ⟨by simp, by simp⟩
    · have := chGo_bound ds (chStep out (prtW d)) (k + 1) (by rw [chStep_len]; omega) (fun r hr => by
        obtain ⟨q, hq, hr⟩ := List.mem_flatMap.1 hr
        obtain ⟨v, hv, rfl⟩ := List.mem_map.1 hr
        refine ⟨by simp [(h2 q hq).1], fun x hx => ?_⟩
        rcases List.mem_append.1 hx with hx | hx
        · exact (h2 q hq).2 x hx
        · rw [List.mem_singleton] at hx; subst hx; exact ((prtW_spec d).1 x hv).2)
      refine ⟨this.1, fun r hr => ?_⟩
      have h := this.2 r hr
      rw [List.length_cons]; exact ⟨by omega, h.2⟩
theorem chW_bound (ds : List Vl) : (chW ds).1.length ≤ 4096 ∧ ∀ r ∈ (chW ds).1, r.length = ds.length ∧ ∀ x ∈ r, x.length ≤ 131072 := by
  unfold chW
  split
  · exact ⟨by simp, by simp⟩
  · have := chGo_bound ds [[]] 0 (by simp) (by simp)
    simpa using this
noncomputable def complW (l : List Inf) (n : Nat) (f : List Vl) : List Vl × Int :=
  let c := chW ((gi l (n : Int)).2.2.2.drop f.length)
  if c.2 = true then comW n f c.1 else ([], 9)
theorem vComplete {l : List Inf} {v : Vl} {n : Nat} {f : List Vl} {b : Bool} (hd : dots v = ((n : Int), f, b)) (hn : n < l.length) (hn' : n ≤ 65535) (hf : f.length ≤ (l[n]).2.2.2.length) (h8 : (l[n]).2.2.2.length ≤ 1000) (hfx : ∀ x ∈ f, x.length ≤ 1099511627776) : m_dataspace_complete l v = some (complW l n f) := by
  have hFU := FU_ge
  unfold m_dataspace_complete complW
  have hb := chW_bound ((l[n]).2.2.2.drop f.length)
  rw [vMissing hd hn hf, bnd1_mk, vChoices _ (by rw [List.length_drop]; omega), bnd1_mk, gi_nat hn]
  generalize chW ((l[n]).2.2.2.drop f.length) = c at hb
  obtain ⟨rows, ok⟩ := c
  simp only [] at hb ⊢
  cases ok with
  | false => rfl
  | true =>
    rw [if_neg (by simp), if_pos rfl, vSplit, bnd1_mk, hd]
    simp only [jn_eq]
    have := com_loop n hn' f (by omega) hfx rows true (fun r hr => ⟨by have := (hb.2 r hr).1; rw [List.length_drop] at this; omega, fun x hx => by have := (hb.2 r hr).2 x hx; omega⟩) (by omega) b rows.length 0 FU [] (by omega) (by omega) (by simp; omega)
    rw [Int.natCast_zero, List.drop_zero] at this
    rw [this]; rfl
end Go.Proofs.Ytjlbdhicabgliaa
/- Events. -/
namespace Go.Proofs.Ytjlbdhicabgliaa
attribute [local irreducible] FU

theorem kind_nameW (k : Int) : kindW (nameW k) = 10 := by
  have hV : Vd (nameW k) := ⟨(nameW_IsV k 0).le (by omega), by simp [nameW]⟩
  unfold kindW; rw [if_pos (vldB_iff.2 hV)]; rfl
theorem num_nameW {k : Nat} (h1 : k ≤ 65535) : numW (nameW k) = k := by
  unfold numW
  rw [kind_nameW, if_neg (by omega), if_neg (by omega), if_pos rfl, show gi (nameW (k : Int)) 1 = u8i ((k : Int) / 256) from rfl, show gi (nameW (k : Int)) 2 = u8i (k : Int) from rfl]
  have e : ((k : Int) / 256) = ((k / 256 : Nat) : Int) := by omega
  rw [e, u8i_nat, u8i_nat]
  omega
theorem raw7_kind {l : List Vl} (h : Vd (raw 7 l)) : kindW (raw 7 l) = 7 := by
  unfold kindW; rw [if_pos (vldB_iff.2 h)]; rfl
theorem dots_dot {n : Nat} (hn : n ≤ 65535) {f : List Vl} (h : dotW n f ≠ []) : dots (dotW n f) = ((n : Int), f, true) := by
  have hh := cmpd_ne.1 h
  have e : dotW n f = raw 7 (nameW n :: f) := cmpd_yes hh
  unfold dots
  rw [e, raw7_kind hh.2.2, if_pos rfl]
  have hp : prtW (raw 7 (nameW n :: f)) = nameW n :: f := by
    unfold prtW; rw [if_pos (vldB_iff.2 hh.2.2)]
    exact prt_raw (by decide) hh.1 hh.2.1
  rw [hp, show gi (nameW (n : Int) :: f) 0 = nameW n from rfl, num_nameW hn]; rfl
theorem dot0_ne (n : Nat) : dotW n [] ≠ [] := by
  refine cmpd_ne.2 ⟨by simp, fun x hx => ?_, ?_, ?_⟩
  · rw [List.mem_singleton] at hx; subst hx; exact ⟨(nameW_IsV n 0).le (by omega), by simp [nameW]⟩
  · exact .comp 31 7 _ _ [nameW n] (by decide) (raw_count (by simp)) (fun p hp => by rw [List.mem_singleton] at hp; subst hp; exact (nameW_IsV n 0).le (by omega)) (by simp [formedB, gi2_00, nameW])
  · simp [raw, nameW]
noncomputable def evGo (l : List Inf) : List Inf → Nat → List Vl → List Vl × Int
  | [], _, out => (out, 0)
  | x :: xs, i, out => if x.2.1 = -1 then (if (complW l i []).2 = 0 then (if 1024 < (out ++ (complW l i []).1).length then ([], 9) else evGo l xs (i + 1) (out ++ (complW l i []).1)) else ([], (complW l i []).2)) else evGo l xs (i + 1) out
noncomputable def evW (l : List Inf) : List Vl × Int := if validB l then (if l.any (fun x => decide (x.2.1 = -1) && decide ([] ∈ x.2.2.2)) then ([], 17) else evGo l l 0 []) else ([], 1)
theorem compl_len (l : List Inf) (n : Nat) (f : List Vl) : (complW l n f).1.length ≤ 4096 := by
  unfold complW
  have hb := chW_bound ((gi l (n : Int)).2.2.2.drop f.length)
  simp only []
  split
  · unfold comW
    split
    · simp
    · simpa using hb.1
  · simp
theorem vEvents (l : List Inf) (hl : l.length ≤ 1099511627776) : m_dataspace_Events l = some (evW l) := by
  have hFU := FU_ge
  unfold m_dataspace_Events evW
  rw [vValidL l hl, bnd1_mk]
  cases hv : validB l with
  | false => rfl
  | true =>
    rw [if_neg (by simp), if_pos rfl, jn_eq]
    have hv' := hv
    unfold validB at hv'
    simp only [Bool.and_eq_true, decide_eq_true_eq, List.all_eq_true] at hv'
    obtain ⟨hI, hL⟩ := hv'
    have h8 : ∀ (i : Nat) (h : i < l.length), (l[i]).2.2.2.length ≤ 8 := fun i h => by
      have := hI _ (List.getElem_mem h)
      unfold okI at this
      simp only [Bool.and_eq_true, decide_eq_true_eq] at this
      exact this.2.1
    have loop1 : ∀ (K : Unit → Option (List Vl × Int)) (m i n : Nat), i + m = l.length → m < n → m_dataspace_Events_L2 l K n i = if (l.drop i).any (fun x => decide (x.2.1 = -1) && decide ([] ∈ x.2.2.2)) then some ([], 17) else K () := by
      intro K m
      induction m with
      | zero =>
        intro i n hi hn
        obtain ⟨n, rfl⟩ : ∃ q, n = q + 1 := ⟨n - 1, by omega⟩
        rw [m_dataspace_Events_L2, m_dataspace_Events_B2, if_neg (by omega), List.drop_eq_nil_of_le (by omega)]; rfl
      | succ m ih =>
        intro i n hi hn
        obtain ⟨n, rfl⟩ : ∃ q, n = q + 1 := ⟨n - 1, by omega⟩
        have hil : i < l.length := by omega
        rw [m_dataspace_Events_L2, m_dataspace_Events_B2, if_pos (by omega), need_pos (by omega)]
        simp only [jn_eq]
        rw [gi_nat hil, List.drop_eq_getElem_cons hil, List.any_cons, i64_succ (by omega), ih (i + 1) n (by omega) (by omega)]
        by_cases h : (l[i]).2.1 = -1
        · have hd := dots_dot (n := i) (by omega) (dot0_ne i)
          rw [if_pos h, decide_eq_true h, pDot (by omega) (by omega) _ (by simp) (by simp), bnd1_mk, vUnb hd hil (by simp) (by have := h8 i hil; omega), bnd1_mk, List.length_nil, List.drop_zero, Bool.true_and]
          cases decide ([] ∈ (l[i]).2.2.2) <;> rfl
        · rw [if_neg h, decide_eq_false h, if_neg Bool.false_ne_true, Bool.false_and, Bool.false_or]
    have loop2 : ∀ (m i n : Nat) (out : List Vl), i + m = l.length → m < n → out.length ≤ 1024 → m_dataspace_Events_L4 l (fun x => bnd1 (m_slices_Clip_L_api_Value_api_Value x) (fun y => some (y, 0))) n out i = some (evGo l (l.drop i) i out) := by
      intro m
      induction m with
      | zero =>
        intro i n out hi hn ho
        obtain ⟨n, rfl⟩ : ∃ q, n = q + 1 := ⟨n - 1, by omega⟩
        rw [m_dataspace_Events_L4, m_dataspace_Events_B4, if_neg (by omega), List.drop_eq_nil_of_le (by omega), vClip, bnd1_mk]; rfl
      | succ m ih =>
        intro i n out hi hn ho
        obtain ⟨n, rfl⟩ : ∃ q, n = q + 1 := ⟨n - 1, by omega⟩
        have hil : i < l.length := by omega
        rw [m_dataspace_Events_L4, m_dataspace_Events_B4, if_pos (by omega)]
        simp only [jn_eq]
        rw [need_pos (by omega), gi_nat hil, List.drop_eq_getElem_cons hil, evGo, i64_succ (by omega)]
        by_cases h : (l[i]).2.1 = -1
        · have hd := dots_dot (n := i) (by omega) (dot0_ne i)
          have hcl := compl_len l i []
          rw [if_neg (fun h' => h' h), if_pos h, pDot (by omega) (by omega) _ (by simp) (by simp), bnd1_mk, vComplete hd hil (by omega) (by simp) (by have := h8 i hil; omega) (by simp), bnd1_mk]
          by_cases h0 : (complW l i []).2 = 0
          · rw [if_neg (fun h' => h' h0), if_pos h0, need_pos (by omega)]
            by_cases h3 : 1024 < (out ++ (complW l i []).1).length
            · rw [if_pos (by omega), if_pos h3]
            · rw [if_neg (by omega), if_neg h3, ih (i + 1) n _ (by omega) (by omega) (by omega)]
          · rw [if_pos h0, if_neg h0]
        · rw [if_pos h, if_neg h, ih (i + 1) n _ (by omega) (by omega) ho]
    have h1 := loop1 (fun _ => jn (fun x6_j94 => bnd1 (m_slices_Clip_L_api_Value_api_Value x6_j94) (fun y174 => some (y174, 0))) (fun k94 => m_dataspace_Events_L4 l k94 FU [] 0)) l.length 0 FU (by omega) (by omega)
    rw [Int.natCast_zero, List.drop_zero] at h1
    rw [h1]
    split
    · rfl
    · rw [jn_eq]
      have h2 := loop2 l.length 0 FU [] (by omega) (by omega) (by simp)
      rw [Int.natCast_zero, List.drop_zero] at h2
      exact h2
end Go.Proofs.Ytjlbdhicabgliaa
/- What belongs to a list; complete values. -/
namespace Go.Proofs.Ytjlbdhicabgliaa
attribute [local irreducible] FU

noncomputable def inB (d x : Vl) : Bool := decide (d = [] ∨ x ∈ prtW d)
noncomputable def allIn : List Vl → List Vl → Bool
  | f :: fs, d :: ds => inB d f && allIn fs ds
  | _, _ => true
theorem dots_num (v : Vl) : 0 ≤ (dots v).1 ∧ (dots v).1 ≤ 65535 := by
  unfold dots
  split
  · rename_i h
    have hv := kind_vd (v := v) (by omega)
    have hk := kind_g0 (v := v) (by omega)
    simp only []
    unfold prtW; rw [if_pos (vldB_iff.2 hv)]
    obtain ⟨hv, _⟩ := hv
    cases hv with
    | int k b hb => simp [gi_0] at hk; omega
    | bool k b hb => simp [gi_0] at hk; omega
    | name k a b => simp [gi_0] at hk; omega
    | comp k c x y ps hc hn hp hf =>
      have : c = 7 := u8_inj (by rw [gi_0] at hk; rw [show (7 : UInt8).toNat = 7 from rfl]; omega)
      subst this
      rw [prt_comp hc hn (fun p hp' => (hp p hp').sh) (by omega)]
      simp only [formedB] at hf
      simp at hf
      obtain ⟨h1, _, h2⟩ := hf
      match ps, h1, h2, hp with
      | p :: ps, _, h2, hp =>
        have e : gi (p :: ps) 0 = p := rfl
        rw [e] at h2 ⊢
        have hp0 := hp p List.mem_cons_self
        have hkp : numW p = 0 ∨ kindW p = 10 := by
          by_cases hz : kindW p = 0
          · left; unfold numW; rw [if_neg (by omega), if_neg (by omega), if_neg (by omega)]
          · right; rw [kind_g0 hz, h2]; rfl
        rcases hkp with h | h
        · omega
        · unfold numW
          rw [if_neg (by omega), if_neg (by omega), if_pos h]
          have a1 := (gi p 1).toNat_lt
          have a2 := (gi p 2).toNat_lt
          omega
  · simp
noncomputable def belB (l : List Inf) (v : Vl) : Bool := (dots v).2.2 && (decide ((dots v).1 < l.length) && (decide ((dots v).2.1.length ≤ (gi l (dots v).1).2.2.2.length) && allIn (dots v).2.1 (gi l (dots v).1).2.2.2))
theorem bel_loop (l : List Inf) (y : Int × List Vl × Bool) (n : Nat) (hy : y.1 = n) (hn : n < l.length) (hf : y.2.1.length ≤ (l[n]).2.2.2.length) (h8 : y.2.1.length ≤ 1000) (K : Unit → Option Bool) : ∀ (m i g : Nat), i + m = y.2.1.length → m < g → m_dataspace_belongs_L2 l y K g i = if allIn (y.2.1.drop i) ((l[n]).2.2.2.drop i) then K () else some false := by
  intro m
  induction m with
  | zero =>
    intro i g hi hg
    obtain ⟨g, rfl⟩ : ∃ q, g = q + 1 := ⟨g - 1, by omega⟩
    rw [m_dataspace_belongs_L2, m_dataspace_belongs_B2, if_neg (by omega), List.drop_eq_nil_of_le (show y.2.1.length ≤ i by omega)]; simp [allIn]
  | succ m ih =>
    intro i g hi hg
    obtain ⟨g, rfl⟩ : ∃ q, g = q + 1 := ⟨g - 1, by omega⟩
    have hil : i < y.2.1.length := by omega
    have hid : i < (l[n]).2.2.2.length := by omega
    rw [m_dataspace_belongs_L2, m_dataspace_belongs_B2, if_pos (by omega), need_pos (by omega), hy, need_pos (by omega), gi_nat hn, need_pos (by omega)]
    simp only [jn_eq]
    rw [gi_nat hil, gi_nat hid, List.drop_eq_getElem_cons hil, List.drop_eq_getElem_cons hid, allIn, i64_succ (by omega), ih (i + 1) g (by omega) (by omega)]
    unfold inB
    by_cases h0 : (l[n]).2.2.2[i] = []
    · rw [if_neg (by simpa using h0), if_neg Bool.false_ne_true, decide_eq_true (.inl h0), Bool.true_and]
    · have hl := (prtW_spec (l[n]).2.2.2[i]).2.1
      rw [if_pos h0, vPartsW, bnd1_mk, vContainsV _ _ (by omega), bnd1_mk]
      by_cases hm : y.2.1[i] ∈ prtW (l[n]).2.2.2[i]
      · rw [decide_eq_true hm, decide_eq_true (.inr hm), if_neg (by simp), Bool.true_and]
      · rw [decide_eq_false hm, decide_eq_false (fun h => h.elim h0 hm), if_pos (by simp)]; rfl
theorem dots_len (v : Vl) : (dots v).2.1.length ≤ 8 := by
  unfold dots
  split
  · rename_i h
    have := dot_parts h
    simp; omega
  · simp
theorem vBelongs (l : List Inf) (v : Vl) : m_dataspace_belongs l v = some (belB l v) := by
  have hFU := FU_ge
  unfold m_dataspace_belongs belB
  rw [vSplit, bnd1_mk]
  have hd := dots_num v
  have hlen := dots_len v
  simp only [jn_eq]
  generalize dots v = y at hd hlen
  obtain ⟨k, f, ok⟩ := y
  simp only [] at hd hlen ⊢
  cases ok with
  | false => rfl
  | true =>
    rw [if_neg (by simp), Bool.true_and]
    by_cases hn : (l.length : Int) ≤ k
    · rw [if_pos hn, decide_eq_false (p := k < (l.length : Int)) (by omega)]; rfl
    · obtain ⟨n, rfl⟩ : ∃ n : Nat, k = n := ⟨k.toNat, by omega⟩
      have hnl : n < l.length := by omega
      rw [if_neg hn, need_pos (by omega), decide_eq_true (p := (n : Int) < (l.length : Int)) (by omega), Bool.true_and, gi_nat hnl]
      by_cases hf : ((l[n]).2.2.2.length : Int) < f.length
      · rw [if_pos (decide_eq_true hf), decide_eq_false (p := f.length ≤ (l[n]).2.2.2.length) (by omega)]; rfl
      · have e := bel_loop l ((n : Int), f, true) n rfl hnl (by simp only []; omega) (by simp only []; omega) (fun _ => some true) f.length 0 FU (by simp only []; omega) (by omega)
        rw [Int.natCast_zero, List.drop_zero, List.drop_zero] at e
        rw [if_neg (fun h => hf (of_decide_eq_true h)), decide_eq_true (p := f.length ≤ (l[n]).2.2.2.length) (by omega), Bool.true_and, e]
        cases allIn f (l[n]).2.2.2 <;> rfl
noncomputable def cplB (l : List Inf) (v : Vl) : Bool := validB l && (belB l v && decide ((dots v).2.1.length = (gi l (dots v).1).2.2.2.length))
theorem vCompleteB (l : List Inf) (v : Vl) (hl : l.length ≤ 1099511627776) : m_dataspace_Complete l v = some (cplB l v) := by
  unfold m_dataspace_Complete cplB
  simp only [jn_eq]
  rw [vValidL l hl, bnd1_mk]
  cases validB l with
  | false => rfl
  | true =>
    rw [if_pos rfl, vBelongs, bnd1_mk, Bool.true_and]
    cases hb : belB l v with
    | false => rfl
    | true =>
      rw [if_pos rfl, Bool.true_and]
      unfold belB at hb
      simp only [Bool.and_eq_true, decide_eq_true_eq] at hb
      have hd := dots_num v
      obtain ⟨n, hn⟩ : ∃ n : Nat, (dots v).1 = n := ⟨(dots v).1.toNat, by omega⟩
      obtain ⟨_, h1, h2, _⟩ := hb
      rw [hn] at h1 h2 ⊢
      have hnl : n < l.length := by omega
      rw [gi_nat hnl] at h2 ⊢
      rw [vMissing (f := (dots v).2.1) (b := (dots v).2.2) (by rw [← hn]) hnl h2, bnd1_mk]
      congr 1
      refine decide_eq_decide.2 ?_
      rw [List.length_drop]; omega
end Go.Proofs.Ytjlbdhicabgliaa
/- The lists that are drawn. -/
namespace Go.Proofs.Ytjlbdhicabgliaa
attribute [local irreducible] FU

def IntsOK (L : List Vl) : Prop := L.length ≤ 4 ∧ ∀ x ∈ L, ∃ k : Int, 0 ≤ k ∧ k < 6 ∧ x = intW k
def DomOK (d : Vl) : Prop := d = [] ∨ ∃ L, d = setW L ∧ IntsOK L
def InfOK (x : Inf) : Prop := -1 ≤ x.2.1 ∧ x.2.1 ≤ 1 ∧ x.2.2.2.length ≤ 3 ∧ ∀ d ∈ x.2.2.2, DomOK d
theorem names_in (K : List Int → Int → List Int → List Vl → Option (List Inf × (List Int × Int))) : ∀ (m n : Nat) (l : List Int) (i : Int) (xs : List Int) (ds : List Vl), m < n → GS l i → ds.length + m ≤ 3 → xs.length + m ≤ 3 → (∀ d ∈ ds, DomOK d) →
    ∃ i' xs' ds', m_law11_names_L26 K n l i xs ds m = K l i' xs' ds' ∧ GS l i' ∧ ds'.length ≤ 3 ∧ ∀ d ∈ ds', DomOK d := by
  intro m
  induction m with
  | zero =>
    intro n l i xs ds hn hg hl hx hd
    obtain ⟨n, rfl⟩ : ∃ q, n = q + 1 := ⟨n - 1, by omega⟩
    exact ⟨i, xs, ds, by rw [m_law11_names_L26, m_law11_names_B26, if_neg (by omega)], hg, by omega, hd⟩
  | succ m ih =>
    intro n l i xs ds hn hg hl hx hd
    obtain ⟨n, rfl⟩ : ∃ q, n = q + 1 := ⟨n - 1, by omega⟩
    obtain ⟨i1, L, e1, g1, hL⟩ := gInts hg
    obtain ⟨y, i2, e2, g2, y0, y1⟩ := gNext g1 (n := 12) (by omega) (by omega)
    have e3 : i64 (((m + 1 : Nat) : Int) - 1) = (m : Int) := by rw [i64_id (by omega)]; omega
    rw [m_law11_names_L26, m_law11_names_B26, if_pos (by omega), e1, bnd1_mk]
    simp only [jn_eq]
    rw [e2, bnd1_mk]
    simp only []
    have go : ∀ d, DomOK d → ∃ i' xs' ds', need (List.length ds + List.length [d] ≤ 137438953472) (need (List.length xs + List.length [(0 : Int)] ≤ 137438953472) (m_law11_names_L26 K n l i2 (xs ++ [0]) (ds ++ [d]) (i64 (((m + 1 : Nat) : Int) - 1)))) = K l i' xs' ds' ∧ GS l i' ∧ ds'.length ≤ 3 ∧ ∀ d ∈ ds', DomOK d := fun d hd' => by
      rw [need_pos (by simp; omega), need_pos (by simp; omega), e3]
      refine ih n l i2 _ _ (by omega) g2 (by simp; omega) (by simp; omega) (fun q hq => ?_)
      rcases List.mem_append.1 hq with hq | hq
      · exact hd q hq
      · rw [List.mem_singleton] at hq; subst hq; exact hd'
    split
    · exact go [] (.inl rfl)
    · exact go _ (.inr ⟨L, rfl, hL⟩)
theorem names_out : ∀ (m n : Nat) (k : Nat) (l : List Int) (i : Int) (out : List Inf), k + m = 4 → m < n → GS l i → out.length = k → (∀ x ∈ out, InfOK x) →
    ∃ i' out', m_law11_names_L14 (fun a b c => some (c, (a, b))) n l i out k = some (out', (l, i')) ∧ GS l i' ∧ out'.length ≤ 4 ∧ 1 ≤ out'.length + m ∧ ∀ x ∈ out', InfOK x := by
  have hFU := FU_ge
  intro m
  induction m with
  | zero =>
    intro n k l i out hk hn hg ho hx
    obtain ⟨n, rfl⟩ : ∃ q, n = q + 1 := ⟨n - 1, by omega⟩
    obtain ⟨y, i1, e1, g1, y0, y1⟩ := gNext hg (n := 4) (by omega) (by omega)
    refine ⟨i1, out, ?_, g1, by omega, by omega, hx⟩
    rw [m_law11_names_L14, m_law11_names_B14, e1, bnd1_mk]
    simp only []
    rw [i64_id (by omega), if_neg (by omega)]
  | succ m ih =>
    intro n k l i out hk hn hg ho hx
    obtain ⟨n, rfl⟩ : ∃ q, n = q + 1 := ⟨n - 1, by omega⟩
    obtain ⟨y, i1, e1, g1, y0, y1⟩ := gNext hg (n := 4) (by omega) (by omega)
    rw [m_law11_names_L14, m_law11_names_B14, e1, bnd1_mk]
    simp only [jn_eq]
    rw [i64_id (x := 1 + y) (by omega)]
    by_cases hc : (k : Int) < 1 + y
    · obtain ⟨z, i2, e2, g2, z0, z1⟩ := gNext g1 (n := 3) (by omega) (by omega)
      obtain ⟨u, i3, e3, g3, u0, u1⟩ := gNext g2 (n := 4) (by omega) (by omega)
      obtain ⟨u, rfl⟩ : ∃ q : Nat, u = q := ⟨u.toNat, by omega⟩
      rw [if_pos hc, need_pos (by simp; omega), e2, bnd1_mk]
      simp only []
      rw [e3, bnd1_mk]
      simp only []
      obtain ⟨i4, xs, ds, e4, g4, h4, h5⟩ := names_in (fun x0_0_j1250 x0_1_j1250 x5_2_j1250 x5_3_j1250 => need (List.length out + List.length ([(gi ([[97], [75], [99], [76]] : List Vl) (k : Int), i64 (z - 1), x5_2_j1250, x5_3_j1250)]) ≤ 137438953472) (m_law11_names_L14 (fun a b c => some (c, (a, b))) n x0_0_j1250 x0_1_j1250 (out ++ ([(gi ([[97], [75], [99], [76]] : List Vl) (k : Int), i64 (z - 1), x5_2_j1250, x5_3_j1250)])) (i64 ((k : Int) + 1)))) u FU l i3 [] [] (by omega) g3 (by simp; omega) (by simp; omega) (by simp)
      obtain ⟨i', out', q1, q2, q3, q4, q5⟩ := ih n (k + 1) l i4 (out ++ ([(gi ([[97], [75], [99], [76]] : List Vl) (k : Int), i64 (z - 1), xs, ds)])) (by omega) (by omega) g4 (by simp; omega) (fun x h => by
        rcases List.mem_append.1 h with h | h
        · exact hx x h
        · rw [List.mem_singleton] at h; subst h
          exact ⟨by simp only []; rw [i64_id (by omega)]; omega, by simp only []; rw [i64_id (by omega)]; omega, h4, h5⟩)
      refine ⟨i', out', e4.trans ?_, q2, q3, by omega, q5⟩
      rw [need_pos (by simp; omega), i64_succ (by omega)]
      exact q1
    · rw [if_neg hc]
      exact ⟨i1, out, rfl, g1, by omega, by omega, hx⟩
theorem gNames {l : List Int} {i : Int} (h : GS l i) : ∃ i' L, m_law11_names (l, i) = some (L, (l, i')) ∧ GS l i' ∧ L.length ≤ 4 ∧ ∀ x ∈ L, InfOK x := by
  have hFU := FU_ge
  unfold m_law11_names
  rw [jn_eq]
  obtain ⟨i', out', q1, q2, q3, _, q5⟩ := names_out 4 FU 0 l i [] (by omega) (by omega) h (by simp) (by simp)
  rw [Int.natCast_zero] at q1
  exact ⟨i', out', q1, q2, q3, q5⟩
end Go.Proofs.Ytjlbdhicabgliaa
/- The rows of choices: what they hold, how many, in ascending order. -/
namespace Go.Proofs.Ytjlbdhicabgliaa
attribute [local irreducible] FU

theorem chGo_mem : ∀ (ds : List Vl) (out : List (List Vl)) (r : List Vl), r ∈ (chGo ds out).1 → ∃ q ∈ out, ∃ t, r = q ++ t ∧ t.length = ds.length ∧ allIn t ds = true
  | [], out, r, h => ⟨r, h, [], by simp, rfl, rfl⟩
  | d :: ds, out, r, h => by
    rw [chGo] at h
    split at h
    · cases h
    · obtain ⟨q, hq, t, rfl, h2, h3⟩ := chGo_mem ds _ r h
      obtain ⟨q0, hq0, hq⟩ := List.mem_flatMap.1 hq
      obtain ⟨v, hv, rfl⟩ := List.mem_map.1 hq
      refine ⟨q0, hq0, v :: t, by simp, by simp [h2], ?_⟩
      rw [allIn, h3, Bool.and_true]
      exact decide_eq_true (.inr hv)
theorem chW_mem {ds : List Vl} {r : List Vl} (h : r ∈ (chW ds).1) : r.length = ds.length ∧ allIn r ds = true := by
  unfold chW at h
  split at h
  · cases h
  · obtain ⟨q, hq, t, rfl, h2, h3⟩ := chGo_mem ds _ r h
    rw [List.mem_singleton] at hq
    subst hq
    exact ⟨h2, h3⟩
def prodN (ds : List Vl) (f : Vl → Nat) : Nat := match ds with | [] => 1 | d :: ds => f d * prodN ds f
theorem chGo_len : ∀ (ds : List Vl) (out : List (List Vl)), (chGo ds out).2 = true → (chGo ds out).1.length = out.length * prodN ds (fun d => (prtW d).length)
  | [], out, _ => by simp [chGo, prodN]
  | d :: ds, out, h => by
    rw [chGo] at h ⊢
    split at h
    · cases h
    · rename_i hc
      rw [if_neg hc, chGo_len ds _ h, chStep_len, prodN, Nat.mul_assoc]
theorem chW_len {ds : List Vl} (h : (chW ds).2 = true) : (chW ds).1.length = prodN ds (fun d => (prtW d).length) := by
  unfold chW at h ⊢
  split
  · rename_i hz
    obtain ⟨d, hd, hz⟩ := List.any_eq_true.1 hz
    have hz := of_decide_eq_true hz
    have key : ∀ ds : List Vl, d ∈ ds → prodN ds (fun d => (prtW d).length) = 0 := by
      intro ds
      induction ds with
      | nil => intro hd; cases hd
      | cons e ds ih =>
        intro hd
        rw [prodN]
        rcases List.mem_cons.1 hd with rfl | hd
        · rw [hz, Nat.zero_mul]
        · rw [ih hd, Nat.mul_zero]
    rw [key ds hd]; rfl
  · rename_i hz
    rw [if_neg hz] at h
    have := chGo_len ds [[]] h
    simpa using this
theorem lex_app {α : Type} {c : α → α → Int} (hs : ∀ x, c x x = 0) : ∀ {a b x y : List α}, a.length = b.length → (lexCmp c a b < 0 ∨ (a = b ∧ lexCmp c x y < 0)) → lexCmp c (a ++ x) (b ++ y) < 0
  | [], [], x, y, _, h => by
    rcases h with h | ⟨_, h⟩
    · simp [lexCmp] at h
    · exact h
  | p :: a, q :: b, x, y, hl, h => by
    simp only [List.length_cons, Nat.add_right_cancel_iff] at hl
    rw [List.cons_append, List.cons_append]
    simp only [lexCmp] at h ⊢
    rcases h with h | ⟨h1, h2⟩
    · by_cases h0 : c p q = 0
      · rw [if_neg (fun h' => h' h0)] at h ⊢
        exact lex_app hs hl (.inl h)
      · rw [if_pos h0] at h ⊢
        exact h
    · injection h1 with h1 h3
      subst h1 h3
      rw [hs, if_neg (fun h' => h' rfl)]
      exact lex_app hs rfl (.inr ⟨rfl, h2⟩)
abbrev LexLt (a b : List Vl) : Prop := lexCmp cmpC a b < 0
theorem chStep_asc {out : List (List Vl)} {ps : List Vl} {k : Nat} (hk : ∀ r ∈ out, r.length = k) (ho : out.Pairwise LexLt) (hp : SLC ps) : (chStep out ps).Pairwise LexLt := by
  induction out with
  | nil => exact .nil
  | cons r out ih =>
    obtain ⟨h1, h2⟩ := List.pairwise_cons.1 ho
    have ih' := ih (fun r hr => hk r (List.mem_cons_of_mem _ hr)) h2
    show (ps.map (fun v => r ++ [v]) ++ chStep out ps).Pairwise LexLt
    refine List.pairwise_append.2 ⟨?_, ih', ?_⟩
    · rw [List.pairwise_map]
      refine hp.imp fun {a b} h => lex_app cmpC_self rfl (.inr ⟨rfl, ?_⟩)
      have h : cmpC a b < 0 := h
      simp only [lexCmp]
      rw [if_pos (by omega)]
      exact h
    · intro a ha b hb
      obtain ⟨v, _, rfl⟩ := List.mem_map.1 ha
      obtain ⟨q, hq, hb⟩ := List.mem_flatMap.1 hb
      obtain ⟨u, _, rfl⟩ := List.mem_map.1 hb
      exact lex_app cmpC_self (by rw [hk r List.mem_cons_self, hk q (List.mem_cons_of_mem _ hq)]) (.inl (h1 q hq))
theorem chGo_asc : ∀ (ds : List Vl) (out : List (List Vl)) (k : Nat), (∀ r ∈ out, r.length = k) → out.Pairwise LexLt → (∀ d ∈ ds, SLC (prtW d)) → (chGo ds out).1.Pairwise LexLt
  | [], out, k, _, h, _ => h
  | d :: ds, out, k, hk, h, hd => by
    rw [chGo]
    split
    · exact .nil
    · exact chGo_asc ds _ (k + 1) (chStep_row hk) (chStep_asc hk h (hd d List.mem_cons_self)) (fun d h => hd d (List.mem_cons_of_mem _ h))
theorem chW_asc {ds : List Vl} (h : ∀ d ∈ ds, okD d = true) : (chW ds).1.Pairwise LexLt := by
  unfold chW
  split
  · exact .nil
  · refine chGo_asc ds [[]] 0 (by simp) (by simp) (fun d hd => ?_)
    rcases of_decide_eq_true (h d hd) with rfl | h5
    · have : prtW ([] : Vl) = [] := by
        unfold prtW; rw [vldB_no (fun hv => hv.ne rfl)]; rfl
      rw [this]; exact .nil
    · exact prtW_SLC (by unfold isSet; simp [h5])
end Go.Proofs.Ytjlbdhicabgliaa
/- The events: each complete, each once, in order, as many as there should be. -/
namespace Go.Proofs.Ytjlbdhicabgliaa
attribute [local irreducible] FU

theorem raw_inv {c : UInt8} {l : List Vl} (hc : 3 ≤ c.toNat ∧ c.toNat ≤ 9) (hl : l.length ≤ 65535) (hx : ∀ x ∈ l, Vd x) (h : Vd (raw c l)) : ∀ x ∈ l, IsV 31 x := by
  have hp := prt_raw hc hl hx
  obtain ⟨hv, _⟩ := h
  unfold raw at hv hp
  generalize u8i ((l.length / 256 : Nat) : Int) = a at hv hp
  generalize u8i ((l.length : Nat) : Int) = b at hv hp
  generalize hw : c :: a :: b :: l.flatten = w at hv hp
  cases hv with
  | int k q hb => injection hw with e; subst e; simp at hc
  | bool k q hb => injection hw with e; subst e; simp at hc
  | name k h l => injection hw with e; subst e; simp at hc
  | comp k c' h' l' ps hc' hn hps hf =>
    rw [prt_comp hc' hn (fun p hp' => (hps p hp').sh) (by omega)] at hp
    subst hp
    exact hps
theorem dot_cmp {n n' : Nat} {f f' : List Vl} (h : dotW n f ≠ []) (h' : dotW n' f' ≠ []) : cmpC (dotW n f) (dotW n' f') = lexCmp cmpC (nameW n :: f) (nameW n' :: f') := by
  have g := cmpd_ne.1 h
  have g' := cmpd_ne.1 h'
  rw [show dotW n f = raw 7 (nameW n :: f) from cmpd_yes g, show dotW n' f' = raw 7 (nameW n' :: f') from cmpd_yes g']
  generalize nameW (n : Int) :: f = L at g
  generalize nameW (n' : Int) :: f' = L' at g'
  obtain ⟨g1, g2, g3⟩ := g
  obtain ⟨k1, k2, k3⟩ := g'
  have i1 := raw_inv (by decide) g1 g2 g3
  have i2 := raw_inv (by decide) k1 k2 k3
  have hl : lexCmp cmpC L L' = lexCmp (cmpV 31) L L' := lexCmp_congr (fun x hx y hy => by
    unfold cmpC
    rw [if_pos ⟨vldB_iff.2 (g2 x hx), vldB_iff.2 (k2 y hy)⟩]
    exact (cmpW_eq (i1 x hx).sh (i2 y hy).sh (by omega)).symm)
  rw [hl]
  unfold cmpC
  rw [if_pos ⟨vldB_iff.2 g3, vldB_iff.2 k3⟩]
  show cmpV 32 _ _ = _
  rw [cmpV]
  by_cases he : raw 7 L = raw 7 L'
  · have : L = L' := by rw [← prt_raw (c := 7) (by decide) g1 g2, he, prt_raw (by decide) k1 k2]
    subst this
    rw [if_pos rfl]
    exact (((cmpV_TO 31).lex).self L (fun x hx => (i1 x hx).sh)).symm
  · rw [if_neg he, if_neg (by simp [raw, gi_0]), if_neg (by simp [raw, gi_0]), if_neg (by simp [raw, gi_0])]
    unfold raw
    rw [partsV_eq (raw_count g1) (fun p hp => (i1 p hp).sh), partsV_eq (raw_count k1) (fun p hp => (i2 p hp).sh)]
theorem name_Vd (k : Int) : Vd (nameW k) := ⟨(nameW_IsV k 0).le (by omega), by simp [nameW]⟩
theorem name_lt {n n' : Nat} (h : n < n') (h' : n' < 4) : cmpC (nameW n) (nameW n') < 0 := by
  have hs : strCmp (nameW n) (nameW n') = -1 := by
    have h1 : n = 0 ∨ n = 1 ∨ n = 2 := by omega
    have h2 : n' = 1 ∨ n' = 2 ∨ n' = 3 := by omega
    rcases h1 with rfl | rfl | rfl <;> rcases h2 with rfl | rfl | rfl <;> first | omega | decide
  unfold cmpC
  rw [if_pos ⟨vldB_iff.2 (name_Vd n), vldB_iff.2 (name_Vd n')⟩]
  show cmpV 32 _ _ < 0
  rw [cmpV]
  have hne : nameW (n : Int) ≠ nameW (n' : Int) := fun e => by
    rw [e] at hs
    have := (TO_str).self (nameW n') trivial
    omega
  rw [if_neg hne, if_neg (by simp [nameW, gi_0]), if_neg (by simp [nameW, gi_0]), if_pos (.inr (by simp [nameW, gi_0])), hs]
  decide
theorem compl_ok {l : List Inf} {n : Nat} (hn : n < l.length) (h : (complW l n []).2 = 0) : (chW (l[n]).2.2.2).2 = true ∧ (complW l n []).1 = (chW (l[n]).2.2.2).1.map (dotW n) ∧ ∀ r ∈ (chW (l[n]).2.2.2).1, dotW n r ≠ [] := by
  unfold complW at h ⊢
  rw [gi_nat hn, List.length_nil, List.drop_zero] at h ⊢
  simp only [] at h ⊢
  cases hc : (chW (l[n]).2.2.2).2 with
  | false => rw [hc] at h; simp at h
  | true =>
    rw [hc, if_pos rfl] at h
    rw [if_pos rfl]
    unfold comW at h ⊢
    simp only [List.nil_append] at h ⊢
    split at h
    · simp at h
    · rename_i ha
      rw [if_neg ha]
      refine ⟨trivial, rfl, fun r hr he => ha (List.any_eq_true.2 ⟨r, hr, decide_eq_true he⟩)⟩
noncomputable def cntE : List Inf → Nat
  | [] => 0
  | x :: xs => (if x.2.1 = -1 then prodN x.2.2.2 (fun d => (prtW d).length) else 0) + cntE xs
structure EvOK (l : List Inf) (i : Nat) (out : List Vl) : Prop where
  asc : out.Pairwise (fun a b => cmpC a b < 0)
  mem : ∀ e ∈ out, ∃ j r, j < i ∧ e = dotW j r ∧ e ≠ [] ∧ cplB l e = true
theorem dom_ok {l : List Inf} (hv : validB l = true) {n : Nat} (hn : n < l.length) : (∀ d ∈ (l[n]).2.2.2, okD d = true) ∧ (l[n]).2.2.2.length ≤ 8 := by
  unfold validB at hv
  simp only [Bool.and_eq_true, List.all_eq_true] at hv
  have := hv.1 _ (List.getElem_mem hn)
  unfold okI at this
  simp only [Bool.and_eq_true, decide_eq_true_eq, List.all_eq_true] at this
  exact ⟨this.2.2, this.2.1⟩
theorem evGo_spec {l : List Inf} (hv : validB l = true) (h4 : l.length ≤ 4) : ∀ (xs : List Inf) (i : Nat) (out : List Vl), l.drop i = xs → i ≤ l.length → EvOK l i out → (evGo l xs i out).2 = 0 → EvOK l l.length (evGo l xs i out).1 ∧ (evGo l xs i out).1.length = out.length + cntE xs
  | [], i, out, hx, hi, ho, _ => by
    have : i = l.length := by
      have := congrArg List.length hx
      simp at this; omega
    subst this
    exact ⟨ho, by simp [evGo, cntE]⟩
  | x :: xs, i, out, hx, hi, ho, h => by
    have hil : i < l.length := by
      rcases Nat.lt_or_ge i l.length with h | h
      · exact h
      · rw [List.drop_eq_nil_of_le h] at hx; cases hx
    rw [List.drop_eq_getElem_cons hil] at hx
    injection hx with hx1 hx2
    subst hx1
    rw [evGo] at h ⊢
    rw [cntE]
    by_cases hd : (l[i]).2.1 = -1
    · rw [if_pos hd] at h ⊢
      rw [if_pos hd]
      by_cases h0 : (complW l i []).2 = 0
      · rw [if_pos h0] at h ⊢
        by_cases h3 : 1024 < (out ++ (complW l i []).1).length
        · rw [if_pos h3] at h; cases h
        · rw [if_neg h3] at h ⊢
          obtain ⟨c1, c2, c3⟩ := compl_ok hil h0
          obtain ⟨d1, d2⟩ := dom_ok hv hil
          have hout : EvOK l (i + 1) (out ++ (complW l i []).1) := by
            rw [c2]
            refine ⟨List.pairwise_append.2 ⟨ho.asc, ?_, fun a ha b hb => ?_⟩, fun e he => ?_⟩
            · rw [List.pairwise_map]
              refine (chW_asc d1).imp_of_mem fun {a b} ha hb hab => ?_
              rw [dot_cmp (c3 a ha) (c3 b hb)]
              simp only [lexCmp]
              rw [cmpC_self, if_neg (fun h => h rfl)]
              exact hab
            · obtain ⟨j, r, hj, rfl, hne, _⟩ := ho.mem a ha
              obtain ⟨q, hq, rfl⟩ := List.mem_map.1 hb
              rw [dot_cmp hne (c3 q hq)]
              have := name_lt hj (by omega)
              simp only [lexCmp]
              rw [if_pos (by omega)]
              exact this
            · rcases List.mem_append.1 he with he | he
              · obtain ⟨j, r, hj, q⟩ := ho.mem e he
                exact ⟨j, r, by omega, q⟩
              · obtain ⟨q, hq, rfl⟩ := List.mem_map.1 he
                obtain ⟨m1, m2⟩ := chW_mem hq
                refine ⟨i, q, by omega, rfl, c3 q hq, ?_⟩
                unfold cplB belB
                rw [hv, dots_dot (by omega) (c3 q hq)]
                simp only []
                rw [gi_nat hil, m2, decide_eq_true (p := (i : Int) < (l.length : Int)) (by omega), decide_eq_true (p := q.length ≤ (l[i]).2.2.2.length) (by omega), decide_eq_true (p := q.length = (l[i]).2.2.2.length) m1]
                rfl
          obtain ⟨r1, r2⟩ := evGo_spec hv h4 xs (i + 1) _ hx2 (by omega) hout h
          refine ⟨r1, ?_⟩
          rw [r2, List.length_append, c2, List.length_map, chW_len c1]; omega
      · rw [if_neg h0] at h
        exact absurd h h0
    · rw [if_neg hd] at h ⊢
      rw [if_neg hd]
      obtain ⟨r1, r2⟩ := evGo_spec hv h4 xs (i + 1) out hx2 (by omega) ⟨ho.asc, fun e he => by obtain ⟨j, r, hj, q⟩ := ho.mem e he; exact ⟨j, r, by omega, q⟩⟩ h
      exact ⟨r1, by rw [r2]; omega⟩
end Go.Proofs.Ytjlbdhicabgliaa
/- The loops of the law on events. -/
namespace Go.Proofs.Ytjlbdhicabgliaa
attribute [local irreducible] FU

theorem ev_prod (y : List Inf × (List Int × Int)) (p : Nat) (hp : p < y.1.length) (ds : List Vl) (hds : (y.1[p]).2.2.2 = ds) (hd8 : ds.length ≤ 8) (h4 : ∀ d ∈ ds, (prtW d).length ≤ 4) (K : Int → Option Bool) : ∀ (m i n a : Nat), i + m = ds.length → m < n → a * 4 ^ m ≤ 1000000000 →
    m_law11_DataspaceEventsOnce_L26 y p K n a i = K ((a * prodN (ds.drop i) (fun d => (prtW d).length) : Nat) : Int) := by
  intro m
  induction m with
  | zero =>
    intro i n a hi hn ha
    obtain ⟨n, rfl⟩ : ∃ q, n = q + 1 := ⟨n - 1, by omega⟩
    rw [m_law11_DataspaceEventsOnce_L26, m_law11_DataspaceEventsOnce_B26, need_pos (by omega), gi_nat hp, hds, if_neg (by omega), List.drop_eq_nil_of_le (by omega), prodN, Nat.mul_one]
  | succ m ih =>
    intro i n a hi hn ha
    obtain ⟨n, rfl⟩ : ∃ q, n = q + 1 := ⟨n - 1, by omega⟩
    have hil : i < ds.length := by omega
    have hl := h4 _ (List.getElem_mem hil)
    have e : a * (prtW ds[i]).length * 4 ^ m ≤ a * 4 ^ (m + 1) := by
      rw [Nat.pow_succ, Nat.mul_assoc, Nat.mul_comm (4 ^ m) 4]
      exact Nat.mul_le_mul_left _ (Nat.mul_le_mul_right _ hl)
    have e0 : a * (prtW ds[i]).length ≤ a * (prtW ds[i]).length * 4 ^ m := Nat.le_mul_of_pos_right _ (Nat.pow_pos (by omega))
    rw [m_law11_DataspaceEventsOnce_L26, m_law11_DataspaceEventsOnce_B26, need_pos (by omega), gi_nat hp, hds, if_pos (by omega), need_pos (by omega), need_pos (by omega), gi_nat hil, rPartsW, bnd1_mk, ← Int.natCast_mul, i64_id (by omega), i64_succ (by omega), ih (i + 1) n _ (by omega) (by omega) (by omega), List.drop_eq_getElem_cons hil, prodN, Nat.mul_assoc]
theorem prod_le {ds : List Vl} (h4 : ∀ d ∈ ds, (prtW d).length ≤ 4) : prodN ds (fun d => (prtW d).length) ≤ 4 ^ ds.length := by
  induction ds with
  | nil => simp [prodN]
  | cons d ds ih =>
    rw [prodN, List.length_cons, Nat.pow_succ, Nat.mul_comm (4 ^ ds.length) 4]
    exact Nat.mul_le_mul (h4 d List.mem_cons_self) (ih (fun q hq => h4 q (List.mem_cons_of_mem _ hq)))
theorem dom_prt {d : Vl} (h : DomOK d) : (prtW d).length ≤ 4 := by
  rcases h with rfl | ⟨L, rfl, hL, hx⟩
  · unfold prtW; rw [vldB_no (fun hv => hv.ne rfl)]; simp
  · unfold setW prtW
    split
    · rename_i hv
      by_cases he : cmpd 5 (sortW L) = []
      · rw [he] at hv; exact absurd rfl ((vldB_iff.1 hv).ne)
      · have hh := cmpd_ne.1 he
        rw [cmpd_yes hh, prt_raw (by decide) hh.1 hh.2.1]
        have := (sortW_spec L).2.2
        omega
    · simp
theorem ev_sum (y : List Inf × (List Int × Int)) (h4 : y.1.length ≤ 4) (hI : ∀ x ∈ y.1, InfOK x) (K : Int → Option Bool) : ∀ (m i n s : Nat), i + m = y.1.length → m < n → s + m * 64 ≤ 1000 →
    m_law11_DataspaceEventsOnce_L14 y K n s i = K ((s + cntE (y.1.drop i) : Nat) : Int) := by
  have hFU := FU_ge
  intro m
  induction m with
  | zero =>
    intro i n s hi hn hs
    obtain ⟨n, rfl⟩ : ∃ q, n = q + 1 := ⟨n - 1, by omega⟩
    rw [m_law11_DataspaceEventsOnce_L14, m_law11_DataspaceEventsOnce_B14, if_neg (by omega), List.drop_eq_nil_of_le (by omega), cntE, Nat.add_zero]
  | succ m ih =>
    intro i n s hi hn hs
    obtain ⟨n, rfl⟩ : ∃ q, n = q + 1 := ⟨n - 1, by omega⟩
    have hil : i < y.1.length := by omega
    obtain ⟨i1, i2, i3, i4⟩ := hI _ (List.getElem_mem hil)
    have hp4 : ∀ d ∈ (y.1[i]).2.2.2, (prtW d).length ≤ 4 := fun d hd => dom_prt (i4 d hd)
    rw [m_law11_DataspaceEventsOnce_L14, m_law11_DataspaceEventsOnce_B14, if_pos (by omega)]
    simp only [jn_eq]
    have hpow : (4 : Nat) ^ (y.1[i]).2.2.2.length ≤ 4 ^ 3 := Nat.pow_le_pow_right (by omega) i3
    have hpr := prod_le hp4
    have e := ev_prod y i hil _ rfl (by omega) hp4 (fun x9_j324 => need ((0 : Int) ≤ i ∧ (i : Int) < (List.length y.1 : Int)) (if ((gi y.1 i).2.1) < 0 then (m_law11_DataspaceEventsOnce_L14 y K n (i64 ((s : Int) + x9_j324)) (i64 ((i : Int) + 1))) else (m_law11_DataspaceEventsOnce_L14 y K n s (i64 ((i : Int) + 1))))) (y.1[i]).2.2.2.length 0 FU 1 (by omega) (by omega) (by omega)
    rw [Int.natCast_zero, Int.natCast_one, List.drop_zero, Nat.one_mul] at e
    refine e.trans ?_
    rw [need_pos (by omega), gi_nat hil, i64_succ (by omega), List.drop_eq_getElem_cons hil, cntE]
    by_cases hd : (y.1[i]).2.1 < 0
    · rw [if_pos hd, if_pos (by omega), ← Int.natCast_add, i64_id (by omega), ih (i + 1) n _ (by omega) (by omega) (by omega), Nat.add_assoc]
    · rw [if_neg hd, if_neg (by omega), ih (i + 1) n _ (by omega) (by omega) (by omega), Nat.zero_add]
theorem ev_check (y : List Inf × (List Int × Int)) (ev : List Vl × Int) (h4 : y.1.length ≤ 4) (hE : EvOK y.1 y.1.length ev.1) (hl : ev.1.length ≤ 1000000) (K : Unit → Option Bool) : ∀ (m i n : Nat), i + m = ev.1.length → m < n → m_law11_DataspaceEventsOnce_L28 y ev K n i = K () := by
  intro m
  induction m with
  | zero =>
    intro i n hi hn
    obtain ⟨n, rfl⟩ : ∃ q, n = q + 1 := ⟨n - 1, by omega⟩
    rw [m_law11_DataspaceEventsOnce_L28, m_law11_DataspaceEventsOnce_B28, if_neg (by omega)]
  | succ m ih =>
    intro i n hi hn
    obtain ⟨n, rfl⟩ : ∃ q, n = q + 1 := ⟨n - 1, by omega⟩
    have hil : i < ev.1.length := by omega
    obtain ⟨j, r, _, _, _, hc⟩ := hE.mem _ (List.getElem_mem hil)
    rw [m_law11_DataspaceEventsOnce_L28, m_law11_DataspaceEventsOnce_B28, if_pos (by omega)]
    simp only [jn_eq]
    rw [need_pos (by omega), gi_nat hil, vCompleteB _ _ (by omega), bnd1_mk, hc, if_neg (by simp)]
    by_cases h0 : (0 : Int) < i
    · have e : i64 ((i : Int) - 1) = ((i - 1 : Nat) : Int) := by rw [i64_id (by omega)]; omega
      have hp := List.pairwise_iff_getElem.1 hE.asc (i - 1) i (by omega) hil (by omega)
      rw [if_pos h0, e, need_pos (by omega), need_pos (by omega), gi_nat (by omega), rCompareW, bnd1_mk, decide_eq_false (by omega), if_neg Bool.false_ne_true, i64_succ (by omega), ih (i + 1) n (by omega) (by omega)]
    · rw [if_neg h0, if_neg Bool.false_ne_true, i64_succ (by omega), ih (i + 1) n (by omega) (by omega)]
end Go.Proofs.Ytjlbdhicabgliaa
/- The law DataspaceEventsOnce, but for the fixed example. -/
namespace Go.Proofs.Ytjlbdhicabgliaa
attribute [local irreducible] FU

theorem evW_ok {l : List Inf} (h4 : l.length ≤ 4) (h : (evW l).2 = 0) : EvOK l l.length (evW l).1 ∧ (evW l).1.length = cntE l := by
  unfold evW at h ⊢
  cases hv : validB l with
  | false => rw [hv] at h; simp at h
  | true =>
    rw [hv, if_pos rfl] at h
    rw [if_pos rfl]
    split at h
    · simp at h
    · rename_i ha
      rw [if_neg ha]
      have := evGo_spec hv h4 l 0 [] (by simp) (by omega) ⟨.nil, by simp⟩ h
      simpa using this
theorem evGo_err : ∀ (l xs : List Inf) (i : Nat) (out : List Vl), (evGo l xs i out).2 ≠ 0 → (evGo l xs i out).1 = []
  | l, [], i, out, h => absurd rfl h
  | l, x :: xs, i, out, h => by
    rw [evGo] at h ⊢
    split
    · rename_i hd
      rw [if_pos hd] at h
      split
      · rename_i h0
        rw [if_pos h0] at h
        split
        · rfl
        · rename_i h3
          rw [if_neg h3] at h
          exact evGo_err l xs _ _ h
      · rfl
    · rename_i hd
      rw [if_neg hd] at h
      exact evGo_err l xs _ _ h
theorem evW_err {l : List Inf} (h : (evW l).2 ≠ 0) : (evW l).1 = [] := by
  unfold evW at h ⊢
  split
  · rename_i hv
    rw [if_pos hv] at h
    split
    · rfl
    · rename_i ha
      rw [if_neg ha] at h
      exact evGo_err _ _ _ _ h
  · rfl
theorem evGo_len : ∀ (l xs : List Inf) (i : Nat) (out : List Vl), out.length ≤ 1024 → (evGo l xs i out).1.length ≤ 1024
  | l, [], i, out, h => h
  | l, x :: xs, i, out, h => by
    rw [evGo]
    split
    · split
      · split
        · simp
        · exact evGo_len l xs _ _ (by omega)
      · simp
    · exact evGo_len l xs _ _ h
theorem evW_len (l : List Inf) : (evW l).1.length ≤ 1024 := by
  unfold evW
  split
  · split
    · simp
    · exact evGo_len _ _ _ _ (by simp)
  · simp
theorem eventsOnce_of (ha : m_law11_awake = some true) (x0 : List Int) (hx : GS x0 0) : m_law11_DataspaceEventsOnce x0 = some true := by
  have hFU := FU_ge
  unfold m_law11_DataspaceEventsOnce m_gen_New
  rw [bnd1_mk]
  simp only []
  obtain ⟨i', L, e1, _, h4, hI⟩ := gNames hx
  rw [e1, bnd1_mk, vEvents _ (by simp only []; omega), bnd1_mk]
  simp only [jn_eq]
  by_cases h0 : (evW L).2 = 0
  · obtain ⟨o1, o2⟩ := evW_ok h4 h0
    have hlen := evW_len L
    rw [if_neg (fun h => h h0)]
    have e := ev_sum (L, (x0, i')) h4 hI (fun x7_j8 => m_law11_DataspaceEventsOnce_L28 (L, (x0, i')) (evW L) (fun _ => bnd1 (m_law11_awake) (fun y493 => if y493 then some (decide ((List.length (evW L).1 : Int) = x7_j8)) else some false)) FU 0) L.length 0 FU 0 (by simp) (by omega) (by omega)
    rw [Int.natCast_zero, List.drop_zero, Nat.zero_add] at e
    refine e.trans ?_
    have e2 := ev_check (L, (x0, i')) (evW L) h4 o1 (by omega) (fun _ => bnd1 (m_law11_awake) (fun y493 => if y493 then some (decide ((List.length (evW L).1 : Int) = ((cntE L : Nat) : Int))) else some false)) (evW L).1.length 0 FU (by omega) (by omega)
    rw [Int.natCast_zero] at e2
    refine e2.trans ?_
    rw [ha, bnd1_mk, if_pos rfl, o2]; simp
  · rw [if_pos h0, ha, bnd1_mk, if_pos rfl, evW_err h0]; rfl
end Go.Proofs.Ytjlbdhicabgliaa
/- Join; the fixed example. -/
namespace Go.Proofs.Ytjlbdhicabgliaa
attribute [local irreducible] FU

theorem dots_mem {v x : Vl} (h : x ∈ (dots v).2.1) : Vd x := by
  unfold dots at h
  split at h
  · exact (prtW_spec v).1 x (List.mem_of_mem_drop h)
  · cases h
noncomputable def joinW (l : List Inf) (a b : Vl) : Vl × Int :=
  if validB l = false then ([], 1) else if (dots a).2.2 = false ∨ vldB b = false then ([], 6) else if belB l a = false then ([], 18)
  else match (gi l (dots a).1).2.2.2.drop (dots a).2.1.length with
    | [] => ([], 6)
    | d :: _ => if inB d b = false then ([], 18) else if cmpd 7 (nameW (dots a).1 :: ((dots a).2.1 ++ [b])) = [] then ([], 9) else (cmpd 7 (nameW (dots a).1 :: ((dots a).2.1 ++ [b])), 0)
theorem vJoin (l : List Inf) (a b : Vl) (hl : l.length ≤ 1099511627776) (hb : b.length ≤ 1099511627776) : m_dataspace_Join l a b = some (joinW l a b) := by
  unfold m_dataspace_Join joinW
  have hd := dots_num a
  have hn := dots_len a
  rw [vSplit, bnd1_mk, vValidL l hl, bnd1_mk]
  cases hv : validB l with
  | false => rfl
  | true =>
    simp only [jn_eq]
    rw [if_neg (show ¬ (!true) = true by simp), if_neg (show ¬ true = false by simp)]
    cases ho : (dots a).2.2 with
    | false => rfl
    | true =>
      rw [if_neg (show ¬ (!true) = true by simp), vValid, bnd1_mk]
      cases hvb : vldB b with
      | false => rfl
      | true =>
        rw [if_neg (show ¬ (!true) = true by simp), if_neg (show ¬ (true = false ∨ true = false) by simp), vBelongs, bnd1_mk]
        cases hB : belB l a with
        | false => rfl
        | true =>
          rw [if_neg (show ¬ (!true) = true by simp), if_neg (show ¬ true = false by simp)]
          have hB' := hB
          unfold belB at hB'
          simp only [Bool.and_eq_true, decide_eq_true_eq] at hB'
          obtain ⟨n, hnn⟩ : ∃ n : Nat, (dots a).1 = n := ⟨(dots a).1.toNat, by omega⟩
          obtain ⟨_, h1, h2, _⟩ := hB'
          rw [hnn] at h1 h2 ⊢
          have hnl : n < l.length := by omega
          rw [gi_nat hnl] at h2 ⊢
          have hm := vMissing (l := l) (v := a) (n := n) (f := (dots a).2.1) (b := (dots a).2.2) (by rw [← hnn]) hnl h2
          rw [hm, bnd1_mk]
          generalize (l[n]).2.2.2.drop (dots a).2.1.length = ms at hm
          cases ms with
          | nil => rfl
          | cons d ms =>
            rw [if_neg (by simp; omega), bnd1_mk, need_pos (by simp), show gi (d :: ms) 0 = d from rfl]
            simp only []
            have hdot := pDot (k := (n : Int)) (by omega) (by omega) ((dots a).2.1 ++ [b]) (by simp; omega) (fun x hx => by
              rcases List.mem_append.1 hx with hx | hx
              · have := (dots_mem hx).2; omega
              · rw [List.mem_singleton] at hx; subst hx; exact hb)
            have go : bnd1 (m_slices_Clone_L_api_Value_api_Value (dots a).2.1) (fun y30 => need (List.length y30 + List.length [b] ≤ 137438953472) (bnd1 (m_value_Dot (n : Int) (y30 ++ [b])) (fun y34 => if y34 = ([] : List UInt8) then (some (([] : List UInt8), (9 : Int))) else (some (y34, 0))))) = some (if cmpd 7 (nameW (n : Int) :: ((dots a).2.1 ++ [b])) = [] then ([], 9) else (cmpd 7 (nameW (n : Int) :: ((dots a).2.1 ++ [b])), 0)) := by
              rw [vClone _ (by omega), bnd1_mk, need_pos (by simp; omega), hdot, bnd1_mk]
              split <;> rfl
            unfold inB
            by_cases h0 : d = []
            · rw [if_neg (by simpa using h0), if_neg Bool.false_ne_true, decide_eq_true (.inl h0), if_neg (by simp)]
              exact go
            · have hpl := (prtW_spec d).2.1
              rw [if_pos h0, vPartsW, bnd1_mk, vContainsV _ _ (by omega), bnd1_mk]
              by_cases hmm : b ∈ prtW d
              · rw [decide_eq_true hmm, decide_eq_true (.inr hmm), if_neg (by simp), if_neg (by simp)]
                exact go
              · rw [decide_eq_false hmm, decide_eq_false (fun h => h.elim h0 hmm), if_pos (by simp), if_pos rfl]
theorem dot_small {n : Nat} {r : List Vl} (h : ∀ x ∈ r, IsV 31 x ∧ x.length ≤ 9) (hl : r.length ≤ 8) : dotW n r ≠ [] := by
  have hfl : r.flatten.length ≤ 9 * r.length := flat_le (fun x hx => (h x hx).2)
  refine cmpd_ne.2 ⟨by simp; omega, fun x hx => ?_, ?_, ?_⟩
  · rcases List.mem_cons.1 hx with rfl | hx
    · exact name_Vd n
    · exact ⟨(h x hx).1.mono, by have := (h x hx).2; omega⟩
  · refine .comp 31 7 _ _ (nameW n :: r) (by decide) (raw_count (by simp; omega)) (fun p hp => ?_) ?_
    · rcases List.mem_cons.1 hp with rfl | hp
      · exact (nameW_IsV n 0).le (by omega)
      · exact (h p hp).1
    · simp [formedB, gi2_00, nameW]; omega
  · rw [raw_len, List.flatten_cons, List.length_append]; have : (nameW (n : Int)).length = 3 := rfl; omega
theorem awake11_true : m_law11_awake = some true := by
  have hZ := run_set (a := 0) (m := 2) (by omega) (by omega)
  have hR := rRange (a := 0) (b := 1) (by omega) (by omega)
  rw [if_neg (by omega), show ((1 : Int) - 0 + 1).toNat = 2 from rfl, hZ.1] at hR
  obtain ⟨_, z2, z3, z4, z5⟩ := hZ
  have hrun : runW 0 2 = [intW 0, intW 1] := rfl
  generalize hZe : setW (runW 0 2) = Z at hR z2 z3 z5
  have zlen : (prtW Z).length = 2 := by rw [z2]; exact z4
  have zmem : ∀ x, x ∈ prtW Z ↔ x = intW 0 ∨ x = intW 1 := fun x => by rw [z2, (sortW_spec _).2.1, hrun]; simp
  have zne : Z ≠ [] := fun e => by have := z5.sh.len; rw [e] at this; simp at this
  have zk : kindW Z = 5 := of_decide_eq_true z3
  have zok : okD Z = true := decide_eq_true (.inr zk)
  unfold m_law11_awake
  rw [hR, bnd1_mk]
  simp only []
  generalize hA : ([([99], (-1 : Int), [], [Z, Z])] : List Inf) = A
  have hAl : A.length = 1 := by rw [← hA]; rfl
  have hA0 : ∀ h : 0 < A.length, (A[0]'h).2.2.2 = [Z, Z] ∧ (A[0]'h).2.1 = -1 := fun h => by subst hA; exact ⟨rfl, rfl⟩
  have hv : validB A = true := by subst hA; simp [validB, okI, zok]
  have hsm : ∀ r ∈ (chW [Z, Z]).1, ∀ x ∈ r, IsV 31 x ∧ x.length ≤ 9 := fun r hr x hx => by
    obtain ⟨m1, m2⟩ := chW_mem hr
    have hx' : x ∈ prtW Z := by
      match r, m1, m2, hx with
      | [a, b], _, m2, hx =>
        simp only [allIn, inB, Bool.and_true, Bool.and_eq_true, decide_eq_true_eq] at m2
        simp at hx
        rcases hx with rfl | rfl
        · exact m2.1.resolve_left zne
        · exact m2.2.resolve_left zne
    rcases (zmem x).1 hx' with rfl | rfl
    · exact ⟨(intW_IsV 0 0).le (by omega), by rw [intW_len]; omega⟩
    · exact ⟨(intW_IsV 1 0).le (by omega), by rw [intW_len]; omega⟩
  have hch : (chW [Z, Z]).2 = true := by
    unfold chW
    have zn : prtW Z ≠ [] := fun h => by rw [h] at zlen; cases zlen
    rw [if_neg (by simp [zn]), chGo, if_neg (by simp [zlen]), chGo, if_neg (by rw [chStep_len, zlen]; simp)]; rfl
  have hcom : (complW A 0 []).2 = 0 := by
    unfold complW
    rw [gi_nat (by omega : 0 < A.length), (hA0 _).1, List.length_nil, List.drop_zero]
    simp only []
    rw [hch, if_pos rfl]
    unfold comW
    rw [if_neg]
    intro h
    obtain ⟨r, hr, he⟩ := List.any_eq_true.1 h
    exact dot_small (n := 0) (hsm r hr) (by have := (chW_mem hr).1; simp at this; omega) (of_decide_eq_true he)
  have hcl : (complW A 0 []).1.length = 4 := by
    rw [(compl_ok (by omega : 0 < A.length) hcom).2.1, List.length_map, (hA0 _).1, chW_len hch]
    simp [prodN, zlen]
  have hev : (evW A).2 = 0 ∧ (evW A).1.length = 4 := by
    unfold evW
    rw [hv, if_pos rfl, if_neg (by subst hA; simpa using zne)]
    have e : evGo A A 0 [] = ((complW A 0 []).1, 0) := by
      have : ∃ x, A = [x] ∧ x.2.1 = -1 := by subst hA; exact ⟨_, rfl, rfl⟩
      obtain ⟨x, hx, hx1⟩ := this
      have : evGo A [x] 0 [] = ((complW A 0 []).1, 0) := by
        rw [evGo, if_pos hx1, if_pos hcom, List.nil_append, if_neg (by omega), evGo]
      rw [← hx] at this
      exact this
    rw [e]
    exact ⟨rfl, hcl⟩
  have hd0 := dots_dot (n := 0) (by omega) (dot0_ne 0)
  have hbel0 : belB A (dotW 0 []) = true := by
    unfold belB
    rw [hd0]
    subst hA
    simp [allIn]
  have i1 : Vd (intW 1) := ⟨(intW_IsV 1 0).le (by omega), by rw [intW_len]; omega⟩
  have i2 : Vd (intW 2) := ⟨(intW_IsV 2 0).le (by omega), by rw [intW_len]; omega⟩
  have n2 : intW 2 ∉ prtW Z := fun h => by
    rcases (zmem _).1 h with h | h
    · have := congrArg numV h
      rw [numV_intW (by omega), numV_intW (by omega)] at this; omega
    · have := congrArg numV h
      rw [numV_intW (by omega), numV_intW (by omega)] at this; omega
  have d1 : dotW 0 [intW 1] ≠ [] := dot_small (fun x hx => by rw [List.mem_singleton] at hx; subst hx; exact ⟨(intW_IsV 1 0).le (by omega), by rw [intW_len]; omega⟩) (by simp)
  have hgA : (gi A ((0 : Nat) : Int)).2.2.2 = [Z, Z] := by rw [gi_nat (by omega : 0 < A.length)]; exact (hA0 _).1
  have j1 : joinW A (dotW 0 []) (intW 1) = (dotW 0 [intW 1], 0) := by
    unfold joinW
    rw [hv, if_neg (by simp), hd0, vldB_iff.2 i1, if_neg (by simp), hbel0, if_neg (by simp)]
    simp only []
    rw [hgA, List.length_nil, List.drop_zero]
    simp only []
    rw [if_neg (by simp [inB, (zmem _).2 (.inr rfl)]), List.nil_append, if_neg d1]
  have j2 : joinW A (dotW 0 []) (intW 2) = ([], 18) := by
    unfold joinW
    rw [hv, if_neg (by simp), hd0, vldB_iff.2 i2, if_neg (by simp), hbel0, if_neg (by simp)]
    simp only []
    rw [hgA, List.length_nil, List.drop_zero]
    simp only []
    rw [if_pos (by simp [inB, n2, zne])]
  have hcp : cplB A (dotW 0 [intW 1]) = false := by
    unfold cplB
    rw [dots_dot (by omega) d1, hgA]
    simp
  have r0 : m_ref9_Dot 0 [] = some (dotW 0 []) := rDotW (k := 0) (by omega) (by omega) [] (by simp)
  have r1 : m_ref9_Dot 0 [intW 1] = some (dotW 0 [intW 1]) := rDotW (k := 0) (by omega) (by omega) [intW 1] (by simp)
  simp only [jn_eq]
  rw [vEvents A (by omega), bnd1_mk, r0, bnd1_mk, rInt, bnd1_mk, vJoin A _ _ (by omega) (by rw [intW_len]; omega), bnd1_mk, bnd1_mk, rInt, bnd1_mk, vJoin A _ _ (by omega) (by rw [intW_len]; omega), bnd1_mk, vValidL A (by omega), bnd1_mk, hv, if_pos rfl, if_pos hev.1, if_pos (by omega), j1, j2]
  simp only []
  rw [if_pos trivial, bnd1_mk, r1, bnd1_mk, if_pos rfl, if_pos trivial, vCompleteB A _ (by omega), bnd1_mk, hcp]; rfl
theorem dataspaceEventsOnce_true (x0 : List Int) (h : x0.length ≤ maxLen ∧ ∀ x ∈ x0, (Lit.int .i64 x).wf = true) : m_law11_DataspaceEventsOnce x0 = some true :=
  eventsOnce_of awake11_true x0 (gs_new h)
end Go.Proofs.Ytjlbdhicabgliaa
/- DataspaceEventsOnce: for every input the call returns true, and the arguments read as before. No condition. -/
namespace Go.Proofs.Ytjlbdhicabgliaa
open Go.ChangeShapes Go.WideShapes Go.ChangeAt Go.RowKit

theorem o_int : Opens Try.prog 3 1 (fun x : Int => [.exact (.int .i64 x)]) (fun _ => 1) (fun x => (Lit.int .i64 x).wf = true) := fun e0 W fuel cs y h => (opens_int Try.underlying3) e0 W fuel cs y h
theorem o_L_int : Opens Try.prog 22 1 (fun xs : List Int => [.row 1 c_int xs]) (fun xs => szL (fun _ => 1) xs + 1) (fun xs => xs.length ≤ maxLen ∧ ∀ x ∈ xs, (fun x => (Lit.int .i64 x).wf = true) x) := fun e0 W fuel cs y h => (opens_slice Try.underlying22 (by kernel_rfl) (by decide) o_int) e0 W fuel cs y h
set_option maxRecDepth 100000 in
theorem dataspaceEventsOnce_lifted (os : Os) (started : os.Started) (H : Type) (enc : TypeId × Value → H) :
    ReturnsInHanded {} Try.checked os 3 .any (Rows.dataspaceEventsOnceSpec.pre6 enc Try.prog Try.f3 Rows.dataspaceEventsOnceRow.domain false) (Rows.dataspaceEventsOnceSpec.post enc Try.prog Try.f3 false true false false) := by
  refine returnsInHanded_of_change (C := Try.checked) Try.own started (by kernel_rfl) Try.func3
    (ChangeSpec.witness6 (enc := enc) (C := Try.checked) false ⟨#[], #[.slice none 0 0], []⟩ 8 (by kernel_rfl) (by kernel_rfl) (by kernel_rfl) (by kernel_rfl)) ?_
  intro W base args ds gs before hval0 hW hcnd _
  have hval : ∀ (j : Nat) t v, Try.f3.params[j]? = some t → args[j]? = some v → Value.okWide Try.prog W .any base t v := hval0
  have hW' := hW
  obtain ⟨p, q, hA0, hV, rfl, hfz, hnd⟩ := hW
  have hA : DataW.TrodAll enc Try.prog W 0 (fun _ => true) true Try.f3.params.toList args.toList ds p := hA0
  rw [Try.params3] at hA hval
  obtain ⟨v0, vs0, d0, ds0, p0, q0, hargs, rfl, rfl, h0, r0⟩ := trodAll_cons hA
  obtain ⟨rfl, rfl, rfl⟩ := trodAll_nil r0
  obtain rfl : args = #[v0] := by cases args; simp_all
  obtain ⟨rfl, rfl⟩ := trodVars_none hV
  clear hA0
  simp only [List.append_nil] at hW'
  have hlt := hW'.lt
  obtain ⟨x0, qq0, g0, s0⟩ := arg_open o_L_int (plain_slice Try.underlying22 (hval 0 22 v0 rfl rfl)) h0
  refine (Pure.call (m_law11_DataspaceEventsOnce_ok x0 true (dataspaceEventsOnce_true x0 qq0)) (vs := [v0]) ⟨g0.1, trivial⟩).mono fun e W' ⟨he, hb⟩ => ?_
  subst he
  exact ⟨_, rfl, post_of_below (pa := p0 ++ []) (pv := []) hW' (fun _ _ _ => trodAll_cons_mk (shut_bool Try.underlying4 true) trodAll_mk0)
    (fun sp hsp => trodAll_cons_mk (trod_after (by kernel_rfl) (of_decide_eq_true (by kernel_rfl)) h0 hb (fun x hx => hlt x (by simp [hx])) (fun x hx => by simp [hx]) sp hsp) (trodAll_mk0))
    (fun _ _ => rfl) (by simp) hb (ok_one (by kernel_rfl) rfl (okWide_bool_mk Try.underlying4 true))⟩

theorem dataspaceEventsOnce_holds : Rows.DataspaceEventsOnceSaid :=
  OpenClaim.holds_of_wide 3 Try.f3 rfl rfl rfl rfl rfl rfl rfl ⟨rfl, rfl, rfl, rfl, rfl⟩ rfl rfl rfl rfl rfl (by kernel_rfl) Try.func3 (by kernel_rfl)
    (of_decide_eq_true (by kernel_rfl)) (by unfold Func.isWrapper; first | (rw [if_pos (by decide +kernel)]; kernel_rfl) | (rw [if_neg (by decide +kernel)]; exact ⟨rfl, rfl⟩))
    (fun os started H enc _ => dataspaceEventsOnce_lifted os started H enc)

end Go.Proofs.Ytjlbdhicabgliaa
