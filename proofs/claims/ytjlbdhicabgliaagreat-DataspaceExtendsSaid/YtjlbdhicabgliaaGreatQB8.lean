/- Lists of constructors and channels: what the parts of dataspace come to. -/
import Derived.Test.YtjlbdhicabgliaaGreatQB2
import Derived.Test.YtjlbdhicabgliaaGreatQB4
import Derived.Test.YtjlbdhicabgliaaGreatQB7
namespace Go.Proofs.YtjlbdhicabgliaaGreat
attribute [local irreducible] FU

abbrev Vl := List UInt8
theorem kind_vd {v : Vl} (h : kindW v ≠ 0) : Vd v := by
  unfold kindW at h
  split at h
  · rename_i hv; exact vldB_iff.1 hv
  · exact absurd rfl h
theorem kind_g0 {v : Vl} (h : kindW v ≠ 0) : kindW v = ((gi v 0).toNat : Int) := by
  have hv := kind_vd h
  unfold kindW; rw [if_pos (vldB_iff.2 hv)]
theorem kind_shape {v : Vl} (h : kindW v ≠ 0) : (kindW v = 1 ∧ ∃ b, b.length = 8 ∧ v = 1 :: b) ∨ (kindW v = 2 ∧ ∃ b : UInt8, b.toNat ≤ 1 ∧ v = [2, b]) ∨ (kindW v = 10 ∧ ∃ h l, v = [10, h, l]) ∨ (3 ≤ kindW v ∧ kindW v ≤ 9) := by
  have hk := kind_g0 h
  obtain ⟨hv, _⟩ := kind_vd h
  cases hv with
  | int k b hb => exact .inl ⟨by rw [hk]; rfl, b, hb, rfl⟩
  | bool k b hb => exact .inr (.inl ⟨by rw [hk]; rfl, b, hb, rfl⟩)
  | name k a b => exact .inr (.inr (.inl ⟨by rw [hk]; rfl, a, b, rfl⟩))
  | comp k c a b ps hc hn hp hf => exact .inr (.inr (.inr (by rw [hk, gi_0]; omega)))
noncomputable def numW (v : Vl) : Int := if kindW v = 1 then numV v else if kindW v = 2 then ((gi v 1).toNat : Int) else if kindW v = 10 then (((gi v 1).toNat * 256 + (gi v 2).toNat : Nat) : Int) else 0
theorem vNum (v : Vl) : m_value_Number v = some (numW v) := by
  unfold m_value_Number numW
  rw [vKind, bnd1_mk]
  by_cases h1 : kindW v = 1
  · rcases kind_shape (v := v) (by omega) with ⟨_, b, hb, rfl⟩ | ⟨h, _⟩ | ⟨h, _⟩ | h
    · rw [if_pos h1, if_pos h1, vInteger _ (by simp [hb]), bnd1_mk, numV, List.take_of_length_le (by simp [hb])]
    · omega
    · omega
    · omega
  rw [if_neg h1, if_neg h1]
  by_cases h2 : kindW v = 2
  · rcases kind_shape (v := v) (by omega) with ⟨h, _⟩ | ⟨_, b, hb, rfl⟩ | ⟨h, _⟩ | h
    · omega
    · rw [if_pos h2, if_pos h2, need_pos (by simp)]
    · omega
    · omega
  rw [if_neg h2, if_neg h2]
  by_cases h3 : kindW v = 10
  · rcases kind_shape (v := v) (by omega) with ⟨h, _⟩ | ⟨h, _⟩ | ⟨_, a, b, rfl⟩ | h
    · omega
    · omega
    · rw [if_pos h3, if_pos h3, need_pos (by simp), need_pos (by simp), i64_step]
    · omega
  rw [if_neg h3, if_neg h3]
theorem pName {k : Int} (h0 : 0 ≤ k) (h1 : k ≤ 65535) : m_value_Name k = some (nameW k) := by
  unfold m_value_Name
  simp only [jn_eq]
  unfold m_value_append16
  have e : IntKind.u16.wrap k = k := by
    unfold IntKind.wrap IntKind.bits IntKind.signed
    simp; omega
  rw [if_neg (by omega), if_neg (by simp; omega), e, need_pos (by simp), show (2 : Int) ^ min (Int.toNat 8) IntKind.u16.bits = 256 from rfl, Int.fdiv_eq_ediv_of_nonneg _ (by omega), bnd1_mk]; rfl
theorem pDot {k : Int} (h0 : 0 ≤ k) (h1 : k ≤ 65535) (l : List Vl) (hl : l.length ≤ 1000000000) (hx : ∀ x ∈ l, x.length ≤ 1099511627776) : m_value_Dot k l = some (cmpd 7 (nameW k :: l)) := by
  unfold m_value_Dot
  have := vCompound 7 ([nameW k] ++ l) (fun x h => by
    rcases List.mem_cons.1 h with rfl | h
    · simp [nameW]
    · exact hx x h)
  rw [show ((7 : UInt8).toNat : Int) = 7 from rfl] at this
  rw [pName h0 h1, bnd1_mk, need_pos (by simp; omega), this, bnd1_mk]; rfl

abbrev Inf := Vl × Int × List Int × List Vl
theorem vContainsV (a : List Vl) (v : Vl) (ha : a.length ≤ 1099511627776) : m_slices_Contains_L_api_Value_api_Value a v = some (decide (v ∈ a)) := by
  have hFU := FU_ge
  unfold m_slices_Contains_L_api_Value_api_Value m_slices_Index_L_api_Value_api_Value
  rw [jn_eq]
  have loop : ∀ (m i n : Nat), i + m = a.length → m < n → ∃ r, m_slices_Index_L_api_Value_api_Value_L2 a v (fun _ => some (-1)) n i = some r ∧ (0 ≤ r ↔ v ∈ a.drop i) := by
    intro m
    induction m with
    | zero =>
      intro i n hi hn
      obtain ⟨n, rfl⟩ : ∃ k, n = k + 1 := ⟨n - 1, by omega⟩
      refine ⟨-1, by rw [m_slices_Index_L_api_Value_api_Value_L2, m_slices_Index_L_api_Value_api_Value_B2, if_neg (by omega)], ?_⟩
      rw [List.drop_eq_nil_of_le (by omega)]; simp
    | succ m ih =>
      intro i n hi hn
      obtain ⟨n, rfl⟩ : ∃ k, n = k + 1 := ⟨n - 1, by omega⟩
      have hil : i < a.length := by omega
      rw [m_slices_Index_L_api_Value_api_Value_L2, m_slices_Index_L_api_Value_api_Value_B2, if_pos (by omega), need_pos (by omega), gi_nat hil]
      have hm : v ∈ a.drop i ↔ v = a[i] ∨ v ∈ a.drop (i + 1) := by rw [List.drop_eq_getElem_cons hil]; exact List.mem_cons
      by_cases he : v = a[i]
      · rw [if_pos he]; exact ⟨i, rfl, fun _ => hm.2 (.inl he), fun _ => by omega⟩
      · rw [if_neg he, i64_succ (by omega)]
        obtain ⟨r, h1, h2⟩ := ih (i + 1) n (by omega) (by omega)
        exact ⟨r, h1, h2.trans ⟨fun h => hm.2 (.inr h), fun h => (hm.1 h).resolve_left he⟩⟩
  obtain ⟨r, h1, h2⟩ := loop a.length 0 FU (by omega) (by omega)
  rw [Int.natCast_zero] at h1
  rw [List.drop_zero] at h2
  rw [h1, bnd1_mk]
  by_cases hr : 0 ≤ r
  · rw [decide_eq_true hr, decide_eq_true (h2.1 hr)]
  · rw [decide_eq_false hr, decide_eq_false (fun h => hr (h2.2 h))]
theorem pConcat (a : List (List Vl)) (ha : a.length ≤ 1000000) (hl : a.flatten.length ≤ 137438953472) : m_slices_Concat_L_api_Value_api_Value a = some a.flatten := by
  have hFU := FU_ge
  unfold m_slices_Concat_L_api_Value_api_Value
  simp only [jn_eq]
  have loop : ∀ (K : Int → Option (List Vl)) (m i n s : Nat), i + m = a.length → m < n → s + (a.drop i).flatten.length = a.flatten.length → m_slices_Concat_L_api_Value_api_Value_L2 a K n (s : Int) (i : Int) = K (a.flatten.length : Int) := by
    intro K m
    induction m with
    | zero =>
      intro i n s hi hn hs
      obtain ⟨n, rfl⟩ : ∃ j, n = j + 1 := ⟨n - 1, by omega⟩
      rw [List.drop_eq_nil_of_le (by omega), List.flatten_nil, List.length_nil, Nat.add_zero] at hs
      rw [m_slices_Concat_L_api_Value_api_Value_L2, m_slices_Concat_L_api_Value_api_Value_B2, if_neg (by omega), hs]
    | succ m ih =>
      intro i n s hi hn hs
      obtain ⟨n, rfl⟩ : ∃ j, n = j + 1 := ⟨n - 1, by omega⟩
      have hil : i < a.length := by omega
      rw [List.drop_eq_getElem_cons hil, List.flatten_cons, List.length_append] at hs
      rw [m_slices_Concat_L_api_Value_api_Value_L2, m_slices_Concat_L_api_Value_api_Value_B2, if_pos (by omega), need_pos (by omega), gi_nat hil, i64_id (by omega), if_neg (by omega), i64_succ (by omega)]
      have := ih (i + 1) n (s + a[i].length) (by omega) (by omega) (by omega)
      rw [Int.natCast_add] at this
      exact this
  have h1 := fun K => loop K a.length 0 FU 0 (by omega) (by omega) (by simp)
  simp only [Int.natCast_zero] at h1
  rw [h1]
  have hg : m_slices_Grow_L_api_Value_api_Value (a.flatten.length : Int) = some [] := by
    unfold m_slices_Grow_L_api_Value_api_Value
    simp only [jn_eq]
    rw [if_neg (by omega), show i64 (0 - 0) = 0 from by rw [i64_id (by omega)]; rfl, i64_id (by omega)]
    split
    · rw [need_pos (by omega), need_pos (by simp)]; simp
    · rfl
  rw [hg, bnd1_mk]
  have loop2 : ∀ (m i n : Nat) (s : List Vl), i + m = a.length → m < n → s ++ (a.drop i).flatten = a.flatten → m_slices_Concat_L_api_Value_api_Value_L4 a (fun x => some x) n s (i : Int) = some a.flatten := by
    intro m
    induction m with
    | zero =>
      intro i n s hi hn hs
      obtain ⟨n, rfl⟩ : ∃ j, n = j + 1 := ⟨n - 1, by omega⟩
      rw [List.drop_eq_nil_of_le (by omega)] at hs
      rw [m_slices_Concat_L_api_Value_api_Value_L4, m_slices_Concat_L_api_Value_api_Value_B4, if_neg (by omega)]
      simp at hs
      rw [hs]
    | succ m ih =>
      intro i n s hi hn hs
      obtain ⟨n, rfl⟩ : ∃ j, n = j + 1 := ⟨n - 1, by omega⟩
      have hil : i < a.length := by omega
      rw [List.drop_eq_getElem_cons hil, List.flatten_cons, ← List.append_assoc] at hs
      have hsl := congrArg List.length hs
      rw [List.length_append, List.length_append] at hsl
      rw [m_slices_Concat_L_api_Value_api_Value_L4, m_slices_Concat_L_api_Value_api_Value_B4, if_pos (by omega), need_pos (by omega), gi_nat hil, need_pos (by omega), i64_succ (by omega)]
      exact ih (i + 1) n _ (by omega) (by omega) hs
  have h2 := loop2 a.length 0 FU [] (by omega) (by omega) (by simp)
  rw [Int.natCast_zero] at h2
  exact h2

noncomputable def dots (v : Vl) : Int × List Vl × Bool := if kindW v = 7 then (numW (gi (prtW v) 0), (prtW v).drop 1, true) else (0, [], false)
theorem dot_parts {v : Vl} (h : kindW v = 7) : 1 ≤ (prtW v).length ∧ (prtW v).length ≤ 9 := by
  have hv := kind_vd (v := v) (by omega)
  have hk := kind_g0 (v := v) (by omega)
  unfold prtW; rw [if_pos (vldB_iff.2 hv)]
  obtain ⟨hv, _⟩ := hv
  cases hv with
  | int k b hb => simp [gi_0] at hk; omega
  | bool k b hb => simp [gi_0] at hk; omega
  | name k a b => simp [gi_0] at hk; omega
  | comp k c x y ps hc hn hp hf =>
    have : c = 7 := u8_inj (by rw [gi_0] at hk; rw [show (7 : UInt8).toNat = 7 from rfl]; omega)
    subst this
    rw [prt_comp hc hn (fun p hp' => (hp p hp').sh) (by omega)]
    simp only [formedB] at hf
    simp at hf
    omega
theorem vSplit (v : Vl) : m_dataspace_split v = some (dots v) := by
  unfold m_dataspace_split dots
  rw [vKind, bnd1_mk]
  by_cases h : kindW v = 7
  · have hl := dot_parts h
    rw [if_neg (by simpa using h), if_pos h, vPartsW, bnd1_mk, need_pos (by omega), vNum, bnd1_mk, need_pos (by omega)]; rfl
  · rw [if_pos h, if_neg h]
end Go.Proofs.YtjlbdhicabgliaaGreat
/- Valid lists; what is missing; choices; complete values; events. -/
namespace Go.Proofs.YtjlbdhicabgliaaGreat
attribute [local irreducible] FU

noncomputable def okD (d : Vl) : Bool := decide (d = [] ∨ kindW d = 5)
noncomputable def okI (x : Inf) : Bool := decide (-1 ≤ x.2.1) && (decide (x.2.2.2.length ≤ 8) && x.2.2.2.all okD)
noncomputable def validB (l : List Inf) : Bool := l.all okI && decide (l.length ≤ 65536)
theorem valid_in (a0 : List Inf) (p : Int) (k : Unit → Option Bool) (ds : List Vl) (hds : (gi a0 p).2.2.2 = ds) (h8 : ds.length ≤ 8) : ∀ (m i n : Nat), i + m = ds.length → m < n → m_dataspace_Valid_L14 a0 p k n i = if (ds.drop i).all okD then k () else some false := by
  intro m
  induction m with
  | zero =>
    intro i n hi hn
    obtain ⟨n, rfl⟩ : ∃ q, n = q + 1 := ⟨n - 1, by omega⟩
    rw [m_dataspace_Valid_L14, m_dataspace_Valid_B14, hds, if_neg (by omega), List.drop_eq_nil_of_le (by omega)]; rfl
  | succ m ih =>
    intro i n hi hn
    obtain ⟨n, rfl⟩ : ∃ q, n = q + 1 := ⟨n - 1, by omega⟩
    have hil : i < ds.length := by omega
    rw [m_dataspace_Valid_L14, m_dataspace_Valid_B14, hds, if_pos (by omega), need_pos (by omega)]
    simp only [jn_eq]
    rw [gi_nat hil, List.drop_eq_getElem_cons hil, List.all_cons, i64_succ (by omega), ih (i + 1) n (by omega) (by omega)]
    by_cases h0 : ds[i] = []
    · rw [if_neg (by simpa using h0), if_neg Bool.false_ne_true]
      have : okD ds[i] = true := decide_eq_true (.inl h0)
      rw [this, Bool.true_and]
    · rw [if_pos h0, vKind, bnd1_mk]
      by_cases h5 : kindW ds[i] = 5
      · have : okD ds[i] = true := decide_eq_true (.inr h5)
        rw [this, Bool.true_and, if_neg (by simpa using h5)]
      · have : okD ds[i] = false := decide_eq_false (fun h => h.elim h0 h5)
        rw [this, Bool.false_and, if_pos (by simpa using h5)]; rfl
theorem vValidL (l : List Inf) (hl : l.length ≤ 9223372036854775807) : m_dataspace_Valid l = some (validB l) := by
  have hFU := FU_ge
  unfold m_dataspace_Valid
  rw [jn_eq]
  have loop : ∀ (K : Unit → Option Bool) (m i n : Nat), i + m = l.length → m < n → m_dataspace_Valid_L8 l K n i = if (l.drop i).all okI then K () else some false := by
    intro K m
    induction m with
    | zero =>
      intro i n hi hn
      obtain ⟨n, rfl⟩ : ∃ q, n = q + 1 := ⟨n - 1, by omega⟩
      rw [m_dataspace_Valid_L8, m_dataspace_Valid_B8, if_neg (by omega), List.drop_eq_nil_of_le (by omega)]; rfl
    | succ m ih =>
      intro i n hi hn
      obtain ⟨n, rfl⟩ : ∃ q, n = q + 1 := ⟨n - 1, by omega⟩
      have hil : i < l.length := by omega
      rw [m_dataspace_Valid_L8, m_dataspace_Valid_B8, if_pos (by omega)]
      simp only [jn_eq]
      rw [need_pos (by omega), gi_nat hil, List.drop_eq_getElem_cons hil, List.all_cons]
      by_cases h1 : (l[i]).2.1 < -1
      · have : okI l[i] = false := by unfold okI; rw [decide_eq_false (by omega), Bool.false_and]
        rw [if_pos h1, if_pos trivial, this]; rfl
      · rw [if_neg h1]
        by_cases h2 : (8 : Int) < (l[i]).2.2.2.length
        · have : okI l[i] = false := by unfold okI; rw [decide_eq_false (p := (l[i]).2.2.2.length ≤ 8) (by omega), Bool.false_and, Bool.and_false]
          rw [if_pos (decide_eq_true h2), this]; rfl
        · rw [if_neg (fun h => h2 (of_decide_eq_true h))]
          have e := valid_in l i (fun _ => m_dataspace_Valid_L8 l K n (i64 ((i : Int) + 1))) (l[i]).2.2.2 (by rw [gi_nat hil]) (by omega) (l[i]).2.2.2.length 0 FU (by omega) (by omega)
          rw [Int.natCast_zero, List.drop_zero] at e
          rw [e, i64_succ (by omega), ih (i + 1) n (by omega) (by omega)]
          have : okI l[i] = (l[i]).2.2.2.all okD := by unfold okI; rw [decide_eq_true (by omega), decide_eq_true (p := (l[i]).2.2.2.length ≤ 8) (by omega), Bool.true_and, Bool.true_and]
          rw [this]
          cases (l[i]).2.2.2.all okD <;> rfl
  have := loop (fun _ => some (decide ((List.length l : Int) ≤ 65536))) l.length 0 FU (by omega) (by omega)
  rw [Int.natCast_zero, List.drop_zero] at this
  rw [this]
  unfold validB
  cases l.all okI
  · rfl
  · rw [if_pos rfl, Bool.true_and]; congr 1; exact decide_eq_decide.2 (by omega)
theorem vMissing {l : List Inf} {v : Vl} {n : Nat} {f : List Vl} {b : Bool} (hd : dots v = ((n : Int), f, b)) (hn : n < l.length) (hf : f.length ≤ (l[n]).2.2.2.length) : m_dataspace_missing l v = some ((l[n]).2.2.2.drop f.length) := by
  unfold m_dataspace_missing
  rw [vSplit, bnd1_mk, hd]
  simp only []
  rw [need_pos (by omega), gi_nat hn, need_pos (by omega), Int.toNat_natCast]
theorem vUnb {l : List Inf} {v : Vl} {n : Nat} {f : List Vl} {b : Bool} (hd : dots v = ((n : Int), f, b)) (hn : n < l.length) (hf : f.length ≤ (l[n]).2.2.2.length) (h8 : (l[n]).2.2.2.length ≤ 1000) : m_dataspace_unbounded l v = some (decide ([] ∈ (l[n]).2.2.2.drop f.length)) := by
  unfold m_dataspace_unbounded
  rw [vMissing hd hn hf, bnd1_mk, vContainsV _ _ (by rw [List.length_drop]; omega), bnd1_mk]
def chStep (out : List (List Vl)) (ps : List Vl) : List (List Vl) := out.flatMap (fun r => ps.map (fun v => r ++ [v]))
noncomputable def chGo : List Vl → List (List Vl) → List (List Vl) × Bool
  | [], out => (out, true)
  | d :: ds, out => if 4096 < out.length * (prtW d).length then ([], false) else chGo ds (chStep out (prtW d))
noncomputable def chW (ds : List Vl) : List (List Vl) × Bool := if ds.any (fun d => decide ((prtW d).length = 0)) then ([], true) else chGo ds [[]]
theorem chStep_len (out : List (List Vl)) (ps : List Vl) : (chStep out ps).length = out.length * ps.length := by
  induction out with
  | nil => simp [chStep]
  | cons r out ih => simp [chStep] at ih ⊢; rw [ih, Nat.add_mul]; omega
theorem ch_inner (rows : List (List Vl)) (ps : List Vl) (x : Nat) (hx : x < rows.length) (hr : (rows[x]).length ≤ 1000) (hp : ps.length ≤ 131072) (K : List (List Vl) → Option (List (List Vl) × Bool)) : ∀ (m i n : Nat) (out : List (List Vl)), i + m = ps.length → m < n → out.length + m ≤ 1000000 →
    m_dataspace_choices_L172 rows ps x K n out i = K (out ++ (ps.drop i).map (fun v => rows[x] ++ [v])) := by
  intro m
  induction m with
  | zero =>
    intro i n out hi hn ho
    obtain ⟨n, rfl⟩ : ∃ q, n = q + 1 := ⟨n - 1, by omega⟩
    rw [m_dataspace_choices_L172, m_dataspace_choices_B172, if_neg (by omega), List.drop_eq_nil_of_le (by omega)]; simp
  | succ m ih =>
    intro i n out hi hn ho
    obtain ⟨n, rfl⟩ : ∃ q, n = q + 1 := ⟨n - 1, by omega⟩
    have hil : i < ps.length := by omega
    rw [m_dataspace_choices_L172, m_dataspace_choices_B172, if_pos (by omega), need_pos (by omega), gi_nat hx, vClone _ (by omega), bnd1_mk, need_pos (by simp; omega), need_pos (by simp; omega), gi_nat hil, i64_succ (by omega), ih (i + 1) n _ (by omega) (by omega) (by simp; omega), List.drop_eq_getElem_cons hil, List.map_cons, List.append_assoc]
    rfl
theorem ch_mid (rows : List (List Vl)) (ps : List Vl) (hl : rows.length ≤ 4096) (hr : ∀ r ∈ rows, r.length ≤ 1000) (hp : rows.length * ps.length ≤ 4096) (hp' : ps.length ≤ 131072) (K : List (List Vl) → Option (List (List Vl) × Bool)) : ∀ (m i n : Nat) (out : List (List Vl)), i + m = rows.length → m < n → out.length + m * ps.length ≤ 4096 →
    m_dataspace_choices_L166 rows ps K n out i = K (out ++ chStep (rows.drop i) ps) := by
  have hFU := FU_ge
  intro m
  induction m with
  | zero =>
    intro i n out hi hn ho
    obtain ⟨n, rfl⟩ : ∃ q, n = q + 1 := ⟨n - 1, by omega⟩
    rw [m_dataspace_choices_L166, m_dataspace_choices_B166, if_neg (by omega), List.drop_eq_nil_of_le (by omega)]; simp [chStep]
  | succ m ih =>
    intro i n out hi hn ho
    obtain ⟨n, rfl⟩ : ∃ q, n = q + 1 := ⟨n - 1, by omega⟩
    have hil : i < rows.length := by omega
    rw [Nat.add_mul] at ho
    rw [m_dataspace_choices_L166, m_dataspace_choices_B166, if_pos (by omega)]
    simp only [jn_eq]
    have e := ch_inner rows ps i hil (hr _ (List.getElem_mem hil)) hp' (fun x10_j3419 => m_dataspace_choices_L166 rows ps K n x10_j3419 (i64 ((i : Int) + 1))) ps.length 0 FU out (by omega) (by omega) (by omega)
    rw [Int.natCast_zero, List.drop_zero] at e
    rw [need_pos (by omega), e, i64_succ (by omega), ih (i + 1) n _ (by omega) (by omega) (by simp; omega), List.drop_eq_getElem_cons hil, List.append_assoc]
    rfl
theorem chStep_row {out : List (List Vl)} {ps : List Vl} {k : Nat} (h : ∀ r ∈ out, r.length = k) : ∀ r ∈ chStep out ps, r.length = k + 1 := fun r hr => by
  obtain ⟨q, hq, hr⟩ := List.mem_flatMap.1 hr
  obtain ⟨v, _, rfl⟩ := List.mem_map.1 hr
  simp [h q hq]
theorem vChoices (ds : List Vl) (hl : ds.length ≤ 1000) : m_dataspace_choices ds = some (chW ds) := by
  have hFU := FU_ge
  unfold m_dataspace_choices chW
  rw [jn_eq]
  have loop1 : ∀ (K : Unit → Option (List (List Vl) × Bool)) (m i n : Nat), i + m = ds.length → m < n → m_dataspace_choices_L2 ds K n i = if (ds.drop i).any (fun d => decide ((prtW d).length = 0)) then some ([], true) else K () := by
    intro K m
    induction m with
    | zero =>
      intro i n hi hn
      obtain ⟨n, rfl⟩ : ∃ q, n = q + 1 := ⟨n - 1, by omega⟩
      rw [m_dataspace_choices_L2, m_dataspace_choices_B2, if_neg (by omega), List.drop_eq_nil_of_le (by omega)]; rfl
    | succ m ih =>
      intro i n hi hn
      obtain ⟨n, rfl⟩ : ∃ q, n = q + 1 := ⟨n - 1, by omega⟩
      have hil : i < ds.length := by omega
      rw [m_dataspace_choices_L2, m_dataspace_choices_B2, if_pos (by omega), need_pos (by omega), gi_nat hil, vPartsW, bnd1_mk, List.drop_eq_getElem_cons hil, List.any_cons]
      by_cases h : (prtW ds[i]).length = 0
      · rw [if_pos (by omega), decide_eq_true h]; rfl
      · rw [if_neg (by omega), decide_eq_false h, i64_succ (by omega), ih (i + 1) n (by omega) (by omega), Bool.false_or]
  have loop2 : ∀ (m i n : Nat) (out : List (List Vl)), i + m = ds.length → m < n → out.length ≤ 4096 → (∀ r ∈ out, r.length = i) → m_dataspace_choices_L88 ds (fun x => some (x, true)) n out i = some (chGo (ds.drop i) out) := by
    intro m
    induction m with
    | zero =>
      intro i n out hi hn ho hr
      obtain ⟨n, rfl⟩ : ∃ q, n = q + 1 := ⟨n - 1, by omega⟩
      rw [m_dataspace_choices_L88, m_dataspace_choices_B88, if_neg (by omega), List.drop_eq_nil_of_le (by omega)]; rfl
    | succ m ih =>
      intro i n out hi hn ho hr
      obtain ⟨n, rfl⟩ : ∃ q, n = q + 1 := ⟨n - 1, by omega⟩
      have hil : i < ds.length := by omega
      have hpl := (prtW_spec ds[i]).2.1
      have hm : out.length * (prtW ds[i]).length ≤ 4096 * 65535 := Nat.mul_le_mul ho hpl
      rw [m_dataspace_choices_L88, m_dataspace_choices_B88, if_pos (by omega)]
      simp only [jn_eq]
      have e : i64 ((out.length : Int) * ((prtW ds[i]).length : Int)) = ((out.length * (prtW ds[i]).length : Nat) : Int) := by rw [← Int.natCast_mul, i64_id (by omega)]
      rw [need_pos (by omega), gi_nat hil, vPartsW, bnd1_mk, e, List.drop_eq_getElem_cons hil, chGo]
      by_cases h : 4096 < out.length * (prtW ds[i]).length
      · rw [if_pos (by omega), if_pos h]
      · rw [if_neg (by omega), if_neg h]
        have e2 := ch_mid out (prtW ds[i]) ho (fun r hr' => by rw [hr r hr']; omega) (by omega) (by omega) (fun x => m_dataspace_choices_L88 ds (fun x => some (x, true)) n x (i64 ((i : Int) + 1))) out.length 0 FU [] (by omega) (by omega) (by simp; omega)
        rw [Int.natCast_zero, List.drop_zero, List.nil_append] at e2
        rw [e2, i64_succ (by omega), ih (i + 1) n _ (by omega) (by omega) (by rw [chStep_len]; omega) (chStep_row hr)]
  have h1 := loop1 (fun _ => jn (fun x6_j15 => some (x6_j15, true)) (fun k15 => m_dataspace_choices_L88 ds k15 FU ([[]]) 0)) ds.length 0 FU (by omega) (by omega)
  rw [Int.natCast_zero, List.drop_zero] at h1
  rw [h1]
  split
  · rfl
  · rw [jn_eq]
    have h2 := loop2 ds.length 0 FU [[]] (by omega) (by omega) (by simp) (by simp)
    rw [Int.natCast_zero, List.drop_zero] at h2
    exact h2
end Go.Proofs.YtjlbdhicabgliaaGreat
/- Complete values and events: what the program's functions come to. -/
namespace Go.Proofs.YtjlbdhicabgliaaGreat
attribute [local irreducible] FU

noncomputable abbrev dotW (n : Nat) (f : List Vl) : Vl := cmpd 7 (nameW (n : Int) :: f)
noncomputable def comW (n : Nat) (f : List Vl) (rows : List (List Vl)) : List Vl × Int := if rows.any (fun r => decide (dotW n (f ++ r) = [])) then ([], 9) else (rows.map (fun r => dotW n (f ++ r)), 0)
theorem com_loop (n : Nat) (hn : n ≤ 65535) (f : List Vl) (hf : f.length ≤ 1000) (hfx : ∀ x ∈ f, x.length ≤ 1099511627776) (rows : List (List Vl)) (ok : Bool) (hr : ∀ r ∈ rows, r.length ≤ 1000 ∧ ∀ x ∈ r, x.length ≤ 1099511627776) (hl : rows.length ≤ 1000000) (b : Bool) :
    ∀ (m i g : Nat) (out : List Vl), i + m = rows.length → m < g → out.length + m ≤ 2000000 → m_dataspace_complete_L2 (rows, ok) ((n : Int), f, b) (fun x => some (x, 0)) g out i = some (if (rows.drop i).any (fun r => decide (dotW n (f ++ r) = [])) then ([], 9) else (out ++ (rows.drop i).map (fun r => dotW n (f ++ r)), 0)) := by
  intro m
  induction m with
  | zero =>
    intro i g out hi hg ho
    obtain ⟨g, rfl⟩ : ∃ q, g = q + 1 := ⟨g - 1, by omega⟩
    rw [m_dataspace_complete_L2, m_dataspace_complete_B2, if_neg (by simp only []; omega), List.drop_eq_nil_of_le (by omega)]; simp
  | succ m ih =>
    intro i g out hi hg ho
    obtain ⟨g, rfl⟩ : ∃ q, g = q + 1 := ⟨g - 1, by omega⟩
    have hil : i < rows.length := by omega
    obtain ⟨r1, r2⟩ := hr _ (List.getElem_mem hil)
    rw [m_dataspace_complete_L2, m_dataspace_complete_B2, if_pos (by simp only []; omega)]
    simp only []
    rw [need_pos (by omega), gi_nat hil, pConcat _ (by simp) (by simp; omega), bnd1_mk, show [f, rows[i]].flatten = f ++ rows[i] by simp,
      pDot (by omega) (by omega) _ (by simp; omega) (fun x hx => (List.mem_append.1 hx).elim (hfx x) (r2 x)), bnd1_mk, List.drop_eq_getElem_cons hil, List.any_cons, List.map_cons]
    by_cases h : dotW n (f ++ rows[i]) = []
    · rw [if_pos h, decide_eq_true h]; rfl
    · rw [if_neg h, decide_eq_false h, need_pos (by simp; omega), i64_succ (by omega), ih (i + 1) g _ (by omega) (by omega) (by simp; omega), Bool.false_or, List.append_assoc]; rfl
theorem chGo_bound : ∀ (ds : List Vl) (out : List (List Vl)) (k : Nat), out.length ≤ 4096 → (∀ r ∈ out, r.length = k ∧ ∀ x ∈ r, x.length ≤ 131072) → (chGo ds out).1.length ≤ 4096 ∧ ∀ r ∈ (chGo ds out).1, r.length = k + ds.length ∧ ∀ x ∈ r, x.length ≤ 131072
  | [], out, k, h1, h2 => ⟨h1, h2⟩
  | d :: ds, out, k, h1, h2 => by
    rw [chGo]
    split
    · exact ⟨by simp, by simp⟩
    · have := chGo_bound ds (chStep out (prtW d)) (k + 1) (by rw [chStep_len]; omega) (fun r hr => by
        obtain ⟨q, hq, hr⟩ := List.mem_flatMap.1 hr
        obtain ⟨v, hv, rfl⟩ := List.mem_map.1 hr
        refine ⟨by simp [(h2 q hq).1], fun x hx => ?_⟩
        rcases List.mem_append.1 hx with hx | hx
        · exact (h2 q hq).2 x hx
        · rw [List.mem_singleton] at hx; subst hx; exact ((prtW_spec d).1 x hv).2)
      refine ⟨this.1, fun r hr => ?_⟩
      have h := this.2 r hr
      rw [List.length_cons]; exact ⟨by omega, h.2⟩
theorem chW_bound (ds : List Vl) : (chW ds).1.length ≤ 4096 ∧ ∀ r ∈ (chW ds).1, r.length = ds.length ∧ ∀ x ∈ r, x.length ≤ 131072 := by
  unfold chW
  split
  · exact ⟨by simp, by simp⟩
  · have := chGo_bound ds [[]] 0 (by simp) (by simp)
    simpa using this
noncomputable def complW (l : List Inf) (n : Nat) (f : List Vl) : List Vl × Int :=
  let c := chW ((gi l (n : Int)).2.2.2.drop f.length)
  if c.2 = true then comW n f c.1 else ([], 9)
theorem vComplete {l : List Inf} {v : Vl} {n : Nat} {f : List Vl} {b : Bool} (hd : dots v = ((n : Int), f, b)) (hn : n < l.length) (hn' : n ≤ 65535) (hf : f.length ≤ (l[n]).2.2.2.length) (h8 : (l[n]).2.2.2.length ≤ 1000) (hfx : ∀ x ∈ f, x.length ≤ 1099511627776) : m_dataspace_complete l v = some (complW l n f) := by
  have hFU := FU_ge
  unfold m_dataspace_complete complW
  have hb := chW_bound ((l[n]).2.2.2.drop f.length)
  rw [vMissing hd hn hf, bnd1_mk, vChoices _ (by rw [List.length_drop]; omega), bnd1_mk, gi_nat hn]
  generalize chW ((l[n]).2.2.2.drop f.length) = c at hb
  obtain ⟨rows, ok⟩ := c
  simp only [] at hb ⊢
  cases ok with
  | false => rfl
  | true =>
    rw [if_neg (by simp), if_pos rfl, vSplit, bnd1_mk, hd]
    simp only [jn_eq]
    have := com_loop n hn' f (by omega) hfx rows true (fun r hr => ⟨by have := (hb.2 r hr).1; rw [List.length_drop] at this; omega, fun x hx => by have := (hb.2 r hr).2 x hx; omega⟩) (by omega) b rows.length 0 FU [] (by omega) (by omega) (by simp; omega)
    rw [Int.natCast_zero, List.drop_zero] at this
    rw [this]; rfl
end Go.Proofs.YtjlbdhicabgliaaGreat
/- Events. -/
namespace Go.Proofs.YtjlbdhicabgliaaGreat
attribute [local irreducible] FU

theorem kind_nameW (k : Int) : kindW (nameW k) = 10 := by
  have hV : Vd (nameW k) := ⟨(nameW_IsV k 0).le (by omega), by simp [nameW]⟩
  unfold kindW; rw [if_pos (vldB_iff.2 hV)]; rfl
theorem num_nameW {k : Nat} (h1 : k ≤ 65535) : numW (nameW k) = k := by
  unfold numW
  rw [kind_nameW, if_neg (by omega), if_neg (by omega), if_pos rfl, show gi (nameW (k : Int)) 1 = u8i ((k : Int) / 256) from rfl, show gi (nameW (k : Int)) 2 = u8i (k : Int) from rfl]
  have e : ((k : Int) / 256) = ((k / 256 : Nat) : Int) := by omega
  rw [e, u8i_nat, u8i_nat]
  omega
theorem raw7_kind {l : List Vl} (h : Vd (raw 7 l)) : kindW (raw 7 l) = 7 := by
  unfold kindW; rw [if_pos (vldB_iff.2 h)]; rfl
theorem dots_dot {n : Nat} (hn : n ≤ 65535) {f : List Vl} (h : dotW n f ≠ []) : dots (dotW n f) = ((n : Int), f, true) := by
  have hh := cmpd_ne.1 h
  have e : dotW n f = raw 7 (nameW n :: f) := cmpd_yes hh
  unfold dots
  rw [e, raw7_kind hh.2.2, if_pos rfl]
  have hp : prtW (raw 7 (nameW n :: f)) = nameW n :: f := by
    unfold prtW; rw [if_pos (vldB_iff.2 hh.2.2)]
    exact prt_raw (by decide) hh.1 hh.2.1
  rw [hp, show gi (nameW (n : Int) :: f) 0 = nameW n from rfl, num_nameW hn]; rfl
theorem dot0_ne (n : Nat) : dotW n [] ≠ [] := by
  refine cmpd_ne.2 ⟨by simp, fun x hx => ?_, ?_, ?_⟩
  · rw [List.mem_singleton] at hx; subst hx; exact ⟨(nameW_IsV n 0).le (by omega), by simp [nameW]⟩
  · exact .comp 31 7 _ _ [nameW n] (by decide) (raw_count (by simp)) (fun p hp => by rw [List.mem_singleton] at hp; subst hp; exact (nameW_IsV n 0).le (by omega)) (by simp [formedB, gi2_00, nameW])
  · simp [raw, nameW]
noncomputable def evGo (l : List Inf) : List Inf → Nat → List Vl → List Vl × Int
  | [], _, out => (out, 0)
  | x :: xs, i, out => if x.2.1 = -1 then (if (complW l i []).2 = 0 then (if 1024 < (out ++ (complW l i []).1).length then ([], 9) else evGo l xs (i + 1) (out ++ (complW l i []).1)) else ([], (complW l i []).2)) else evGo l xs (i + 1) out
noncomputable def evW (l : List Inf) : List Vl × Int := if validB l then (if l.any (fun x => decide (x.2.1 = -1) && decide ([] ∈ x.2.2.2)) then ([], 17) else evGo l l 0 []) else ([], 1)
theorem compl_len (l : List Inf) (n : Nat) (f : List Vl) : (complW l n f).1.length ≤ 4096 := by
  unfold complW
  have hb := chW_bound ((gi l (n : Int)).2.2.2.drop f.length)
  simp only []
  split
  · unfold comW
    split
    · simp
    · simpa using hb.1
  · simp
theorem vEvents (l : List Inf) (hl : l.length ≤ 9223372036854775807) : m_dataspace_Events l = some (evW l) := by
  have hFU := FU_ge
  unfold m_dataspace_Events evW
  rw [vValidL l hl, bnd1_mk]
  cases hv : validB l with
  | false => rfl
  | true =>
    rw [if_neg (by simp), if_pos rfl, jn_eq]
    have hv' := hv
    unfold validB at hv'
    simp only [Bool.and_eq_true, decide_eq_true_eq, List.all_eq_true] at hv'
    obtain ⟨hI, hL⟩ := hv'
    have h8 : ∀ (i : Nat) (h : i < l.length), (l[i]).2.2.2.length ≤ 8 := fun i h => by
      have := hI _ (List.getElem_mem h)
      unfold okI at this
      simp only [Bool.and_eq_true, decide_eq_true_eq] at this
      exact this.2.1
    have loop1 : ∀ (K : Unit → Option (List Vl × Int)) (m i n : Nat), i + m = l.length → m < n → m_dataspace_Events_L2 l K n i = if (l.drop i).any (fun x => decide (x.2.1 = -1) && decide ([] ∈ x.2.2.2)) then some ([], 17) else K () := by
      intro K m
      induction m with
      | zero =>
        intro i n hi hn
        obtain ⟨n, rfl⟩ : ∃ q, n = q + 1 := ⟨n - 1, by omega⟩
        rw [m_dataspace_Events_L2, m_dataspace_Events_B2, if_neg (by omega), List.drop_eq_nil_of_le (by omega)]; rfl
      | succ m ih =>
        intro i n hi hn
        obtain ⟨n, rfl⟩ : ∃ q, n = q + 1 := ⟨n - 1, by omega⟩
        have hil : i < l.length := by omega
        rw [m_dataspace_Events_L2, m_dataspace_Events_B2, if_pos (by omega), need_pos (by omega)]
        simp only [jn_eq]
        rw [gi_nat hil, List.drop_eq_getElem_cons hil, List.any_cons, i64_succ (by omega), ih (i + 1) n (by omega) (by omega)]
        by_cases h : (l[i]).2.1 = -1
        · have hd := dots_dot (n := i) (by omega) (dot0_ne i)
          rw [if_pos h, decide_eq_true h, pDot (by omega) (by omega) _ (by simp) (by simp), bnd1_mk, vUnb hd hil (by simp) (by have := h8 i hil; omega), bnd1_mk, List.length_nil, List.drop_zero, Bool.true_and]
          cases decide ([] ∈ (l[i]).2.2.2) <;> rfl
        · rw [if_neg h, decide_eq_false h, if_neg Bool.false_ne_true, Bool.false_and, Bool.false_or]
    have loop2 : ∀ (m i n : Nat) (out : List Vl), i + m = l.length → m < n → out.length ≤ 1024 → m_dataspace_Events_L4 l (fun x => bnd1 (m_slices_Clip_L_api_Value_api_Value x) (fun y => some (y, 0))) n out i = some (evGo l (l.drop i) i out) := by
      intro m
      induction m with
      | zero =>
        intro i n out hi hn ho
        obtain ⟨n, rfl⟩ : ∃ q, n = q + 1 := ⟨n - 1, by omega⟩
        rw [m_dataspace_Events_L4, m_dataspace_Events_B4, if_neg (by omega), List.drop_eq_nil_of_le (by omega), vClip, bnd1_mk]; rfl
      | succ m ih =>
        intro i n out hi hn ho
        obtain ⟨n, rfl⟩ : ∃ q, n = q + 1 := ⟨n - 1, by omega⟩
        have hil : i < l.length := by omega
        rw [m_dataspace_Events_L4, m_dataspace_Events_B4, if_pos (by omega)]
        simp only [jn_eq]
        rw [need_pos (by omega), gi_nat hil, List.drop_eq_getElem_cons hil, evGo, i64_succ (by omega)]
        by_cases h : (l[i]).2.1 = -1
        · have hd := dots_dot (n := i) (by omega) (dot0_ne i)
          have hcl := compl_len l i []
          rw [if_neg (fun h' => h' h), if_pos h, pDot (by omega) (by omega) _ (by simp) (by simp), bnd1_mk, vComplete hd hil (by omega) (by simp) (by have := h8 i hil; omega) (by simp), bnd1_mk]
          by_cases h0 : (complW l i []).2 = 0
          · rw [if_neg (fun h' => h' h0), if_pos h0, need_pos (by omega)]
            by_cases h3 : 1024 < (out ++ (complW l i []).1).length
            · rw [if_pos (by omega), if_pos h3]
            · rw [if_neg (by omega), if_neg h3, ih (i + 1) n _ (by omega) (by omega) (by omega)]
          · rw [if_pos h0, if_neg h0]
        · rw [if_pos h, if_neg h, ih (i + 1) n _ (by omega) (by omega) ho]
    have h1 := loop1 (fun _ => jn (fun x6_j94 => bnd1 (m_slices_Clip_L_api_Value_api_Value x6_j94) (fun y174 => some (y174, 0))) (fun k94 => m_dataspace_Events_L4 l k94 FU [] 0)) l.length 0 FU (by omega) (by omega)
    rw [Int.natCast_zero, List.drop_zero] at h1
    rw [h1]
    split
    · rfl
    · rw [jn_eq]
      have h2 := loop2 l.length 0 FU [] (by omega) (by omega) (by simp)
      rw [Int.natCast_zero, List.drop_zero] at h2
      exact h2
end Go.Proofs.YtjlbdhicabgliaaGreat
/- What belongs to a list; complete values. -/
namespace Go.Proofs.YtjlbdhicabgliaaGreat
attribute [local irreducible] FU

noncomputable def inB (d x : Vl) : Bool := decide (d = [] ∨ x ∈ prtW d)
noncomputable def allIn : List Vl → List Vl → Bool
  | f :: fs, d :: ds => inB d f && allIn fs ds
  | _, _ => true
theorem dots_num (v : Vl) : 0 ≤ (dots v).1 ∧ (dots v).1 ≤ 65535 := by
  unfold dots
  split
  · rename_i h
    have hv := kind_vd (v := v) (by omega)
    have hk := kind_g0 (v := v) (by omega)
    simp only []
    unfold prtW; rw [if_pos (vldB_iff.2 hv)]
    obtain ⟨hv, _⟩ := hv
    cases hv with
    | int k b hb => simp [gi_0] at hk; omega
    | bool k b hb => simp [gi_0] at hk; omega
    | name k a b => simp [gi_0] at hk; omega
    | comp k c x y ps hc hn hp hf =>
      have : c = 7 := u8_inj (by rw [gi_0] at hk; rw [show (7 : UInt8).toNat = 7 from rfl]; omega)
      subst this
      rw [prt_comp hc hn (fun p hp' => (hp p hp').sh) (by omega)]
      simp only [formedB] at hf
      simp at hf
      obtain ⟨h1, _, h2⟩ := hf
      match ps, h1, h2, hp with
      | p :: ps, _, h2, hp =>
        have e : gi (p :: ps) 0 = p := rfl
        rw [e] at h2 ⊢
        have hp0 := hp p List.mem_cons_self
        have hkp : numW p = 0 ∨ kindW p = 10 := by
          by_cases hz : kindW p = 0
          · left; unfold numW; rw [if_neg (by omega), if_neg (by omega), if_neg (by omega)]
          · right; rw [kind_g0 hz, h2]; rfl
        rcases hkp with h | h
        · omega
        · unfold numW
          rw [if_neg (by omega), if_neg (by omega), if_pos h]
          have a1 := (gi p 1).toNat_lt
          have a2 := (gi p 2).toNat_lt
          omega
  · simp
noncomputable def belB (l : List Inf) (v : Vl) : Bool := (dots v).2.2 && (decide ((dots v).1 < l.length) && (decide ((dots v).2.1.length ≤ (gi l (dots v).1).2.2.2.length) && allIn (dots v).2.1 (gi l (dots v).1).2.2.2))
theorem bel_loop (l : List Inf) (y : Int × List Vl × Bool) (n : Nat) (hy : y.1 = n) (hn : n < l.length) (hf : y.2.1.length ≤ (l[n]).2.2.2.length) (h8 : y.2.1.length ≤ 1000) (K : Unit → Option Bool) : ∀ (m i g : Nat), i + m = y.2.1.length → m < g → m_dataspace_belongs_L2 l y K g i = if allIn (y.2.1.drop i) ((l[n]).2.2.2.drop i) then K () else some false := by
  intro m
  induction m with
  | zero =>
    intro i g hi hg
    obtain ⟨g, rfl⟩ : ∃ q, g = q + 1 := ⟨g - 1, by omega⟩
    rw [m_dataspace_belongs_L2, m_dataspace_belongs_B2, if_neg (by omega), List.drop_eq_nil_of_le (show y.2.1.length ≤ i by omega)]; simp [allIn]
  | succ m ih =>
    intro i g hi hg
    obtain ⟨g, rfl⟩ : ∃ q, g = q + 1 := ⟨g - 1, by omega⟩
    have hil : i < y.2.1.length := by omega
    have hid : i < (l[n]).2.2.2.length := by omega
    rw [m_dataspace_belongs_L2, m_dataspace_belongs_B2, if_pos (by omega), need_pos (by omega), hy, need_pos (by omega), gi_nat hn, need_pos (by omega)]
    simp only [jn_eq]
    rw [gi_nat hil, gi_nat hid, List.drop_eq_getElem_cons hil, List.drop_eq_getElem_cons hid, allIn, i64_succ (by omega), ih (i + 1) g (by omega) (by omega)]
    unfold inB
    by_cases h0 : (l[n]).2.2.2[i] = []
    · rw [if_neg (by simpa using h0), if_neg Bool.false_ne_true, decide_eq_true (.inl h0), Bool.true_and]
    · have hl := (prtW_spec (l[n]).2.2.2[i]).2.1
      rw [if_pos h0, vPartsW, bnd1_mk, vContainsV _ _ (by omega), bnd1_mk]
      by_cases hm : y.2.1[i] ∈ prtW (l[n]).2.2.2[i]
      · rw [decide_eq_true hm, decide_eq_true (.inr hm), if_neg (by simp), Bool.true_and]
      · rw [decide_eq_false hm, decide_eq_false (fun h => h.elim h0 hm), if_pos (by simp)]; rfl
theorem dots_len (v : Vl) : (dots v).2.1.length ≤ 8 := by
  unfold dots
  split
  · rename_i h
    have := dot_parts h
    simp; omega
  · simp
theorem vBelongs (l : List Inf) (v : Vl) : m_dataspace_belongs l v = some (belB l v) := by
  have hFU := FU_ge
  unfold m_dataspace_belongs belB
  rw [vSplit, bnd1_mk]
  have hd := dots_num v
  have hlen := dots_len v
  simp only [jn_eq]
  generalize dots v = y at hd hlen
  obtain ⟨k, f, ok⟩ := y
  simp only [] at hd hlen ⊢
  cases ok with
  | false => rfl
  | true =>
    rw [if_neg (by simp), Bool.true_and]
    by_cases hn : (l.length : Int) ≤ k
    · rw [if_pos hn, decide_eq_false (p := k < (l.length : Int)) (by omega)]; rfl
    · obtain ⟨n, rfl⟩ : ∃ n : Nat, k = n := ⟨k.toNat, by omega⟩
      have hnl : n < l.length := by omega
      rw [if_neg hn, need_pos (by omega), decide_eq_true (p := (n : Int) < (l.length : Int)) (by omega), Bool.true_and, gi_nat hnl]
      by_cases hf : ((l[n]).2.2.2.length : Int) < f.length
      · rw [if_pos (decide_eq_true hf), decide_eq_false (p := f.length ≤ (l[n]).2.2.2.length) (by omega)]; rfl
      · have e := bel_loop l ((n : Int), f, true) n rfl hnl (by simp only []; omega) (by simp only []; omega) (fun _ => some true) f.length 0 FU (by simp only []; omega) (by omega)
        rw [Int.natCast_zero, List.drop_zero, List.drop_zero] at e
        rw [if_neg (fun h => hf (of_decide_eq_true h)), decide_eq_true (p := f.length ≤ (l[n]).2.2.2.length) (by omega), Bool.true_and, e]
        cases allIn f (l[n]).2.2.2 <;> rfl
noncomputable def cplB (l : List Inf) (v : Vl) : Bool := validB l && (belB l v && decide ((dots v).2.1.length = (gi l (dots v).1).2.2.2.length))
theorem vCompleteB (l : List Inf) (v : Vl) (hl : l.length ≤ 9223372036854775807) : m_dataspace_Complete l v = some (cplB l v) := by
  unfold m_dataspace_Complete cplB
  simp only [jn_eq]
  rw [vValidL l hl, bnd1_mk]
  cases validB l with
  | false => rfl
  | true =>
    rw [if_pos rfl, vBelongs, bnd1_mk, Bool.true_and]
    cases hb : belB l v with
    | false => rfl
    | true =>
      rw [if_pos rfl, Bool.true_and]
      unfold belB at hb
      simp only [Bool.and_eq_true, decide_eq_true_eq] at hb
      have hd := dots_num v
      obtain ⟨n, hn⟩ : ∃ n : Nat, (dots v).1 = n := ⟨(dots v).1.toNat, by omega⟩
      obtain ⟨_, h1, h2, _⟩ := hb
      rw [hn] at h1 h2 ⊢
      have hnl : n < l.length := by omega
      rw [gi_nat hnl] at h2 ⊢
      rw [vMissing (f := (dots v).2.1) (b := (dots v).2.2) (by rw [← hn]) hnl h2, bnd1_mk]
      congr 1
      refine decide_eq_decide.2 ?_
      rw [List.length_drop]; omega
end Go.Proofs.YtjlbdhicabgliaaGreat
/- The lists that are drawn. -/
namespace Go.Proofs.YtjlbdhicabgliaaGreat
attribute [local irreducible] FU

def IntsOK (L : List Vl) : Prop := L.length ≤ 4 ∧ ∀ x ∈ L, ∃ k : Int, 0 ≤ k ∧ k < 6 ∧ x = intW k
def DomOK (d : Vl) : Prop := d = [] ∨ ∃ L, d = setW L ∧ IntsOK L
def InfOK (x : Inf) : Prop := -1 ≤ x.2.1 ∧ x.2.1 ≤ 1 ∧ x.2.2.2.length ≤ 3 ∧ ∀ d ∈ x.2.2.2, DomOK d
theorem names_in (K : List Int → Int → List Int → List Vl → Option (List Inf × (List Int × Int))) : ∀ (m n : Nat) (l : List Int) (i : Int) (xs : List Int) (ds : List Vl), m < n → GS l i → ds.length + m ≤ 3 → xs.length + m ≤ 3 → (∀ d ∈ ds, DomOK d) →
    ∃ i' xs' ds', m_law11_names_L26 K n l i xs ds m = K l i' xs' ds' ∧ GS l i' ∧ ds'.length ≤ 3 ∧ ∀ d ∈ ds', DomOK d := by
  intro m
  induction m with
  | zero =>
    intro n l i xs ds hn hg hl hx hd
    obtain ⟨n, rfl⟩ : ∃ q, n = q + 1 := ⟨n - 1, by omega⟩
    exact ⟨i, xs, ds, by rw [m_law11_names_L26, m_law11_names_B26, if_neg (by omega)], hg, by omega, hd⟩
  | succ m ih =>
    intro n l i xs ds hn hg hl hx hd
    obtain ⟨n, rfl⟩ : ∃ q, n = q + 1 := ⟨n - 1, by omega⟩
    obtain ⟨i1, L, e1, g1, hL⟩ := gInts hg
    obtain ⟨y, i2, e2, g2, y0, y1⟩ := gNext g1 (n := 12) (by omega) (by omega)
    have e3 : i64 (((m + 1 : Nat) : Int) - 1) = (m : Int) := by rw [i64_id (by omega)]; omega
    rw [m_law11_names_L26, m_law11_names_B26, if_pos (by omega), e1, bnd1_mk]
    simp only [jn_eq]
    rw [e2, bnd1_mk]
    simp only []
    have go : ∀ d, DomOK d → ∃ i' xs' ds', need (List.length ds + List.length [d] ≤ 137438953472) (need (List.length xs + List.length [(0 : Int)] ≤ 137438953472) (m_law11_names_L26 K n l i2 (xs ++ [0]) (ds ++ [d]) (i64 (((m + 1 : Nat) : Int) - 1)))) = K l i' xs' ds' ∧ GS l i' ∧ ds'.length ≤ 3 ∧ ∀ d ∈ ds', DomOK d := fun d hd' => by
      rw [need_pos (by simp; omega), need_pos (by simp; omega), e3]
      refine ih n l i2 _ _ (by omega) g2 (by simp; omega) (by simp; omega) (fun q hq => ?_)
      rcases List.mem_append.1 hq with hq | hq
      · exact hd q hq
      · rw [List.mem_singleton] at hq; subst hq; exact hd'
    split
    · exact go [] (.inl rfl)
    · exact go _ (.inr ⟨L, rfl, hL⟩)
theorem names_out : ∀ (m n : Nat) (k : Nat) (l : List Int) (i : Int) (out : List Inf), k + m = 4 → m < n → GS l i → out.length = k → (∀ x ∈ out, InfOK x) →
    ∃ i' out', m_law11_names_L14 (fun a b c => some (c, (a, b))) n l i out k = some (out', (l, i')) ∧ GS l i' ∧ out'.length ≤ 4 ∧ max k 1 ≤ out'.length ∧ ∀ x ∈ out', InfOK x := by
  have hFU := FU_ge
  intro m
  induction m with
  | zero =>
    intro n k l i out hk hn hg ho hx
    obtain ⟨n, rfl⟩ : ∃ q, n = q + 1 := ⟨n - 1, by omega⟩
    obtain ⟨y, i1, e1, g1, y0, y1⟩ := gNext hg (n := 4) (by omega) (by omega)
    refine ⟨i1, out, ?_, g1, by omega, by omega, hx⟩
    rw [m_law11_names_L14, m_law11_names_B14, e1, bnd1_mk]
    simp only []
    rw [i64_id (by omega), if_neg (by omega)]
  | succ m ih =>
    intro n k l i out hk hn hg ho hx
    obtain ⟨n, rfl⟩ : ∃ q, n = q + 1 := ⟨n - 1, by omega⟩
    obtain ⟨y, i1, e1, g1, y0, y1⟩ := gNext hg (n := 4) (by omega) (by omega)
    rw [m_law11_names_L14, m_law11_names_B14, e1, bnd1_mk]
    simp only [jn_eq]
    rw [i64_id (x := 1 + y) (by omega)]
    by_cases hc : (k : Int) < 1 + y
    · obtain ⟨z, i2, e2, g2, z0, z1⟩ := gNext g1 (n := 3) (by omega) (by omega)
      obtain ⟨u, i3, e3, g3, u0, u1⟩ := gNext g2 (n := 4) (by omega) (by omega)
      obtain ⟨u, rfl⟩ : ∃ q : Nat, u = q := ⟨u.toNat, by omega⟩
      rw [if_pos hc, need_pos (by simp; omega), e2, bnd1_mk]
      simp only []
      rw [e3, bnd1_mk]
      simp only []
      obtain ⟨i4, xs, ds, e4, g4, h4, h5⟩ := names_in (fun x0_0_j1250 x0_1_j1250 x5_2_j1250 x5_3_j1250 => need (List.length out + List.length ([(gi ([[97], [75], [99], [76]] : List Vl) (k : Int), i64 (z - 1), x5_2_j1250, x5_3_j1250)]) ≤ 137438953472) (m_law11_names_L14 (fun a b c => some (c, (a, b))) n x0_0_j1250 x0_1_j1250 (out ++ ([(gi ([[97], [75], [99], [76]] : List Vl) (k : Int), i64 (z - 1), x5_2_j1250, x5_3_j1250)])) (i64 ((k : Int) + 1)))) u FU l i3 [] [] (by omega) g3 (by simp; omega) (by simp; omega) (by simp)
      obtain ⟨i', out', q1, q2, q3, q4, q5⟩ := ih n (k + 1) l i4 (out ++ ([(gi ([[97], [75], [99], [76]] : List Vl) (k : Int), i64 (z - 1), xs, ds)])) (by omega) (by omega) g4 (by simp; omega) (fun x h => by
        rcases List.mem_append.1 h with h | h
        · exact hx x h
        · rw [List.mem_singleton] at h; subst h
          exact ⟨by simp only []; rw [i64_id (by omega)]; omega, by simp only []; rw [i64_id (by omega)]; omega, h4, h5⟩)
      refine ⟨i', out', e4.trans ?_, q2, q3, by omega, q5⟩
      rw [need_pos (by simp; omega), i64_succ (by omega)]
      exact q1
    · rw [if_neg hc]
      exact ⟨i1, out, rfl, g1, by omega, by omega, hx⟩
theorem gNames1 {l : List Int} {i : Int} (h : GS l i) : ∃ i' L, m_law11_names (l, i) = some (L, (l, i')) ∧ GS l i' ∧ 1 ≤ L.length ∧ L.length ≤ 4 ∧ ∀ x ∈ L, InfOK x := by
  have hFU := FU_ge
  unfold m_law11_names
  rw [jn_eq]
  obtain ⟨i', out', q1, q2, q3, q4, q5⟩ := names_out 4 FU 0 l i [] (by omega) (by omega) h (by simp) (by simp)
  rw [Int.natCast_zero] at q1
  exact ⟨i', out', q1, q2, by omega, q3, q5⟩
end Go.Proofs.YtjlbdhicabgliaaGreat
/- The rows of choices: what they hold, how many, in ascending order. -/
namespace Go.Proofs.YtjlbdhicabgliaaGreat
attribute [local irreducible] FU

theorem chGo_mem : ∀ (ds : List Vl) (out : List (List Vl)) (r : List Vl), r ∈ (chGo ds out).1 → ∃ q ∈ out, ∃ t, r = q ++ t ∧ t.length = ds.length ∧ allIn t ds = true
  | [], out, r, h => ⟨r, h, [], by simp, rfl, rfl⟩
  | d :: ds, out, r, h => by
    rw [chGo] at h
    split at h
    · cases h
    · obtain ⟨q, hq, t, rfl, h2, h3⟩ := chGo_mem ds _ r h
      obtain ⟨q0, hq0, hq⟩ := List.mem_flatMap.1 hq
      obtain ⟨v, hv, rfl⟩ := List.mem_map.1 hq
      refine ⟨q0, hq0, v :: t, by simp, by simp [h2], ?_⟩
      rw [allIn, h3, Bool.and_true]
      exact decide_eq_true (.inr hv)
theorem chW_mem {ds : List Vl} {r : List Vl} (h : r ∈ (chW ds).1) : r.length = ds.length ∧ allIn r ds = true := by
  unfold chW at h
  split at h
  · cases h
  · obtain ⟨q, hq, t, rfl, h2, h3⟩ := chGo_mem ds _ r h
    rw [List.mem_singleton] at hq
    subst hq
    exact ⟨h2, h3⟩
def prodN (ds : List Vl) (f : Vl → Nat) : Nat := match ds with | [] => 1 | d :: ds => f d * prodN ds f
theorem chGo_len : ∀ (ds : List Vl) (out : List (List Vl)), (chGo ds out).2 = true → (chGo ds out).1.length = out.length * prodN ds (fun d => (prtW d).length)
  | [], out, _ => by simp [chGo, prodN]
  | d :: ds, out, h => by
    rw [chGo] at h ⊢
    split at h
    · cases h
    · rename_i hc
      rw [if_neg hc, chGo_len ds _ h, chStep_len, prodN, Nat.mul_assoc]
theorem chW_len {ds : List Vl} (h : (chW ds).2 = true) : (chW ds).1.length = prodN ds (fun d => (prtW d).length) := by
  unfold chW at h ⊢
  split
  · rename_i hz
    obtain ⟨d, hd, hz⟩ := List.any_eq_true.1 hz
    have hz := of_decide_eq_true hz
    have key : ∀ ds : List Vl, d ∈ ds → prodN ds (fun d => (prtW d).length) = 0 := by
      intro ds
      induction ds with
      | nil => intro hd; cases hd
      | cons e ds ih =>
        intro hd
        rw [prodN]
        rcases List.mem_cons.1 hd with rfl | hd
        · rw [hz, Nat.zero_mul]
        · rw [ih hd, Nat.mul_zero]
    rw [key ds hd]; rfl
  · rename_i hz
    rw [if_neg hz] at h
    have := chGo_len ds [[]] h
    simpa using this
end Go.Proofs.YtjlbdhicabgliaaGreat
/- The events: each complete, each once, in order, as many as there should be. -/
namespace Go.Proofs.YtjlbdhicabgliaaGreat
attribute [local irreducible] FU

theorem raw_inv {c : UInt8} {l : List Vl} (hc : 3 ≤ c.toNat ∧ c.toNat ≤ 9) (hl : l.length ≤ 65535) (hx : ∀ x ∈ l, Vd x) (h : Vd (raw c l)) : ∀ x ∈ l, IsV 31 x := by
  have hp := prt_raw hc hl hx
  obtain ⟨hv, _⟩ := h
  unfold raw at hv hp
  generalize u8i ((l.length / 256 : Nat) : Int) = a at hv hp
  generalize u8i ((l.length : Nat) : Int) = b at hv hp
  generalize hw : c :: a :: b :: l.flatten = w at hv hp
  cases hv with
  | int k q hb => injection hw with e; subst e; simp at hc
  | bool k q hb => injection hw with e; subst e; simp at hc
  | name k h l => injection hw with e; subst e; simp at hc
  | comp k c' h' l' ps hc' hn hps hf =>
    rw [prt_comp hc' hn (fun p hp' => (hps p hp').sh) (by omega)] at hp
    subst hp
    exact hps
theorem name_Vd (k : Int) : Vd (nameW k) := ⟨(nameW_IsV k 0).le (by omega), by simp [nameW]⟩
theorem compl_ok {l : List Inf} {n : Nat} (hn : n < l.length) (h : (complW l n []).2 = 0) : (chW (l[n]).2.2.2).2 = true ∧ (complW l n []).1 = (chW (l[n]).2.2.2).1.map (dotW n) ∧ ∀ r ∈ (chW (l[n]).2.2.2).1, dotW n r ≠ [] := by
  unfold complW at h ⊢
  rw [gi_nat hn, List.length_nil, List.drop_zero] at h ⊢
  simp only [] at h ⊢
  cases hc : (chW (l[n]).2.2.2).2 with
  | false => rw [hc] at h; simp at h
  | true =>
    rw [hc, if_pos rfl] at h
    rw [if_pos rfl]
    unfold comW at h ⊢
    simp only [List.nil_append] at h ⊢
    split at h
    · simp at h
    · rename_i ha
      rw [if_neg ha]
      refine ⟨trivial, rfl, fun r hr he => ha (List.any_eq_true.2 ⟨r, hr, decide_eq_true he⟩)⟩
theorem dom_ok {l : List Inf} (hv : validB l = true) {n : Nat} (hn : n < l.length) : (∀ d ∈ (l[n]).2.2.2, okD d = true) ∧ (l[n]).2.2.2.length ≤ 8 := by
  unfold validB at hv
  simp only [Bool.and_eq_true, List.all_eq_true] at hv
  have := hv.1 _ (List.getElem_mem hn)
  unfold okI at this
  simp only [Bool.and_eq_true, decide_eq_true_eq, List.all_eq_true] at this
  exact ⟨this.2.2, this.2.1⟩
end Go.Proofs.YtjlbdhicabgliaaGreat
/- The loops of the law on events. -/
namespace Go.Proofs.YtjlbdhicabgliaaGreat
attribute [local irreducible] FU

theorem dom_prt {d : Vl} (h : DomOK d) : (prtW d).length ≤ 4 := by
  rcases h with rfl | ⟨L, rfl, hL, hx⟩
  · unfold prtW; rw [vldB_no (fun hv => hv.ne rfl)]; simp
  · unfold setW prtW
    split
    · rename_i hv
      by_cases he : cmpd 5 (sortW L) = []
      · rw [he] at hv; exact absurd rfl ((vldB_iff.1 hv).ne)
      · have hh := cmpd_ne.1 he
        rw [cmpd_yes hh, prt_raw (by decide) hh.1 hh.2.1]
        have := (sortW_spec L).2.2
        omega
    · simp
end Go.Proofs.YtjlbdhicabgliaaGreat
/- The law DataspaceEventsOnce, but for the fixed example. -/
namespace Go.Proofs.YtjlbdhicabgliaaGreat
attribute [local irreducible] FU

end Go.Proofs.YtjlbdhicabgliaaGreat
/- Join; the fixed example. -/
namespace Go.Proofs.YtjlbdhicabgliaaGreat
attribute [local irreducible] FU

theorem dots_mem {v x : Vl} (h : x ∈ (dots v).2.1) : Vd x := by
  unfold dots at h
  split at h
  · exact (prtW_spec v).1 x (List.mem_of_mem_drop h)
  · cases h
noncomputable def joinW (l : List Inf) (a b : Vl) : Vl × Int :=
  if validB l = false then ([], 1) else if (dots a).2.2 = false ∨ vldB b = false then ([], 6) else if belB l a = false then ([], 18)
  else match (gi l (dots a).1).2.2.2.drop (dots a).2.1.length with
    | [] => ([], 6)
    | d :: _ => if inB d b = false then ([], 18) else if cmpd 7 (nameW (dots a).1 :: ((dots a).2.1 ++ [b])) = [] then ([], 9) else (cmpd 7 (nameW (dots a).1 :: ((dots a).2.1 ++ [b])), 0)
theorem vJoin (l : List Inf) (a b : Vl) (hl : l.length ≤ 9223372036854775807) : m_dataspace_Join l a b = some (joinW l a b) := by
  unfold m_dataspace_Join joinW
  have hd := dots_num a
  have hn := dots_len a
  rw [vSplit, bnd1_mk, vValidL l hl, bnd1_mk]
  cases hv : validB l with
  | false => rfl
  | true =>
    simp only [jn_eq]
    rw [if_neg (show ¬ (!true) = true by simp), if_neg (show ¬ true = false by simp)]
    cases ho : (dots a).2.2 with
    | false => rfl
    | true =>
      rw [if_neg (show ¬ (!true) = true by simp), vValid, bnd1_mk]
      cases hvb : vldB b with
      | false => rfl
      | true =>
        rw [if_neg (show ¬ (!true) = true by simp), if_neg (show ¬ (true = false ∨ true = false) by simp), vBelongs, bnd1_mk]
        cases hB : belB l a with
        | false => rfl
        | true =>
          rw [if_neg (show ¬ (!true) = true by simp), if_neg (show ¬ true = false by simp)]
          have hB' := hB
          unfold belB at hB'
          simp only [Bool.and_eq_true, decide_eq_true_eq] at hB'
          obtain ⟨n, hnn⟩ : ∃ n : Nat, (dots a).1 = n := ⟨(dots a).1.toNat, by omega⟩
          obtain ⟨_, h1, h2, _⟩ := hB'
          rw [hnn] at h1 h2 ⊢
          have hnl : n < l.length := by omega
          rw [gi_nat hnl] at h2 ⊢
          have hm := vMissing (l := l) (v := a) (n := n) (f := (dots a).2.1) (b := (dots a).2.2) (by rw [← hnn]) hnl h2
          rw [hm, bnd1_mk]
          generalize (l[n]).2.2.2.drop (dots a).2.1.length = ms at hm
          cases ms with
          | nil => rfl
          | cons d ms =>
            rw [if_neg (by simp; omega), bnd1_mk, need_pos (by simp), show gi (d :: ms) 0 = d from rfl]
            simp only []
            have hdot := pDot (k := (n : Int)) (by omega) (by omega) ((dots a).2.1 ++ [b]) (by simp; omega) (fun x hx => by
              rcases List.mem_append.1 hx with hx | hx
              · have := (dots_mem hx).2; omega
              · rw [List.mem_singleton] at hx; subst hx; have := (vldB_iff.1 hvb).2; omega)
            have go : bnd1 (m_slices_Clone_L_api_Value_api_Value (dots a).2.1) (fun y30 => need (List.length y30 + List.length [b] ≤ 137438953472) (bnd1 (m_value_Dot (n : Int) (y30 ++ [b])) (fun y34 => if y34 = ([] : List UInt8) then (some (([] : List UInt8), (9 : Int))) else (some (y34, 0))))) = some (if cmpd 7 (nameW (n : Int) :: ((dots a).2.1 ++ [b])) = [] then ([], 9) else (cmpd 7 (nameW (n : Int) :: ((dots a).2.1 ++ [b])), 0)) := by
              rw [vClone _ (by omega), bnd1_mk, need_pos (by simp; omega), hdot, bnd1_mk]
              split <;> rfl
            unfold inB
            by_cases h0 : d = []
            · rw [if_neg (by simpa using h0), if_neg Bool.false_ne_true, decide_eq_true (.inl h0), if_neg (by simp)]
              exact go
            · have hpl := (prtW_spec d).2.1
              rw [if_pos h0, vPartsW, bnd1_mk, vContainsV _ _ (by omega), bnd1_mk]
              by_cases hmm : b ∈ prtW d
              · rw [decide_eq_true hmm, decide_eq_true (.inr hmm), if_neg (by simp), if_neg (by simp)]
                exact go
              · rw [decide_eq_false hmm, decide_eq_false (fun h => h.elim h0 hmm), if_pos (by simp), if_pos rfl]
theorem dot_small {n : Nat} {r : List Vl} (h : ∀ x ∈ r, IsV 31 x ∧ x.length ≤ 9) (hl : r.length ≤ 8) : dotW n r ≠ [] := by
  have hfl : r.flatten.length ≤ 9 * r.length := flat_le (fun x hx => (h x hx).2)
  refine cmpd_ne.2 ⟨by simp; omega, fun x hx => ?_, ?_, ?_⟩
  · rcases List.mem_cons.1 hx with rfl | hx
    · exact name_Vd n
    · exact ⟨(h x hx).1.mono, by have := (h x hx).2; omega⟩
  · refine .comp 31 7 _ _ (nameW n :: r) (by decide) (raw_count (by simp; omega)) (fun p hp => ?_) ?_
    · rcases List.mem_cons.1 hp with rfl | hp
      · exact (nameW_IsV n 0).le (by omega)
      · exact (h p hp).1
    · simp [formedB, gi2_00, nameW]; omega
  · rw [raw_len, List.flatten_cons, List.length_append]; have : (nameW (n : Int)).length = 3 := rfl; omega
theorem awake11_true : m_law11_awake = some true := by
  have hZ := run_set (a := 0) (m := 2) (by omega) (by omega)
  have hR := rRange (a := 0) (b := 1) (by omega) (by omega)
  rw [if_neg (by omega), show ((1 : Int) - 0 + 1).toNat = 2 from rfl, hZ.1] at hR
  obtain ⟨_, z2, z3, z4, z5⟩ := hZ
  have hrun : runW 0 2 = [intW 0, intW 1] := rfl
  generalize hZe : setW (runW 0 2) = Z at hR z2 z3 z5
  have zlen : (prtW Z).length = 2 := by rw [z2]; exact z4
  have zmem : ∀ x, x ∈ prtW Z ↔ x = intW 0 ∨ x = intW 1 := fun x => by rw [z2, (sortW_spec _).2.1, hrun]; simp
  have zne : Z ≠ [] := fun e => by have := z5.sh.len; rw [e] at this; simp at this
  have zk : kindW Z = 5 := of_decide_eq_true z3
  have zok : okD Z = true := decide_eq_true (.inr zk)
  unfold m_law11_awake
  rw [hR, bnd1_mk]
  simp only []
  generalize hA : ([([99], (-1 : Int), [], [Z, Z])] : List Inf) = A
  have hAl : A.length = 1 := by rw [← hA]; rfl
  have hA0 : ∀ h : 0 < A.length, (A[0]'h).2.2.2 = [Z, Z] ∧ (A[0]'h).2.1 = -1 := fun h => by subst hA; exact ⟨rfl, rfl⟩
  have hv : validB A = true := by subst hA; simp [validB, okI, zok]
  have hsm : ∀ r ∈ (chW [Z, Z]).1, ∀ x ∈ r, IsV 31 x ∧ x.length ≤ 9 := fun r hr x hx => by
    obtain ⟨m1, m2⟩ := chW_mem hr
    have hx' : x ∈ prtW Z := by
      match r, m1, m2, hx with
      | [a, b], _, m2, hx =>
        simp only [allIn, inB, Bool.and_true, Bool.and_eq_true, decide_eq_true_eq] at m2
        simp at hx
        rcases hx with rfl | rfl
        · exact m2.1.resolve_left zne
        · exact m2.2.resolve_left zne
    rcases (zmem x).1 hx' with rfl | rfl
    · exact ⟨(intW_IsV 0 0).le (by omega), by rw [intW_len]; omega⟩
    · exact ⟨(intW_IsV 1 0).le (by omega), by rw [intW_len]; omega⟩
  have hch : (chW [Z, Z]).2 = true := by
    unfold chW
    have zn : prtW Z ≠ [] := fun h => by rw [h] at zlen; cases zlen
    rw [if_neg (by simp [zn]), chGo, if_neg (by simp [zlen]), chGo, if_neg (by rw [chStep_len, zlen]; simp)]; rfl
  have hcom : (complW A 0 []).2 = 0 := by
    unfold complW
    rw [gi_nat (by omega : 0 < A.length), (hA0 _).1, List.length_nil, List.drop_zero]
    simp only []
    rw [hch, if_pos rfl]
    unfold comW
    rw [if_neg]
    intro h
    obtain ⟨r, hr, he⟩ := List.any_eq_true.1 h
    exact dot_small (n := 0) (hsm r hr) (by have := (chW_mem hr).1; simp at this; omega) (of_decide_eq_true he)
  have hcl : (complW A 0 []).1.length = 4 := by
    rw [(compl_ok (by omega : 0 < A.length) hcom).2.1, List.length_map, (hA0 _).1, chW_len hch]
    simp [prodN, zlen]
  have hev : (evW A).2 = 0 ∧ (evW A).1.length = 4 := by
    unfold evW
    rw [hv, if_pos rfl, if_neg (by subst hA; simpa using zne)]
    have e : evGo A A 0 [] = ((complW A 0 []).1, 0) := by
      have : ∃ x, A = [x] ∧ x.2.1 = -1 := by subst hA; exact ⟨_, rfl, rfl⟩
      obtain ⟨x, hx, hx1⟩ := this
      have : evGo A [x] 0 [] = ((complW A 0 []).1, 0) := by
        rw [evGo, if_pos hx1, if_pos hcom, List.nil_append, if_neg (by omega), evGo]
      rw [← hx] at this
      exact this
    rw [e]
    exact ⟨rfl, hcl⟩
  have hd0 := dots_dot (n := 0) (by omega) (dot0_ne 0)
  have hbel0 : belB A (dotW 0 []) = true := by
    unfold belB
    rw [hd0]
    subst hA
    simp [allIn]
  have i1 : Vd (intW 1) := ⟨(intW_IsV 1 0).le (by omega), by rw [intW_len]; omega⟩
  have i2 : Vd (intW 2) := ⟨(intW_IsV 2 0).le (by omega), by rw [intW_len]; omega⟩
  have n2 : intW 2 ∉ prtW Z := fun h => by
    rcases (zmem _).1 h with h | h
    · have := congrArg numV h
      rw [numV_intW (by omega), numV_intW (by omega)] at this; omega
    · have := congrArg numV h
      rw [numV_intW (by omega), numV_intW (by omega)] at this; omega
  have d1 : dotW 0 [intW 1] ≠ [] := dot_small (fun x hx => by rw [List.mem_singleton] at hx; subst hx; exact ⟨(intW_IsV 1 0).le (by omega), by rw [intW_len]; omega⟩) (by simp)
  have hgA : (gi A ((0 : Nat) : Int)).2.2.2 = [Z, Z] := by rw [gi_nat (by omega : 0 < A.length)]; exact (hA0 _).1
  have j1 : joinW A (dotW 0 []) (intW 1) = (dotW 0 [intW 1], 0) := by
    unfold joinW
    rw [hv, if_neg (by simp), hd0, vldB_iff.2 i1, if_neg (by simp), hbel0, if_neg (by simp)]
    simp only []
    rw [hgA, List.length_nil, List.drop_zero]
    simp only []
    rw [if_neg (by simp [inB, (zmem _).2 (.inr rfl)]), List.nil_append, if_neg d1]
  have j2 : joinW A (dotW 0 []) (intW 2) = ([], 18) := by
    unfold joinW
    rw [hv, if_neg (by simp), hd0, vldB_iff.2 i2, if_neg (by simp), hbel0, if_neg (by simp)]
    simp only []
    rw [hgA, List.length_nil, List.drop_zero]
    simp only []
    rw [if_pos (by simp [inB, n2, zne])]
  have hcp : cplB A (dotW 0 [intW 1]) = false := by
    unfold cplB
    rw [dots_dot (by omega) d1, hgA]
    simp
  have r0 : m_ref9_Dot 0 [] = some (dotW 0 []) := rDotW (k := 0) (by omega) (by omega) [] (by simp)
  have r1 : m_ref9_Dot 0 [intW 1] = some (dotW 0 [intW 1]) := rDotW (k := 0) (by omega) (by omega) [intW 1] (by simp)
  simp only [jn_eq]
  rw [vEvents A (by omega), bnd1_mk, r0, bnd1_mk, rInt, bnd1_mk, vJoin A _ _ (by omega), bnd1_mk, bnd1_mk, rInt, bnd1_mk, vJoin A _ _ (by omega), bnd1_mk, vValidL A (by omega), bnd1_mk, hv, if_pos rfl, if_pos hev.1, if_pos (by omega), j1, j2]
  simp only []
  rw [if_pos trivial, bnd1_mk, r1, bnd1_mk, if_pos rfl, if_pos trivial, vCompleteB A _ (by omega), bnd1_mk, hcp]; rfl
end Go.Proofs.YtjlbdhicabgliaaGreat
/- Products and choices; sets of sequences beside sets of dotted values. -/
namespace Go.Proofs.YtjlbdhicabgliaaGreat
attribute [local irreducible] FU

theorem raw_invK {c : UInt8} {l : List Vl} {k : Nat} (hk : k ≤ 31) (hc : 3 ≤ c.toNat ∧ c.toNat ≤ 9) (hl : l.length ≤ 65535) (hx : ∀ x ∈ l, Vd x) (hv : IsV (k + 1) (raw c l)) : ∀ x ∈ l, IsV k x := by
  have hp := prt_raw hc hl hx
  unfold raw at hv hp
  generalize u8i ((l.length / 256 : Nat) : Int) = a at hv hp
  generalize u8i ((l.length : Nat) : Int) = b at hv hp
  generalize hw : c :: a :: b :: l.flatten = w at hv hp
  cases hv with
  | int k q hb => injection hw with e; subst e; simp at hc
  | bool k q hb => injection hw with e; subst e; simp at hc
  | name k h l => injection hw with e; subst e; simp at hc
  | comp k c' h' l' ps hc' hn hps hf =>
    rw [prt_comp hc' hn (fun p hp' => (hps p hp').sh) (by omega)] at hp
    subst hp
    exact hps
theorem perm_flat {a b : List Vl} (h : a.Perm b) : a.flatten.length = b.flatten.length := by
  induction h with
  | nil => rfl
  | cons x _ ih => rw [List.flatten_cons, List.flatten_cons, List.length_append, List.length_append, ih]
  | swap x y l => simp only [List.flatten_cons, List.length_append]; omega
  | trans _ _ h1 h2 => omega
theorem inj_flat {α : Type} (p q : α → Vl) : ∀ (L : List α) (S : List Vl), (∀ a ∈ L, (p a).length ≤ (q a).length) → (L.map q).Nodup → (∀ a ∈ L, q a ∈ S) → (L.map p).flatten.length ≤ S.flatten.length ∧ L.length ≤ S.length
  | [], S, _, _, _ => by simp
  | a :: L, S, hp, hn, hS => by
    rw [List.map_cons, List.nodup_cons] at hn
    have ha := hS a (by simp)
    have hperm := List.perm_cons_erase ha
    have e1 := perm_flat hperm
    have e2 := hperm.length_eq
    obtain ⟨i1, i2⟩ := inj_flat p q L (S.erase (q a)) (fun b hb => hp b (by simp [hb])) hn.2 (fun b hb => (List.mem_erase_of_ne (fun e => hn.1 (by rw [← e]; exact List.mem_map_of_mem hb))).2 (hS b (by simp [hb])))
    have h0 := hp a (by simp)
    rw [List.flatten_cons, List.length_append] at e1
    rw [List.map_cons, List.flatten_cons, List.length_append]
    simp only [List.length_cons] at e2 ⊢
    omega
theorem seqs_ok {n : Nat} (hn : n ≤ 65535) {f : List Vl} {rows : List (List Vl)} {S : List Vl} (hne : ∀ r ∈ rows, dotW n (f ++ r) ≠ []) (hS : ∀ r ∈ rows, dotW n (f ++ r) ∈ S) (h : setW S ≠ []) : setW (rows.map (cmpd 4)) ≠ [] := by
  obtain ⟨c1, c2, c3⟩ := cmpd_ne.1 h
  have hI : ∀ x ∈ sortW S, IsV 31 x := raw_inv (by decide) c1 c2 c3
  have hrow : ∀ r ∈ rows, cmpd 4 r = raw 4 r ∧ IsV 31 (raw 4 r) ∧ prtW (raw 4 r) = r ∧ (raw 4 r).length ≤ (dotW n (f ++ r)).length := fun r hr => by
    have d := cmpd_ne.1 (hne r hr)
    have e : dotW n (f ++ r) = raw 7 (nameW n :: (f ++ r)) := cmpd_yes d
    have hm := hI _ (((sortW_spec S).2.1 _).2 (hS r hr))
    rw [e] at hm
    have hp := raw_invK (k := 30) (by omega) (by decide) d.1 d.2.1 hm
    have hlen := d.2.2.2
    have hl1 := d.1
    rw [raw_len, List.flatten_cons, List.length_append, List.flatten_append, List.length_append] at hlen
    rw [List.length_cons, List.length_append] at hl1
    obtain ⟨q1, q2, q3, _, _⟩ := comp_ok (c := 4) (by decide) (k := 30) (by omega) (l := r) (fun x hx => hp x (by simp [hx])) (by omega) (by omega) (by simp [formedB])
    refine ⟨q1, q2, q3, ?_⟩
    rw [e, raw_len, raw_len, List.flatten_cons, List.length_append, List.flatten_append, List.length_append]
    omega
  have hmem : ∀ y ∈ sortW (rows.map (cmpd 4)), ∃ r ∈ rows, y = raw 4 r := fun y hy => by
    obtain ⟨r, hr, e⟩ := List.mem_map.1 (((sortW_spec _).2.1 y).1 hy)
    exact ⟨r, hr, by rw [← e, (hrow r hr).1]⟩
  have hnd : ((sortW (rows.map (cmpd 4))).map (fun y => dotW n (f ++ prtW y))).Nodup := by
    have h0 := slc_nodup (sortW_spec (rows.map (cmpd 4))).1
    have : ∀ L : List Vl, (∀ y ∈ L, ∃ r ∈ rows, y = raw 4 r) → L.Nodup → (L.map (fun y => dotW n (f ++ prtW y))).Nodup := by
      intro L
      induction L with
      | nil => intro _ _; simp
      | cons y L ih =>
        intro hm hn'
        rw [List.nodup_cons] at hn'
        rw [List.map_cons, List.nodup_cons]
        refine ⟨fun hc => ?_, ih (fun z hz => hm z (by simp [hz])) hn'.2⟩
        obtain ⟨z, hz, ez⟩ := List.mem_map.1 hc
        obtain ⟨r, hr, rfl⟩ := hm y (by simp)
        obtain ⟨r', hr', rfl⟩ := hm z (by simp [hz])
        rw [(hrow r hr).2.2.1, (hrow r' hr').2.2.1] at ez
        have d1 := dots_dot hn (hne r hr)
        rw [← ez, dots_dot hn (hne r' hr')] at d1
        have : f ++ r' = f ++ r := congrArg (fun z => z.2.1) d1
        have := List.append_cancel_left this
        subst this
        exact hn'.1 hz
    exact this _ hmem h0
  obtain ⟨i1, i2⟩ := inj_flat (fun y => y) (fun y => dotW n (f ++ prtW y)) (sortW (rows.map (cmpd 4))) (sortW S) (fun y hy => by
    obtain ⟨r, hr, rfl⟩ := hmem y hy
    rw [(hrow r hr).2.2.1]; exact (hrow r hr).2.2.2) hnd (fun y hy => by
    obtain ⟨r, hr, rfl⟩ := hmem y hy
    rw [(hrow r hr).2.2.1]; exact ((sortW_spec S).2.1 _).2 (hS r hr))
  rw [List.map_id'] at i1
  have hlen := c3.2
  rw [raw_len] at hlen
  exact (set_ok (k := 31) (by omega) (fun x hx => by
    obtain ⟨r, hr, e⟩ := List.mem_map.1 hx
    rw [← e, (hrow r hr).1]; exact (hrow r hr).2.1) (by omega) (by omega)).2.2.2.2.1
theorem cntR_app : ∀ (A R : List (List (List UInt8))), (∀ m ∈ A, 0 < m.length) → cntR R ≤ cntR (A ++ R)
  | [], _, _ => Nat.le_refl _
  | m :: A, R, h => by
    have := cntR_app A R (fun q hq => h q (by simp [hq]))
    rw [List.cons_append, cntR]
    exact Nat.le_trans this (Nat.le_mul_of_pos_right _ (h m (by simp)))
theorem chGo_rows : ∀ (ds : List Vl) (R : List (List (List UInt8))), (∀ d ∈ ds, 0 < (prtW d).length) → cntR R ≤ 4096 → chGo ds (rowsR R) = if cntR ((ds.map prtW).reverse ++ R) ≤ 4096 then (rowsR ((ds.map prtW).reverse ++ R), true) else ([], false)
  | [], R, _, h => by rw [chGo]; simp [h]
  | d :: ds, R, hp, h => by
    have e : ((d :: ds).map prtW).reverse ++ R = (ds.map prtW).reverse ++ (prtW d :: R) := by simp
    have hd : ∀ q ∈ ds, 0 < (prtW q).length := fun q hq => hp q (by simp [hq])
    have hc : (rowsR R).length * (prtW d).length = cntR (prtW d :: R) := by rw [rowsR_len, cntR]
    rw [chGo, hc, e]
    by_cases h4 : 4096 < cntR (prtW d :: R)
    · have := cntR_app (ds.map prtW).reverse (prtW d :: R) (fun m hm => by
        obtain ⟨q, hq, rfl⟩ := List.mem_map.1 (List.mem_reverse.1 hm)
        exact hd q hq)
      rw [if_pos h4, if_neg (by omega)]
    · rw [if_neg h4]
      exact chGo_rows ds (prtW d :: R) hd (by omega)
theorem chW_rows (ds : List Vl) : chW ds = if (ds.map prtW).all (fun m => decide (0 < m.length)) = true then (if cntR (ds.map prtW).reverse ≤ 4096 then (rowsR (ds.map prtW).reverse, true) else ([], false)) else ([], true) := by
  unfold chW
  by_cases h : ∀ d ∈ ds, 0 < (prtW d).length
  · rw [if_neg (fun hc => by
      obtain ⟨d, hd, e⟩ := List.any_eq_true.1 hc
      have := h d hd; have := of_decide_eq_true e; omega), if_pos (List.all_eq_true.2 (fun m hm => by
      obtain ⟨d, hd, rfl⟩ := List.mem_map.1 hm
      exact decide_eq_true (h d hd)))]
    have := chGo_rows ds [] h (by decide)
    rw [List.append_nil] at this
    exact this
  · rw [if_pos, if_neg]
    · intro hc
      apply h
      intro d hd
      exact of_decide_eq_true (List.all_eq_true.1 hc _ (List.mem_map_of_mem hd))
    · apply List.any_eq_true.2
      refine Classical.byContradiction fun hc => h fun d hd => ?_
      refine Nat.pos_of_ne_zero fun e => hc ⟨d, hd, decide_eq_true e⟩
theorem prt_setW {l : List Vl} (h : setW l ≠ []) : prtW (setW l) = sortW l ∧ ∀ x ∈ l, Vd x := by
  obtain ⟨c1, c2, c3⟩ := cmpd_ne.1 h
  refine ⟨?_, fun x hx => c2 x (((sortW_spec l).2.1 x).2 hx)⟩
  rw [show setW l = raw 5 (sortW l) from cmpd_yes ⟨c1, c2, c3⟩]
  unfold prtW
  rw [if_pos (vldB_iff.2 c3)]
  exact prt_raw (by decide) c1 c2
noncomputable def cW (n : Nat) (f ds : List Vl) : List Vl × Int := if (chW ds).2 = true then comW n f (chW ds).1 else ([], 9)
theorem complW_eq (l : List Inf) (n : Nat) (f : List Vl) : complW l n f = cW n f ((gi l (n : Int)).2.2.2.drop f.length) := rfl
noncomputable def rW (n : Nat) (f ds : List Vl) : List Vl × Int := if (pdW ds).2 ≠ 0 then ([], (pdW ds).2) else comW n f ((prtW (pdW ds).1).map prtW)
theorem comW_mem {n : Nat} {f : List Vl} {R R' : List (List Vl)} (h : ∀ r, r ∈ R ↔ r ∈ R') : (comW n f R).2 = (comW n f R').2 ∧ ∀ x, x ∈ (comW n f R).1 ↔ x ∈ (comW n f R').1 := by
  unfold comW
  have : R.any (fun r => decide (dotW n (f ++ r) = [])) = R'.any (fun r => decide (dotW n (f ++ r) = [])) := by
    rw [Bool.eq_iff_iff, List.any_eq_true, List.any_eq_true]
    exact ⟨fun ⟨r, hr, e⟩ => ⟨r, (h r).1 hr, e⟩, fun ⟨r, hr, e⟩ => ⟨r, (h r).2 hr, e⟩⟩
  rw [this]
  split
  · exact ⟨rfl, fun _ => Iff.rfl⟩
  · refine ⟨rfl, fun x => ?_⟩
    simp only [List.mem_map]
    exact ⟨fun ⟨r, hr, e⟩ => ⟨r, (h r).1 hr, e⟩, fun ⟨r, hr, e⟩ => ⟨r, (h r).2 hr, e⟩⟩
theorem comW_cases (n : Nat) (f : List Vl) (R : List (List Vl)) : (comW n f R = ([], 9)) ∨ (comW n f R = (R.map (fun r => dotW n (f ++ r)), 0) ∧ ∀ r ∈ R, dotW n (f ++ r) ≠ []) := by
  unfold comW
  split
  · exact .inl rfl
  · rename_i h
    exact .inr ⟨rfl, fun r hr e => h (List.any_eq_true.2 ⟨r, hr, decide_eq_true e⟩)⟩
theorem cW_cases (n : Nat) (f ds : List Vl) : (cW n f ds).2 = 0 ∨ (cW n f ds).2 = 9 := by
  unfold cW
  split
  · rcases comW_cases n f (chW ds).1 with h | h
    · rw [h]; exact .inr rfl
    · rw [h.1]; exact .inl rfl
  · exact .inr rfl
theorem sortW_nil : sortW [] = [] := List.eq_nil_of_length_eq_zero (Nat.le_zero.1 (sortW_spec []).2.2)
theorem cr {n : Nat} (hn : n ≤ 65535) (f : List Vl) {ds : List Vl} (hs : ds.all isSet = true) :
    ((cW n f ds).2 = 0 ∧ (rW n f ds).2 = 0 ∧ ∀ x, x ∈ (rW n f ds).1 ↔ x ∈ (cW n f ds).1) ∨ ((cW n f ds).2 = 0 ∧ (rW n f ds).2 = 9 ∧ ∀ S, (∀ x ∈ (cW n f ds).1, x ∈ S) → setW S = []) ∨ ((cW n f ds).2 = 9 ∧ (rW n f ds).2 = 9) := by
  unfold rW cW pdW
  rw [chW_rows, if_pos hs]
  by_cases ha : (ds.map prtW).all (fun m => decide (0 < m.length)) = true
  · rw [if_pos ha, if_pos ha]
    by_cases h4 : 4096 < cntR (ds.map prtW).reverse
    · rw [if_pos h4, if_neg (show ¬ cntR (ds.map prtW).reverse ≤ 4096 by omega)]
      exact .inr (.inr ⟨rfl, rfl⟩)
    · rw [if_neg h4, if_pos (show cntR (ds.map prtW).reverse ≤ 4096 by omega), if_pos rfl]
      have hlen := rowsR_len (ds.map prtW).reverse
      generalize rowsR (ds.map prtW).reverse = rows at hlen ⊢
      by_cases hse : setW (rows.map (cmpd 4)) = []
      · have e : bndW (rows.map (cmpd 4)) = ([], 9) := by unfold bndW; rw [if_pos (.inr hse)]
        rw [e]
        rcases comW_cases n f rows with h | ⟨h, hne⟩
        · rw [h]; exact .inr (.inr ⟨rfl, rfl⟩)
        · refine .inr (.inl ⟨by rw [h], rfl, fun S hS => Classical.byContradiction fun hc => ?_⟩)
          rw [h] at hS
          exact seqs_ok hn hne (fun r hr => hS _ (List.mem_map_of_mem (f := fun r => dotW n (f ++ r)) hr)) hc hse
      · have hsl := (sortW_spec (rows.map (cmpd 4))).2.2
        rw [List.length_map] at hsl
        have e := bnd_ok (l := rows.map (cmpd 4)) (by omega) hse
        rw [e]
        obtain ⟨p1, p2⟩ := prt_setW hse
        simp only []
        rw [if_neg (by simp), p1]
        have hm : ∀ r, r ∈ (sortW (rows.map (cmpd 4))).map prtW ↔ r ∈ rows := fun r => by
          have hrow : ∀ q ∈ rows, prtW (cmpd 4 q) = q := fun q hq => by
            have hV := p2 _ (List.mem_map_of_mem hq)
            have d := cmpd_ne.1 hV.ne
            rw [cmpd_yes d]
            unfold prtW; rw [if_pos (vldB_iff.2 d.2.2)]
            exact prt_raw (by decide) d.1 d.2.1
          rw [List.mem_map]
          constructor
          · rintro ⟨x, hx, rfl⟩
            obtain ⟨q, hq, rfl⟩ := List.mem_map.1 (((sortW_spec _).2.1 x).1 hx)
            rw [hrow q hq]; exact hq
          · intro hr
            exact ⟨cmpd 4 r, ((sortW_spec _).2.1 _).2 (List.mem_map_of_mem hr), hrow r hr⟩
        obtain ⟨m1, m2⟩ := comW_mem (n := n) (f := f) hm
        rcases comW_cases n f rows with h | ⟨h, _⟩
        · rw [h] at m1 ⊢; exact .inr (.inr ⟨rfl, m1⟩)
        · refine .inl ⟨by rw [h], by rw [m1, h], m2⟩
  · rw [if_neg ha, if_neg ha, if_pos rfl]
    have e0 : prtW (setW []) = [] := by
      rw [(set_ok (k := 31) (l := []) (by omega) (by simp) (by rw [sortW_nil]; simp) (by rw [sortW_nil]; simp)).2.2.1, sortW_nil]
    simp only []
    rw [if_neg (by simp), e0]
    exact .inl ⟨by simp [comW], by simp [comW], fun x => by simp [comW]⟩
theorem sortW_mono {a b : List Vl} (h : ∀ x ∈ a, x ∈ b) : (sortW a).length ≤ (sortW b).length :=
  nodup_len (slc_nodup (sortW_spec a).1) (fun x hx => ((sortW_spec b).2.1 x).2 (h x (((sortW_spec a).2.1 x).1 hx)))
noncomputable def allGo (c : Vl → List Vl × Int) : List Vl → List Vl → Vl × Int
  | [], out => bndW out
  | v :: vs, out => if (c v).2 ≠ 0 then ([], (c v).2) else if 4096 < (sortW (out ++ (c v).1)).length then ([], 9) else allGo c vs (sortW (out ++ (c v).1))
noncomputable def allS (c : Vl → List Vl × Int) (vs out : List Vl) : Vl × Int := if vs.any (fun v => decide ((c v).2 ≠ 0)) = true then ([], 9) else bndW (out ++ vs.flatMap (fun v => (c v).1))
theorem allGo_eq (c : Vl → List Vl × Int) (hc : ∀ v, (c v).2 = 0 ∨ (c v).2 = 9) : ∀ (vs out : List Vl), allGo c vs out = allS c vs out
  | [], out => by rw [allGo, allS]; simp
  | v :: vs, out => by
    rw [allGo]
    unfold allS
    rw [List.any_cons, List.flatMap_cons]
    rcases hc v with h | h
    · rw [if_neg (by rw [h]; simp), decide_eq_false (by rw [h]; simp), Bool.false_or]
      by_cases h4 : 4096 < (sortW (out ++ (c v).1)).length
      · rw [if_pos h4]
        split
        · rfl
        · unfold bndW
          rw [if_pos (.inl (Nat.lt_of_lt_of_le h4 (sortW_mono (fun x hx => by
            rcases List.mem_append.1 hx with hx | hx
            · simp [hx]
            · simp [hx]))))]
      · rw [if_neg h4, allGo_eq c hc vs]
        unfold allS
        split
        · rfl
        · refine bndW_congr (fun x => ?_)
          rw [List.mem_append, (sortW_spec _).2.1, List.mem_append, List.mem_append, List.mem_append, or_assoc]
    · rw [if_pos (by rw [h]; simp), decide_eq_true (by rw [h]; simp), Bool.true_or, if_pos rfl, h]
end Go.Proofs.YtjlbdhicabgliaaGreat
/- The reference's answers about lists of names: what they come to. -/
namespace Go.Proofs.YtjlbdhicabgliaaGreat
attribute [local irreducible] FU

theorem rDotX {k : Int} (h0 : 0 ≤ k) (h1 : k ≤ 65535) (l : List (List UInt8)) (hl : l.length ≤ 1000000000) : m_ref9_Dot k l = some (cmpd 7 (nameW k :: l)) := by
  unfold m_ref9_Dot
  have := rMake 7 (by decide) ([nameW k] ++ l) (by simp; omega)
  rw [show ((7 : UInt8).toNat : Int) = 7 from rfl] at this
  rw [rNameW h0 h1, bnd1_mk, need_pos (by simp; omega), this, bnd1_mk]; rfl
theorem vSetS (l : List Vl) (hl : l.length ≤ 10000000) (hx : ∀ x ∈ l, x.length ≤ 1099511627776) : m_dataspace_set l = some (bndW l) := by
  have h1 := (sortW_spec l).2.2
  unfold m_dataspace_set bndW
  rw [vSort l (by omega), bnd1_mk, vSet _ (by omega) (fun x h => hx x (((sortW_spec l).2.1 x).1 h)), bnd1_mk, setW_sort]
  simp only [jn_eq]
  by_cases h4 : 4096 < (sortW l).length
  · rw [if_pos (by omega), if_pos trivial, if_pos (.inl h4)]
  · rw [if_neg (by omega)]
    by_cases hs : setW l = []
    · rw [if_pos (decide_eq_true hs), if_pos (.inr hs)]
    · rw [if_neg (fun h => hs (of_decide_eq_true h)), if_neg (fun h => h.elim h4 hs)]
theorem anyM (f : Vl → Option Bool) (p : Vl → Bool) (l : List Vl) (hf : ∀ x ∈ l, f x = some (p x)) (hl : l.length ≤ 9223372036854775807) : m_slices_ContainsFunc_L_api_Value_api_Value l f = some (l.any p) := by
  have hFU := FU_ge
  unfold m_slices_ContainsFunc_L_api_Value_api_Value m_slices_IndexFunc_L_api_Value_api_Value
  rw [jn_eq]
  have loop : ∀ (m i n : Nat), i + m = l.length → m < n → ∃ r, m_slices_IndexFunc_L_api_Value_api_Value_L2 l f (fun _ => some (-1)) n i = some r ∧ decide (0 ≤ r) = (l.drop i).any p := by
    intro m
    induction m with
    | zero =>
      intro i n hi hn
      obtain ⟨n, rfl⟩ : ∃ k, n = k + 1 := ⟨n - 1, by omega⟩
      refine ⟨-1, by rw [m_slices_IndexFunc_L_api_Value_api_Value_L2, m_slices_IndexFunc_L_api_Value_api_Value_B2, if_neg (by omega)], ?_⟩
      rw [List.drop_eq_nil_of_le (by omega)]; rfl
    | succ m ih =>
      intro i n hi hn
      obtain ⟨n, rfl⟩ : ∃ k, n = k + 1 := ⟨n - 1, by omega⟩
      have hil : i < l.length := by omega
      rw [m_slices_IndexFunc_L_api_Value_api_Value_L2, m_slices_IndexFunc_L_api_Value_api_Value_B2, if_pos (by omega), need_pos (by omega), gi_nat hil, hf _ (List.getElem_mem hil), bnd1_mk, List.drop_eq_getElem_cons hil, List.any_cons]
      cases hp : p l[i] with
      | true => exact ⟨i, rfl, by simp⟩
      | false =>
        rw [if_neg (by simp), i64_succ (by omega)]
        obtain ⟨r, h1, h2⟩ := ih (i + 1) n (by omega) (by omega)
        exact ⟨r, h1, by rw [h2]; simp⟩
  obtain ⟨r, h1, h2⟩ := loop l.length 0 FU (by omega) (by omega)
  rw [Int.natCast_zero] at h1
  rw [h1, bnd1_mk, h2, List.drop_zero]
end Go.Proofs.YtjlbdhicabgliaaGreat
/- Values, extensions, productions: the program's and the reference's. -/
namespace Go.Proofs.YtjlbdhicabgliaaGreat
attribute [local irreducible] FU

noncomputable def domW (l : List Inf) (v : Vl) : List Vl := (gi l (dots v).1).2.2.2.drop (dots v).2.1.length
noncomputable def unbW (l : List Inf) (v : Vl) : Bool := decide ([] ∈ domW l v)
noncomputable def cV (l : List Inf) (v : Vl) : List Vl × Int := cW (dots v).1.toNat (dots v).2.1 (domW l v)
theorem bel_get {l : List Inf} (hv : validB l = true) {v : Vl} (h : belB l v = true) : ∃ n : Nat, ∃ hn : n < l.length, n ≤ 65535 ∧ dots v = ((n : Int), (dots v).2.1, true) ∧ (dots v).2.1.length ≤ (l[n]).2.2.2.length ∧ (l[n]).2.2.2.length ≤ 8 ∧ (∀ x ∈ (dots v).2.1, Vd x) ∧ (∀ d ∈ (l[n]).2.2.2, okD d = true) ∧ domW l v = (l[n]).2.2.2.drop (dots v).2.1.length := by
  have hd := dots_num v
  unfold belB at h
  simp only [Bool.and_eq_true, decide_eq_true_eq] at h
  obtain ⟨h1, h2, h3, _⟩ := h
  obtain ⟨n, hnn⟩ : ∃ n : Nat, (dots v).1 = n := ⟨(dots v).1.toNat, by omega⟩
  have hn : n < l.length := by omega
  rw [hnn, gi_nat hn] at h3
  obtain ⟨o1, o2⟩ := dom_ok hv hn
  refine ⟨n, hn, by omega, ?_, h3, o2, fun x hx => dots_mem hx, o1, ?_⟩
  · rw [← h1, ← hnn]
  · unfold domW; rw [hnn, gi_nat hn]
theorem vMissingB {l : List Inf} (hv : validB l = true) {v : Vl} (h : belB l v = true) : m_dataspace_missing l v = some (domW l v) := by
  obtain ⟨n, hn, _, hd, hf, _, _, _, e⟩ := bel_get hv h
  rw [vMissing hd hn hf, e]
theorem vUnbB {l : List Inf} (hv : validB l = true) {v : Vl} (h : belB l v = true) : m_dataspace_unbounded l v = some (unbW l v) := by
  obtain ⟨n, hn, _, hd, hf, h8, _, _, e⟩ := bel_get hv h
  rw [vUnb hd hn hf (by omega), unbW, e]
theorem vComplB {l : List Inf} (hv : validB l = true) {v : Vl} (h : belB l v = true) : m_dataspace_complete l v = some (cV l v) := by
  obtain ⟨n, hn, hn', hd, hf, h8, hx, _, e⟩ := bel_get hv h
  have h1 : (dots v).1.toNat = n := by have := congrArg (fun z => z.1) hd; simp only [] at this; omega
  rw [vComplete hd hn hn' hf (by omega) (fun x h => by have := (hx x h).2; omega), complW_eq, cV, h1, e, gi_nat hn]
theorem comW_len (n : Nat) (f : List Vl) (R : List (List Vl)) : (comW n f R).1.length ≤ R.length ∧ ∀ x ∈ (comW n f R).1, x.length ≤ 131072 := by
  rcases comW_cases n f R with h | ⟨h, hne⟩
  · rw [h]; simp
  · rw [h]
    refine ⟨by simp, fun x hx => ?_⟩
    obtain ⟨r, hr, rfl⟩ := List.mem_map.1 hx
    have d := cmpd_ne.1 (hne r hr)
    rw [show dotW n (f ++ r) = raw 7 (nameW n :: (f ++ r)) from cmpd_yes d]
    exact d.2.2.2
theorem cV_len (l : List Inf) (v : Vl) : (cV l v).1.length ≤ 4096 ∧ ∀ x ∈ (cV l v).1, x.length ≤ 131072 := by
  unfold cV cW
  have hb := (chW_bound (domW l v)).1
  split
  · have := comW_len (dots v).1.toNat (dots v).2.1 (chW (domW l v)).1
    exact ⟨by omega, this.2⟩
  · simp
theorem vAll {l : List Inf} (hv : validB l = true) (vs : List Vl) (hb : ∀ v ∈ vs, belB l v = true) (hl : vs.length ≤ 1000000) : m_dataspace_all l vs = some (if vs.any (unbW l) = true then ([], 17) else allS (cV l) vs []) := by
  have hFU := FU_ge
  unfold m_dataspace_all
  rw [anyM _ (unbW l) vs (fun x hx => by unfold m_dataspace_all_1; rw [vUnbB hv (hb x hx), bnd1_mk]) (by omega), bnd1_mk]
  cases hu : vs.any (unbW l) with
  | true => rfl
  | false =>
    rw [if_neg (by simp), if_neg (by simp), jn_eq]
    have loop : ∀ (m i n : Nat) (out : List Vl), i + m = vs.length → m < n → out.length ≤ 4096 → (∀ x ∈ out, x.length ≤ 131072) → m_dataspace_all_L2 l vs (fun x => bnd1 (m_dataspace_set x) (fun y => some (y.1, y.2))) n out i = some (allGo (cV l) (vs.drop i) out) := by
      intro m
      induction m with
      | zero =>
        intro i n out hi hn ho hx
        obtain ⟨n, rfl⟩ : ∃ q, n = q + 1 := ⟨n - 1, by omega⟩
        rw [m_dataspace_all_L2, m_dataspace_all_B2, if_neg (by omega), vSetS out (by omega) (fun x h => by have := hx x h; omega), bnd1_mk, List.drop_eq_nil_of_le (by omega), allGo]
      | succ m ih =>
        intro i n out hi hn ho hx
        obtain ⟨n, rfl⟩ : ∃ q, n = q + 1 := ⟨n - 1, by omega⟩
        have hil : i < vs.length := by omega
        have hcl := cV_len l vs[i]
        rw [m_dataspace_all_L2, m_dataspace_all_B2, if_pos (by omega), need_pos (by omega), gi_nat hil, vComplB hv (hb _ (List.getElem_mem hil)), bnd1_mk, List.drop_eq_getElem_cons hil, allGo]
        by_cases h0 : (cV l vs[i]).2 = 0
        · have hsl := (sortW_spec (out ++ (cV l vs[i]).1)).2
          have hal : (out ++ (cV l vs[i]).1).length ≤ 8192 := by rw [List.length_append]; omega
          rw [if_neg (fun h => h h0), if_neg (fun h => h h0), need_pos (by omega), vSort _ (by omega), bnd1_mk]
          by_cases h4 : 4096 < (sortW (out ++ (cV l vs[i]).1)).length
          · rw [if_pos (by omega), if_pos h4]
          · rw [if_neg (by omega), if_neg h4, i64_succ (by omega), ih (i + 1) n _ (by omega) (by omega) (by omega) (fun x h => by
              rcases List.mem_append.1 ((hsl.1 x).1 h) with h | h
              · exact hx x h
              · exact hcl.2 x h)]
        · rw [if_pos h0, if_pos h0]
    have h2 := loop vs.length 0 FU [] (by omega) (by omega) (by simp) (by simp)
    rw [Int.natCast_zero, List.drop_zero, allGo_eq (cV l) (fun v => cW_cases _ _ _)] at h2
    exact h2
end Go.Proofs.YtjlbdhicabgliaaGreat
/- Extensions, productions, the next field, joining, names: the program's and the reference's. -/
namespace Go.Proofs.YtjlbdhicabgliaaGreat
attribute [local irreducible] FU

noncomputable def extW (l : List Inf) (v : Vl) : Vl × Int := if validB l = false then ([], 1) else if ¬ kindW v = 7 then ([], 6) else if belB l v = false then ([], 18) else if unbW l v = true then ([], 17) else pdW (domW l v)
theorem vExt (l : List Inf) (hl : l.length ≤ 9223372036854775807) (v : Vl) : m_dataspace_Extensions l v = some (extW l v) := by
  unfold m_dataspace_Extensions extW
  rw [vValidL l hl, bnd1_mk]
  cases hv : validB l with
  | false => rfl
  | true =>
    rw [if_neg (show ¬ (!true) = true by simp), if_neg (show ¬ true = false by simp), vKind, bnd1_mk]
    by_cases h7 : kindW v = 7
    · rw [if_neg (fun h => h h7), if_neg (fun h => h h7), vBelongs, bnd1_mk]
      cases hb : belB l v with
      | false => rfl
      | true =>
        rw [if_neg (show ¬ (!true) = true by simp), if_neg (show ¬ true = false by simp), vUnbB hv hb, bnd1_mk]
        cases hu : unbW l v with
        | true => rfl
        | false =>
          obtain ⟨n, hn, _, _, _, h8, _, _, e⟩ := bel_get hv hb
          rw [if_neg (by simp), if_neg (by simp), vMissingB hv hb, bnd1_mk, vProduct _ (by rw [e, List.length_drop]; omega), bnd1_mk]
    · rw [if_pos h7, if_pos h7]
noncomputable def prodW (c : Vl → List Vl × Int) (l : List Inf) (a : Vl) : Vl × Int := if validB l = false then ([], 1) else if ¬ kindW a = 5 then ([], 6) else if (prtW a).any (fun v => decide (¬ kindW v = 7)) = true then ([], 6) else if (prtW a).any (fun v => !belB l v) = true then ([], 18) else if (prtW a).any (unbW l) = true then ([], 17) else allS c (prtW a) []
theorem all_of_any {p : Vl → Bool} {L : List Vl} (h : L.any p = false) : ∀ v ∈ L, p v = false := fun v hv => Bool.eq_false_iff.2 (fun hc => by rw [List.any_eq_true.2 ⟨v, hv, hc⟩] at h; cases h)
theorem vProds (l : List Inf) (hl : l.length ≤ 9223372036854775807) (a : Vl) : m_dataspace_Productions l a = some (prodW (cV l) l a) := by
  have hpl := (prtW_spec a).2.1
  unfold m_dataspace_Productions prodW
  rw [vValidL l hl, bnd1_mk]
  cases hv : validB l with
  | false => rfl
  | true =>
    rw [if_neg (show ¬ (!true) = true by simp), if_neg (show ¬ true = false by simp), vPartsW, bnd1_mk]
    simp only [jn_eq]
    rw [vKind, bnd1_mk]
    by_cases h5 : kindW a = 5
    · rw [if_neg (fun h => h h5), if_neg (fun h => h h5), anyM m_dataspace_Productions_1 (fun v => decide (¬ kindW v = 7)) _ (fun x _ => by unfold m_dataspace_Productions_1; rw [vKind, bnd1_mk]) (by omega), bnd1_mk]
      cases hk : (prtW a).any (fun v => decide (¬ kindW v = 7)) with
      | true => rfl
      | false =>
        rw [if_neg (by simp), if_neg (by simp), anyM _ (fun v => !belB l v) _ (fun x _ => by unfold m_dataspace_Productions_2; rw [vBelongs, bnd1_mk]) (by omega), bnd1_mk]
        cases hb : (prtW a).any (fun v => !belB l v) with
        | true => rfl
        | false =>
          rw [if_neg (by simp), if_neg (by simp), vAll hv _ (fun v hvv => by have := all_of_any hb v hvv; simpa using this) (by omega), bnd1_mk]
    · rw [if_pos h5, if_pos h5, if_pos trivial]
end Go.Proofs.YtjlbdhicabgliaaGreat
/- The next field, completeness, joining, names: the program's and the reference's. -/
namespace Go.Proofs.YtjlbdhicabgliaaGreat
attribute [local irreducible] FU

theorem dots_kind (a : Vl) : (dots a).2.2 = decide (kindW a = 7) := by
  unfold dots
  by_cases h : kindW a = 7
  · rw [if_pos h, decide_eq_true h]
  · rw [if_neg h, decide_eq_false h]
end Go.Proofs.YtjlbdhicabgliaaGreat
/- The reference's events. -/
namespace Go.Proofs.YtjlbdhicabgliaaGreat
attribute [local irreducible] FU

end Go.Proofs.YtjlbdhicabgliaaGreat
/- Dotted values that are drawn; all functions return the specified results. -/
namespace Go.Proofs.YtjlbdhicabgliaaGreat
attribute [local irreducible] FU

theorem dom_elem {d : Vl} (h : DomOK d) {x : Vl} (hx : x ∈ prtW d) : SI x := by
  rcases h with rfl | ⟨L, rfl, hL, hI⟩
  · unfold prtW at hx; rw [vldB_no (fun hv => hv.ne rfl)] at hx; simp at hx
  · have hs : ∀ x ∈ L, SI x := hI
    rw [(fs_set hs).1] at hx
    exact hs x (((sortW_spec L).2.1 x).1 hx)
theorem SI_PV {x : Vl} (h : SI x) : PV 1 9 x := ⟨h.IsV 0, by rw [h.len]; omega⟩
theorem gVal1 {l : List Int} {i : Int} (h : GS l i) : ∃ v i', m_gen_Choices_Value (l, i) 1 = some (v, (l, i')) ∧ GS l i' ∧ PV 1 9 v := gValueP 1 (by omega) l i h
theorem gdot_loop (L : List Inf) (y : Int × (List Int × Int)) (p : Nat) (hy : y.1 = p) (hp : p < L.length) (ds : List Vl) (hds : (L[p]).2.2.2 = ds) (h8 : ds.length ≤ 8) (hD : ∀ d ∈ ds, DomOK d) (K : List Int → Int → List Vl → Option (Vl × (List Int × Int))) :
    ∀ (m k n : Nat) (l : List Int) (i : Int) (f : List Vl), k + m = ds.length → m < n → GS l i → f.length = k → (∀ x ∈ f, PV 1 9 x) → ∃ i' f', m_law11_dotted_L2 L y K n l i f k = K l i' f' ∧ GS l i' ∧ f'.length ≤ ds.length ∧ ∀ x ∈ f', PV 1 9 x := by
  intro m
  induction m with
  | zero =>
    intro k n l i f hk hn hg hf hx
    obtain ⟨n, rfl⟩ : ∃ q, n = q + 1 := ⟨n - 1, by omega⟩
    refine ⟨i, f, ?_, hg, by omega, hx⟩
    rw [m_law11_dotted_L2, m_law11_dotted_B2]
    simp only [jn_eq]
    rw [hy, need_pos (by omega), gi_nat hp, hds, if_neg (by omega), if_neg Bool.false_ne_true]
  | succ m ih =>
    intro k n l i f hk hn hg hf hx
    obtain ⟨n, rfl⟩ : ∃ q, n = q + 1 := ⟨n - 1, by omega⟩
    have hkl : k < ds.length := by omega
    obtain ⟨y4, i1, e1, g1, a0, a1⟩ := gNext hg (n := 4) (by omega) (by omega)
    rw [m_law11_dotted_L2, m_law11_dotted_B2]
    simp only [jn_eq]
    rw [hy, need_pos (by omega), gi_nat hp, hds, if_pos (by omega), e1, bnd1_mk]
    dsimp only
    by_cases h0 : 0 < y4
    · rw [if_pos (decide_eq_true h0), need_pos (by omega), need_pos (by omega), gi_nat hkl, rPartsW, bnd1_mk]
      have hd := hD _ (List.getElem_mem hkl)
      have next : ∀ (i2 : Int) (v : Vl), GS l i2 → PV 1 9 v → ∃ i' f', need (List.length f + List.length [v] ≤ 137438953472) (m_law11_dotted_L2 L y K n l i2 (f ++ [v]) (i64 ((k : Int) + 1))) = K l i' f' ∧ GS l i' ∧ f'.length ≤ ds.length ∧ ∀ x ∈ f', PV 1 9 x := fun i2 v g2 hv => by
        rw [need_pos (by simp; omega), i64_succ (by omega)]
        exact ih (k + 1) n l i2 _ (by omega) (by omega) g2 (by simp; omega) (fun x h => by
          rcases List.mem_append.1 h with h | h
          · exact hx x h
          · rw [List.mem_singleton] at h; subst h; exact hv)
      have val : ∀ (i2 : Int), GS l i2 → ∃ i' f', bnd1 (m_gen_Choices_Value (l, i2) 1) (fun y309 => need (List.length f + List.length [y309.1] ≤ 137438953472) (m_law11_dotted_L2 L y K n y309.2.1 y309.2.2 (f ++ [y309.1]) (i64 ((k : Int) + 1)))) = K l i' f' ∧ GS l i' ∧ f'.length ≤ ds.length ∧ ∀ x ∈ f', PV 1 9 x := fun i2 g2 => by
        obtain ⟨v, i3, e3, g3, hv⟩ := gVal1 g2
        rw [e3, bnd1_mk]
        exact next i3 v g3 hv
      by_cases hz : (prtW ds[k]).length = 0
      · rw [if_pos (by omega), if_pos trivial]; exact val i1 g1
      · obtain ⟨y12, i2, e2, g2, b0, b1⟩ := gNext g1 (n := 12) (by omega) (by omega)
        rw [if_neg (by omega), e2, bnd1_mk]
        dsimp only
        by_cases h11 : y12 = 11
        · rw [if_pos (decide_eq_true h11)]; exact val i2 g2
        · obtain ⟨q, i3, e3, g3, c0, c1⟩ := gNext g2 (n := ((prtW ds[k]).length : Int)) (by omega) (by have := dom_prt hd; omega)
          obtain ⟨q, rfl⟩ : ∃ z : Nat, q = z := ⟨q.toNat, by omega⟩
          rw [if_neg (fun h => h11 (of_decide_eq_true h)), e3, bnd1_mk]
          dsimp only
          have hql : q < (prtW ds[k]).length := by omega
          rw [need_pos (by omega), gi_nat hql]
          exact next i3 _ g3 (SI_PV (dom_elem hd (List.getElem_mem hql)))
    · rw [if_neg (fun h => h0 (of_decide_eq_true h))]
      exact ⟨i1, f, rfl, g1, by omega, hx⟩
theorem gDotted {l : List Int} {i : Int} (h : GS l i) {L : List Inf} (h1 : 1 ≤ L.length) (h4 : L.length ≤ 4) (hI : ∀ x ∈ L, InfOK x) : ∃ i' n f, m_law11_dotted (l, i) L = some (dotW n f, (l, i')) ∧ GS l i' ∧ n < L.length ∧ f.length ≤ 4 ∧ ∀ x ∈ f, PV 1 9 x := by
  have hFU := FU_ge
  obtain ⟨p, i1, e1, g1, p0, p1⟩ := gNext h (n := (L.length : Int)) (by omega) (by omega)
  obtain ⟨p, rfl⟩ : ∃ z : Nat, p = z := ⟨p.toNat, by omega⟩
  have hp : p < L.length := by omega
  obtain ⟨_, _, h3, hD⟩ := hI _ (List.getElem_mem hp)
  unfold m_law11_dotted
  dsimp only
  rw [e1, bnd1_mk]
  simp only [jn_eq]
  obtain ⟨i2, f, e2, g2, hf, hx⟩ := gdot_loop L ((p : Int), (l, i1)) p rfl hp _ rfl (by omega) hD (fun a b f => bnd1 (m_gen_Choices_Next (a, b) 15) (fun y321 => if y321.1 = 14 then (bnd1 (m_gen_Choices_Value (y321.2.1, y321.2.2) 1) (fun y322 => need (List.length f + List.length [y322.1] ≤ 137438953472) (bnd1 (m_ref9_Dot (p : Int) (f ++ [y322.1])) (fun y325 => some (y325, (y322.2.1, y322.2.2)))))) else (bnd1 (m_ref9_Dot (p : Int) f) (fun y325 => some (y325, (y321.2.1, y321.2.2)))))) _ 0 FU l i1 [] (Nat.zero_add _) (by omega) g1 rfl (by simp)
  rw [Int.natCast_zero] at e2
  obtain ⟨y15, i3, e3, g3, _, _⟩ := gNext g2 (n := 15) (by omega) (by omega)
  have hdot : ∀ f : List Vl, f.length ≤ 1000 → m_ref9_Dot (p : Int) f = some (dotW p f) := fun f hf => rDotX (by omega) (by omega) f (by omega)
  by_cases h14 : y15 = 14
  · obtain ⟨v, i4, e4, g4, hv⟩ := gVal1 g3
    refine ⟨i4, p, f ++ [v], e2.trans ?_, g4, hp, by simp; omega, fun x hx' => ?_⟩
    · rw [e3, bnd1_mk]
      dsimp only
      rw [if_pos h14, e4, bnd1_mk, need_pos (by simp; omega), hdot _ (by simp; omega), bnd1_mk]
    · rcases List.mem_append.1 hx' with h | h
      · exact hx x h
      · rw [List.mem_singleton] at h; subst h; exact hv
  · refine ⟨i3, p, f, e2.trans ?_, g3, hp, by omega, hx⟩
    rw [e3, bnd1_mk]
    dsimp only
    rw [if_neg h14, hdot _ (by omega), bnd1_mk]
end Go.Proofs.YtjlbdhicabgliaaGreat
/- DataspaceExtends. -/
namespace Go.Proofs.YtjlbdhicabgliaaGreat
attribute [local irreducible] FU

theorem allIn_take : ∀ (g D : List Vl) (j : Nat), allIn g D = true → allIn (g.take j) D = true
  | _, _, 0, _ => by simp [allIn]
  | [], _, _ + 1, _ => by simp [allIn]
  | x :: g, [], j + 1, _ => by simp [allIn]
  | x :: g, d :: D, j + 1, h => by
    rw [List.take_succ_cons]
    simp only [allIn, Bool.and_eq_true] at h ⊢
    exact ⟨h.1, allIn_take g D j h.2⟩
theorem allIn_get : ∀ (g D : List Vl) (j : Nat) (h : j < g.length) (h' : j < D.length), allIn g D = true → inB D[j] g[j] = true
  | [], _, _, h, _, _ => by simp at h
  | _ :: _, [], _, _, h', _ => by simp at h'
  | x :: g, d :: D, 0, _, _, h => by
    simp only [allIn, Bool.and_eq_true] at h
    exact h.1
  | x :: g, d :: D, j + 1, h1, h2, h => by
    simp only [allIn, Bool.and_eq_true] at h
    simp only [List.length_cons] at h1 h2
    simp only [List.getElem_cons_succ]
    exact allIn_get g D j (by omega) (by omega) h.2
theorem allIn_app : ∀ (f t D : List Vl), f.length ≤ D.length → allIn (f ++ t) D = (allIn f D && allIn t (D.drop f.length))
  | [], t, D, _ => by simp [allIn]
  | x :: f, t, [], h => by simp at h
  | x :: f, t, d :: D, h => by
    simp only [List.length_cons] at h
    rw [List.cons_append, allIn, allIn, allIn_app f t D (by omega), Bool.and_assoc]; rfl
theorem dom_okD {d : Vl} (h : DomOK d) : okD d = true := by
  rcases h with rfl | ⟨L, rfl, _, hI⟩
  · exact decide_eq_true (.inl rfl)
  · have hs : ∀ x ∈ L, SI x := hI
    have := (fs_set hs).2.1
    exact decide_eq_true (.inr (of_decide_eq_true this))
theorem names_valid {L : List Inf} (h4 : L.length ≤ 4) (hI : ∀ x ∈ L, InfOK x) : validB L = true := by
  unfold validB
  rw [decide_eq_true (by omega : L.length ≤ 65536), Bool.and_true]
  refine List.all_eq_true.2 (fun x hx => ?_)
  obtain ⟨h1, _, h3, hD⟩ := hI x hx
  unfold okI
  rw [decide_eq_true h1, decide_eq_true (by omega), Bool.true_and, Bool.true_and]
  exact List.all_eq_true.2 (fun d hd => dom_okD (hD d hd))
theorem bel_dot {l : List Inf} {n : Nat} (hn : n < l.length) (hn' : n ≤ 65535) {f : List Vl} (hw : dotW n f ≠ []) (hin : allIn f (l[n]).2.2.2 = true) (hle : f.length ≤ (l[n]).2.2.2.length) : belB l (dotW n f) = true := by
  unfold belB
  rw [dots_dot hn' hw]
  dsimp only
  rw [gi_nat hn, decide_eq_true (by omega : (n : Int) < (l.length : Int)), decide_eq_true hle, hin]; rfl
theorem join_step {l : List Inf} (hv : validB l = true) {n : Nat} (hn : n < l.length) (hn' : n ≤ 65535) {f : List Vl} {x : Vl} (hw : dotW n f ≠ []) (hw' : dotW n (f ++ [x]) ≠ []) (hin : allIn f (l[n]).2.2.2 = true) (j : Nat) (hj : f.length = j) (hlt : j < (l[n]).2.2.2.length) (hx : inB (l[n]).2.2.2[j] x = true) : joinW l (dotW n f) x = (dotW n (f ++ [x]), 0) := by
  have hxV : Vd x := (cmpd_ne.1 hw').2.1 x (by simp)
  have hb := bel_dot hn hn' hw hin (by omega)
  unfold joinW
  rw [hv, if_neg (by simp), dots_dot hn' hw, vldB_iff.2 hxV, if_neg (by simp), hb, if_neg (by simp)]
  dsimp only
  rw [gi_nat hn, hj, List.drop_eq_getElem_cons hlt]
  dsimp only
  rw [hx, if_neg (by simp), if_neg hw']
def SmallV (x : Vl) : Prop := IsV 31 x ∧ x.length ≤ 9
theorem ext_join (y3 : List Inf × (List Int × Int)) (hv : validB y3.1 = true) (n : Nat) (hn : n < y3.1.length) (hn' : n ≤ 65535) (f t : List Vl) (hin : allIn (f ++ t) (y3.1[n]).2.2.2 = true) (hlen : (f ++ t).length = (y3.1[n]).2.2.2.length) (h8 : (f ++ t).length ≤ 8) (hs : ∀ x ∈ f ++ t, SmallV x) (hl : y3.1.length ≤ 9223372036854775807) (K : Vl → Option Bool) :
    ∀ (m k g : Nat), k + m = t.length → m < g → m_law11_DataspaceExtends_L26 y3 t K g (dotW n (f ++ t.take k)) k = K (dotW n (f ++ t)) := by
  rw [List.length_append] at hlen h8
  intro m
  induction m with
  | zero =>
    intro k g hk hg
    obtain ⟨g, rfl⟩ : ∃ q, g = q + 1 := ⟨g - 1, by omega⟩
    rw [m_law11_DataspaceExtends_L26, m_law11_DataspaceExtends_B26, if_neg (by omega), List.take_of_length_le (by omega)]
  | succ m ih =>
    intro k g hk hg
    obtain ⟨g, rfl⟩ : ∃ q, g = q + 1 := ⟨g - 1, by omega⟩
    have hkt : k < t.length := by omega
    have e1 : f ++ t.take k = (f ++ t).take (f.length + k) := by rw [List.take_length_add_append]
    have e2 : (f ++ t.take k) ++ [t[k]] = f ++ t.take (k + 1) := by rw [List.append_assoc, List.take_append_getElem]
    have hle : (f ++ t.take k).length = f.length + k := by rw [List.length_append, List.length_take]; omega
    have sub : ∀ j, ∀ x ∈ f ++ t.take j, SmallV x := fun j x hx => hs x (by
      rcases List.mem_append.1 hx with hx | hx
      · simp [hx]
      · simp [List.mem_of_mem_take hx])
    have ne : ∀ j, dotW n (f ++ t.take j) ≠ [] := fun j => dot_small (fun x hx => sub j x hx) (by rw [List.length_append, List.length_take]; omega)
    have hg' := allIn_get (f ++ t) (y3.1[n]).2.2.2 (f.length + k) (by rw [List.length_append]; omega) (by omega) hin
    have e3 : (f ++ t)[f.length + k]'(by rw [List.length_append]; omega) = t[k] := by rw [List.getElem_append_right (by omega)]; congr 1; omega
    rw [e3] at hg'
    have hj := join_step hv hn hn' (ne k) (x := t[k]) (by rw [e2]; exact ne (k + 1)) (by rw [e1]; exact allIn_take _ _ _ hin) (f.length + k) hle (by omega) hg'
    rw [m_law11_DataspaceExtends_L26, m_law11_DataspaceExtends_B26, if_pos (by omega), need_pos (by omega), gi_nat hkt, vJoin _ _ _ hl, bnd1_mk, hj]
    dsimp only
    rw [if_neg (by simp), i64_succ (by omega), e2, ih (k + 1) g (by omega) (by omega)]
theorem cntR_le : ∀ (R : List (List (List UInt8))), (∀ m ∈ R, m.length ≤ 4) → cntR R ≤ 4 ^ R.length
  | [], _ => by simp [cntR]
  | m :: R, h => by
    have h1 := cntR_le R (fun q hq => h q (by simp [hq]))
    have h2 := h m (by simp)
    rw [cntR, List.length_cons, Nat.pow_succ]
    exact Nat.mul_le_mul h1 h2
theorem small_ok {n : Nat} (hn : n ≤ 65535) {f ds : List Vl} (hf : f.length ≤ 4) (hfx : ∀ x ∈ f, PV 1 9 x) (hd3 : ds.length ≤ 3) (hD : ∀ d ∈ ds, DomOK d) (hne : [] ∉ ds) :
    (pdW ds).2 = 0 ∧ (cW n f ds).2 = 0 ∧ bndW (cW n f ds).1 = (setW (cW n f ds).1, 0) ∧ (∀ q ∈ prtW (pdW ds).1, (prtW q).length = ds.length ∧ allIn (prtW q) ds = true ∧ (∀ x ∈ prtW q, SI x)) ∧ (∀ x, x ∈ (prtW (pdW ds).1).map (fun q => dotW n (f ++ prtW q)) ↔ x ∈ (cW n f ds).1) := by
  have hsets : ds.all isSet = true := List.all_eq_true.2 (fun d hd => by
    have := dom_okD (hD d hd)
    unfold okD at this
    exact decide_eq_true ((of_decide_eq_true this).resolve_left (fun e => hne (e ▸ hd))))
  have hcnt : cntR (ds.map prtW).reverse ≤ 64 := by
    have := cntR_le (ds.map prtW).reverse (fun m hm => by
      obtain ⟨d, hd, rfl⟩ := List.mem_map.1 (List.mem_reverse.1 hm)
      exact dom_prt (hD d hd))
    rw [List.length_reverse, List.length_map] at this
    have h4 : 4 ^ ds.length ≤ 4 ^ 3 := Nat.pow_le_pow_right (by omega) hd3
    omega
  have hel : ∀ r : List Vl, r.length = ds.length → allIn r ds = true → ∀ x ∈ r, SI x := fun r hr ha x hx => by
    obtain ⟨j, hj, rfl⟩ := List.getElem_of_mem hx
    have := allIn_get r ds j hj (by omega) ha
    unfold inB at this
    rcases of_decide_eq_true this with h | h
    · exact absurd (h ▸ List.getElem_mem (by omega : j < ds.length)) hne
    · exact dom_elem (hD _ (List.getElem_mem (by omega))) h
  have hrows : ∀ r ∈ (chW ds).1, ∀ x ∈ f ++ r, PV 1 9 x := fun r hr x hx => by
    obtain ⟨m1, m2⟩ := chW_mem hr
    rcases List.mem_append.1 hx with hx | hx
    · exact hfx x hx
    · exact SI_PV (hel r m1 m2 x hx)
  have hdot : ∀ r ∈ (chW ds).1, dotW n (f ++ r) ≠ [] := fun r hr => dot_small (fun x hx => by
    have := hrows r hr x hx
    exact ⟨this.1.le (by omega), this.2⟩) (by have := (chW_mem hr).1; rw [List.length_append]; omega)
  have hch : (chW ds).2 = true ∧ (chW ds).1.length ≤ 64 := by
    rw [chW_rows]
    split
    · rw [if_pos (by omega)]
      exact ⟨rfl, by rw [rowsR_len]; exact hcnt⟩
    · exact ⟨rfl, by simp⟩
  have hcw : cW n f ds = ((chW ds).1.map (fun r => dotW n (f ++ r)), 0) := by
    unfold cW
    rw [hch.1, if_pos rfl]
    rcases comW_cases n f (chW ds).1 with h | ⟨h, _⟩
    · exfalso
      unfold comW at h
      split at h
      · rename_i ha
        obtain ⟨r, hr, he⟩ := List.any_eq_true.1 ha
        exact hdot r hr (of_decide_eq_true he)
      · have := congrArg (fun z => z.2) h
        simp at this
    · exact h
  have hX : ∀ x ∈ (cW n f ds).1, IsV 31 x ∧ x.length ≤ 69 := fun x hx => by
    rw [hcw] at hx
    obtain ⟨r, hr, rfl⟩ := List.mem_map.1 hx
    have hm := (chW_mem hr).1
    have hfl : (f ++ r).flatten.length ≤ 9 * (f ++ r).length := flat_le (fun x hx => (hrows r hr x hx).2)
    rw [List.length_append] at hfl
    obtain ⟨q1, q2, _, _, _⟩ := comp_ok (c := 7) (by decide) (k := 1) (by omega) (l := nameW n :: (f ++ r)) (fun y hy => by
      rcases List.mem_cons.1 hy with rfl | hy
      · exact nameW_IsV n 0
      · exact (hrows r hr y hy).1) (by rw [List.length_cons, List.length_append]; omega) (by
      rw [List.flatten_cons, List.length_append]
      have : (nameW (n : Int)).length = 3 := rfl
      omega) (by simp [formedB, gi2_00, nameW]; omega)
    rw [show dotW n (f ++ r) = raw 7 (nameW n :: (f ++ r)) from q1]
    refine ⟨q2.le (by omega), ?_⟩
    rw [raw_len, List.flatten_cons, List.length_append]
    have : (nameW (n : Int)).length = 3 := rfl
    omega
  have hXl : (cW n f ds).1.length ≤ 64 := by rw [hcw]; simp; exact hch.2
  have hsx := (sortW_spec (cW n f ds).1).2
  have hXn : setW (cW n f ds).1 ≠ [] := by
    have hfl : (sortW (cW n f ds).1).flatten.length ≤ 69 * (sortW (cW n f ds).1).length := flat_le (fun x hx => (hX x ((hsx.1 x).1 hx)).2)
    exact (set_ok (k := 31) (by omega) (fun x hx => (hX x hx).1) (by omega) (by omega)).2.2.2.2.1
  have h0 : (cW n f ds).2 = 0 := by rw [hcw]
  rcases cr hn f hsets with ⟨_, h2, h3⟩ | ⟨_, _, h3⟩ | ⟨h1, _⟩
  · have hp : (pdW ds).2 = 0 := Classical.byContradiction fun hc => by
      unfold rW at h2
      rw [if_pos hc] at h2
      exact hc h2
    have hrw : rW n f ds = ((prtW (pdW ds).1).map (fun q => dotW n (f ++ prtW q)), 0) ∧ ∀ q ∈ prtW (pdW ds).1, dotW n (f ++ prtW q) ≠ [] := by
      unfold rW at h2 ⊢
      rw [if_neg (fun h => h hp)] at h2 ⊢
      rcases comW_cases n f ((prtW (pdW ds).1).map prtW) with h | ⟨h, hne'⟩
      · rw [h] at h2; simp at h2
      · rw [h, List.map_map]
        exact ⟨rfl, fun q hq => hne' _ (List.mem_map_of_mem hq)⟩
    refine ⟨hp, h0, bnd_ok (by omega) hXn, fun q hq => ?_, fun x => by rw [hrw.1] at h3; exact h3 x⟩
    have hm : dotW n (f ++ prtW q) ∈ (rW n f ds).1 := by
      rw [hrw.1]; exact List.mem_map_of_mem (f := fun q => dotW n (f ++ prtW q)) hq
    have hm := (h3 _).1 hm
    rw [hcw] at hm
    obtain ⟨r, hr, he⟩ := List.mem_map.1 hm
    have d1 := dots_dot hn (hrw.2 q hq)
    rw [← he, dots_dot hn (hdot r hr)] at d1
    have : f ++ r = f ++ prtW q := congrArg (fun z => z.2.1) d1
    have := List.append_cancel_left this
    subst this
    obtain ⟨m1, m2⟩ := chW_mem hr
    exact ⟨m1, m2, hel _ m1 m2⟩
  · exact absurd (h3 _ (fun x hx => hx)) hXn
  · rw [h0] at h1; cases h1
theorem dataspaceExtends_true (x0 : List Int) (hc : x0.length ≤ maxLen ∧ ∀ x ∈ x0, (Lit.int .i64 x).wf = true) : m_law11_DataspaceExtends x0 = some true := by
  have hFU := FU_ge
  unfold m_law11_DataspaceExtends m_gen_New
  rw [bnd1_mk]
  dsimp only
  obtain ⟨i1, L, e1, g1, l1, l4, hI⟩ := gNames1 (gs_new hc)
  obtain ⟨i2, n, f, e2, g2, hn, hf, hx⟩ := gDotted g1 l1 l4 hI
  have hL : L.length ≤ 9223372036854775807 := by omega
  have hv := names_valid l4 hI
  obtain ⟨_, _, h3, hD⟩ := hI _ (List.getElem_mem hn)
  have hne : dotW n f ≠ [] := dot_small (fun x h => ⟨(hx x h).1.le (by omega), (hx x h).2⟩) (by omega)
  have hdd := dots_dot (n := n) (by omega) hne
  have hk7 : kindW (dotW n f) = 7 := by
    have := dots_kind (dotW n f)
    rw [hdd] at this
    exact of_decide_eq_true this.symm
  have hvV : IsV 31 (dotW n f) ∧ (dotW n f).length ≤ 131069 := by
    have hfl : f.flatten.length ≤ 9 * f.length := flat_le (fun x h => (hx x h).2)
    have hn3 : (nameW (n : Int)).length = 3 := rfl
    obtain ⟨q1, q2, _, _, _⟩ := comp_ok (c := 7) (by decide) (k := 1) (by omega) (l := nameW n :: f) (fun y hy => by
      rcases List.mem_cons.1 hy with rfl | hy
      · exact nameW_IsV n 0
      · exact (hx y hy).1) (by rw [List.length_cons]; omega) (by
      rw [List.flatten_cons, List.length_append]; omega) (by simp [formedB, gi2_00, nameW]; omega)
    rw [show dotW n f = raw 7 (nameW n :: f) from q1]
    exact ⟨q2.le (by omega), by rw [raw_len, List.flatten_cons, List.length_append]; omega⟩
  have hs1 : sortW [dotW n f] = [dotW n f] := sortW_id (List.pairwise_singleton _ _)
  obtain ⟨_, _, p1, p2, _, _⟩ := set_ok (k := 31) (l := [dotW n f]) (by omega) (fun x h => by rw [List.mem_singleton] at h; subst h; exact hvV.1) (by rw [hs1]; simp) (by rw [hs1]; simp; omega)
  rw [hs1] at p1
  have hpr : prodW (cV L) L (setW [dotW n f]) = if belB L (dotW n f) = false then ([], 18) else if unbW L (dotW n f) = true then ([], 17) else allS (cV L) [dotW n f] [] := by
    unfold prodW
    rw [hv, if_neg (by simp), if_neg (fun h => h (of_decide_eq_true p2)), p1, List.any_cons, List.any_nil, List.any_cons, List.any_nil, List.any_cons, List.any_nil, decide_eq_false (fun h => h hk7)]
    simp only [Bool.or_false, Bool.false_eq_true, if_false]
    cases belB L (dotW n f) <;> simp
  have hex : extW L (dotW n f) = if belB L (dotW n f) = false then ([], 18) else if unbW L (dotW n f) = true then ([], 17) else pdW (domW L (dotW n f)) := by
    unfold extW
    rw [hv, if_neg (by simp), if_neg (fun h => h hk7)]
  rw [e1, bnd1_mk]; dsimp only
  rw [e2, bnd1_mk]; dsimp only
  rw [vExt L hL, bnd1_mk, rSet _ (by simp), bnd1_mk, vProds L hL, bnd1_mk]
  simp only [jn_eq]
  rw [hpr, hex]
  cases hb : belB L (dotW n f) with
  | false =>
    rw [if_pos rfl, if_pos rfl, if_pos (by simp), if_pos trivial, awake11_true, bnd1_mk, if_pos rfl]; rfl
  | true =>
    rw [if_neg (show ¬ true = false by simp), if_neg (show ¬ true = false by simp)]
    cases hu : unbW L (dotW n f) with
    | true => rw [if_pos rfl, if_pos rfl, if_pos (by simp), if_pos trivial, awake11_true, bnd1_mk, if_pos rfl]; rfl
    | false =>
      rw [if_neg (show ¬ false = true by simp), if_neg (show ¬ false = true by simp)]
      have hdom : domW L (dotW n f) = (L[n]).2.2.2.drop f.length := by unfold domW; rw [hdd]; dsimp only; rw [gi_nat hn]
      have hds : ∀ d ∈ domW L (dotW n f), DomOK d := fun d hd => hD d (by rw [hdom] at hd; exact List.mem_of_mem_drop hd)
      have hnil : [] ∉ domW L (dotW n f) := fun hc => by unfold unbW at hu; rw [decide_eq_true hc] at hu; cases hu
      have hin : allIn f (L[n]).2.2.2 = true ∧ f.length ≤ (L[n]).2.2.2.length := by
        unfold belB at hb
        rw [hdd] at hb
        dsimp only at hb
        rw [gi_nat hn] at hb
        simp only [Bool.and_eq_true, decide_eq_true_eq] at hb
        exact ⟨hb.2.2.2, hb.2.2.1⟩
      obtain ⟨s1, s2, s3, s4, s5⟩ := small_ok (n := n) (f := f) (by omega) hf hx (by rw [hdom, List.length_drop]; omega) hds hnil
      have hcv : cV L (dotW n f) = cW n f (domW L (dotW n f)) := by unfold cV; rw [hdd]; rfl
      have hall : allS (cV L) [dotW n f] [] = (setW (cW n f (domW L (dotW n f))).1, 0) := by
        unfold allS
        rw [List.any_cons, List.any_nil, hcv, decide_eq_false (fun h => h s2), if_neg (by simp), List.flatMap_cons, List.flatMap_nil, List.nil_append, List.append_nil, hcv, s3]
      rw [hall, if_neg (fun h => h s1), if_neg (by simp), rPartsW, bnd1_mk]
      have hpl := (prtW_spec (pdW (domW L (dotW n f))).1).2.1
      generalize hP : prtW (pdW (domW L (dotW n f))).1 = rows at s4 s5 hpl
      have loop : ∀ (K : List Vl → Option Bool) (m i g : Nat) (out : List Vl), i + m = rows.length → m < g → out.length + m ≤ 1000000 → m_law11_DataspaceExtends_L14 (L, (x0, i1)) (dotW n f, (x0, i2)) rows K g out i = K (out ++ (rows.drop i).map (fun q => dotW n (f ++ prtW q))) := by
        intro K m
        induction m with
        | zero =>
          intro i g out hi hg ho
          obtain ⟨g, rfl⟩ : ∃ q, g = q + 1 := ⟨g - 1, by omega⟩
          rw [m_law11_DataspaceExtends_L14, m_law11_DataspaceExtends_B14, if_neg (by omega), List.drop_eq_nil_of_le (by omega)]; simp
        | succ m ih =>
          intro i g out hi hg ho
          obtain ⟨g, rfl⟩ : ∃ q, g = q + 1 := ⟨g - 1, by omega⟩
          have hil : i < rows.length := by omega
          obtain ⟨t1, t2, t3⟩ := s4 _ (List.getElem_mem hil)
          have tl : (f ++ prtW rows[i]).length = (L[n]).2.2.2.length := by rw [List.length_append, t1, hdom, List.length_drop]; omega
          have tin : allIn (f ++ prtW rows[i]) (L[n]).2.2.2 = true := by rw [allIn_app _ _ _ hin.2, hin.1, ← hdom, t2]; rfl
          have ts : ∀ x ∈ f ++ prtW rows[i], SmallV x := fun x hx' => by
            rcases List.mem_append.1 hx' with h | h
            · exact ⟨(hx x h).1.le (by omega), (hx x h).2⟩
            · exact ⟨(SI_PV (t3 x h)).1.le (by omega), (SI_PV (t3 x h)).2⟩
          have tne : dotW n (f ++ prtW rows[i]) ≠ [] := dot_small (fun x h => ts x h) (by omega)
          have hj := fun K => ext_join (L, (x0, i1)) hv n hn (by omega) f (prtW rows[i]) tin tl (by omega) ts hL K (prtW rows[i]).length 0 FU (by omega) (by have := (prtW_spec rows[i]).2.1; omega)
          rw [List.take_zero, List.append_nil, Int.natCast_zero] at hj
          have hcp : cplB L (dotW n (f ++ prtW rows[i])) = true := by
            unfold cplB
            rw [hv, bel_dot hn (by omega) tne tin (by omega), dots_dot (by omega) tne]
            dsimp only
            rw [gi_nat hn, decide_eq_true tl]; rfl
          rw [m_law11_DataspaceExtends_L14, m_law11_DataspaceExtends_B14, if_pos (by omega), jn_eq, need_pos (by omega), gi_nat hil, rPartsW, bnd1_mk, jn_eq]
          dsimp only
          rw [hj]
          rw [vCompleteB L _ hL, bnd1_mk, hcp, if_neg (by simp), need_pos (by simp; omega), i64_succ (by omega), ih (i + 1) g _ (by omega) (by omega) (by simp; omega), List.drop_eq_getElem_cons hil, List.map_cons, List.append_assoc]; rfl
      have hl := loop (fun x11 => bnd1 (m_law11_awake) (fun y268 => if y268 then (bnd1 (m_ref9_Set x11) (fun y269 => some (decide (setW (cW n f (domW L (dotW n f))).1 = y269)))) else some false)) rows.length 0 FU [] (by omega) (by omega) (by simp; omega)
      rw [Int.natCast_zero, List.drop_zero, List.nil_append] at hl
      refine hl.trans ?_
      rw [awake11_true, bnd1_mk, if_pos rfl, rSet _ (by rw [List.length_map]; omega), bnd1_mk, setW_congr s5, decide_eq_true rfl]
end Go.Proofs.YtjlbdhicabgliaaGreat
/- DataspaceExtends: for every input the call returns true, and the arguments read as before. No condition. -/
namespace Go.Proofs.YtjlbdhicabgliaaGreat
open Go.ChangeShapes Go.WideShapes Go.ChangeAt Go.RowKit

theorem o_int : Opens Tryz.prog 3 1 (fun x : Int => [.exact (.int .i64 x)]) (fun _ => 1) (fun x => (Lit.int .i64 x).wf = true) := fun e0 W fuel cs y h => (opens_int Tryz.underlying3) e0 W fuel cs y h
theorem o_L_int : Opens Tryz.prog 22 1 (fun xs : List Int => [.row 1 c_int xs]) (fun xs => szL (fun _ => 1) xs + 1) (fun xs => xs.length ≤ maxLen ∧ ∀ x ∈ xs, (fun x => (Lit.int .i64 x).wf = true) x) := fun e0 W fuel cs y h => (opens_slice Tryz.underlying22 (by kernel_rfl) (by decide) o_int) e0 W fuel cs y h
set_option maxRecDepth 100000 in
theorem dataspaceExtends_lifted (os : Os) (started : os.Started) (H : Type) (enc : TypeId × Value → H) :
    ReturnsInHanded {} Tryz.checked os 4 .any (Rows.dataspaceExtendsSpec.pre6 enc Tryz.prog Tryz.f4 Rows.dataspaceExtendsRow.domain false) (Rows.dataspaceExtendsSpec.post enc Tryz.prog Tryz.f4 false true false false) := by
  refine returnsInHanded_of_change (C := Tryz.checked) Tryz.own started (by kernel_rfl) Tryz.func4
    (ChangeSpec.witness6 (enc := enc) (C := Tryz.checked) false ⟨#[], #[.slice none 0 0], []⟩ 8 (by kernel_rfl) (by kernel_rfl) (by kernel_rfl) (by kernel_rfl)) ?_
  intro W base args ds gs before hval0 hW hcnd _
  have hval : ∀ (j : Nat) t v, Tryz.f4.params[j]? = some t → args[j]? = some v → Value.okWide Tryz.prog W .any base t v := hval0
  have hW' := hW
  obtain ⟨p, q, hA0, hV, rfl, hfz, hnd⟩ := hW
  have hA : DataW.TrodAll enc Tryz.prog W 0 (fun _ => true) true Tryz.f4.params.toList args.toList ds p := hA0
  rw [Tryz.params4] at hA hval
  obtain ⟨v0, vs0, d0, ds0, p0, q0, hargs, rfl, rfl, h0, r0⟩ := trodAll_cons hA
  obtain ⟨rfl, rfl, rfl⟩ := trodAll_nil r0
  obtain rfl : args = #[v0] := by cases args; simp_all
  obtain ⟨rfl, rfl⟩ := trodVars_none hV
  clear hA0
  simp only [List.append_nil] at hW'
  have hlt := hW'.lt
  obtain ⟨x0, qq0, g0, s0⟩ := arg_open o_L_int (plain_slice Tryz.underlying22 (hval 0 22 v0 rfl rfl)) h0
  refine (Pure.call (m_law11_DataspaceExtends_ok x0 true (dataspaceExtends_true x0 qq0)) (vs := [v0]) ⟨g0.1, trivial⟩).mono fun e W' ⟨he, hb⟩ => ?_
  subst he
  exact ⟨_, rfl, post_of_below (pa := p0 ++ []) (pv := []) hW' (fun _ _ _ => trodAll_cons_mk (shut_bool Tryz.underlying4 true) trodAll_mk0)
    (fun sp hsp => trodAll_cons_mk (trod_after (by kernel_rfl) (of_decide_eq_true (by kernel_rfl)) h0 hb (fun x hx => hlt x (by simp [hx])) (fun x hx => by simp [hx]) sp hsp) (trodAll_mk0))
    (fun _ _ => rfl) (by simp) hb (ok_one (by kernel_rfl) rfl (okWide_bool_mk Tryz.underlying4 true))⟩

theorem dataspaceExtends_holds : Rows.DataspaceExtendsSaid :=
  OpenClaim.holds_of_wide 4 Tryz.f4 rfl rfl rfl rfl rfl rfl rfl ⟨rfl, rfl, rfl, rfl, rfl⟩ rfl rfl rfl rfl rfl (by kernel_rfl) Tryz.func4 (by kernel_rfl)
    (of_decide_eq_true (by kernel_rfl)) (by unfold Func.isWrapper; first | (rw [if_pos (by decide +kernel)]; kernel_rfl) | (rw [if_neg (by decide +kernel)]; exact ⟨rfl, rfl⟩))
    (fun os started H enc _ => dataspaceExtends_lifted os started H enc)

end Go.Proofs.YtjlbdhicabgliaaGreat
