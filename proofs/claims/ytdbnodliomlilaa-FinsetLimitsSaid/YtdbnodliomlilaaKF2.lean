/- Sets of values: elements, merging, bounded results. -/
import Derived.Test.YtdbnodliomlilaaKF1
namespace Go.Proofs.Ytdbnodliomlilaa
attribute [local irreducible] FU

theorem cmpC_val {a b : List UInt8} (ha : Vd a) (hb : Vd b) : cmpC a b = cmpW a b := by unfold cmpC; rw [if_pos ⟨vldB_iff.2 ha, vldB_iff.2 hb⟩]
theorem ascB_SLC : ∀ {ps : List (List UInt8)}, (∀ p ∈ ps, Vd p) → ascB ps = true → SLC ps
  | [], _, _ => List.Pairwise.nil
  | [x], _, _ => by simp [SLC]
  | x :: y :: t, hv, h => by
    simp only [ascB, Bool.and_eq_true, decide_eq_true_eq] at h
    have ih := ascB_SLC (ps := y :: t) (fun p hp => hv p (List.mem_cons_of_mem _ hp)) h.2
    have hxy : cmpC x y < 0 := by rw [cmpC_val (hv x (by simp)) (hv y (by simp))]; exact h.1
    refine List.pairwise_cons.2 ⟨fun z hz => ?_, ih⟩
    rcases List.mem_cons.1 hz with rfl | hz
    · exact hxy
    · exact cmpC_trans hxy ((List.pairwise_cons.1 ih).1 z hz)
theorem flat_mem {ps : List (List UInt8)} {p : List UInt8} (h : p ∈ ps) : p.length ≤ ps.flatten.length := by
  obtain ⟨a, b, rfl⟩ := List.append_of_mem h
  simp; omega
theorem flatV_len {ps : List (List UInt8)} (h : ∀ p ∈ ps, p ≠ []) : ps.length ≤ ps.flatten.length := by
  induction ps with
  | nil => simp
  | cons p ps ih =>
    have := ih (fun q hq => h q (List.mem_cons_of_mem _ hq))
    have := List.length_pos_iff.2 (h p (by simp))
    simp only [List.flatten_cons, List.length_append, List.length_cons]; omega
/-- What the parts of a value are like. -/
theorem prtW_spec (v : List UInt8) : (∀ x ∈ prtW v, Vd x) ∧ (prtW v).length ≤ 65535 ∧ (prtW v).flatten.length ≤ v.length ∧ (prtW v).flatten.length ≤ 131072 ∧ (3 ≤ kindW v → kindW v ≤ 9 → formedB (gi v 0) (prtW v) = true ∧ v = raw (gi v 0) (prtW v)) := by
  unfold prtW kindW
  cases h0 : vldB v with
  | false => simp
  | true =>
    obtain ⟨hv, hl⟩ := vldB_iff.1 h0
    simp only [if_true]
    cases hv with
    | int k b h => simp [prt, gi_0]
    | bool k b h => simp [prt, gi_0]
    | name k h l => simp [prt, gi_0]
    | comp k c h l ps hc hn hp hf =>
      rw [prt_comp hc hn (fun p hp' => (hp p hp').sh) (by omega), gi_0]
      simp only [List.length_cons] at hl ⊢
      have hh := UInt8.toNat_lt h
      have hh' := UInt8.toNat_lt l
      refine ⟨fun x hx => ⟨(hp x hx).mono, by have := flat_mem hx; omega⟩, by omega, by omega, by omega, fun _ _ => ⟨hf, ?_⟩⟩
      have e1 : u8i ((ps.length / 256 : Nat) : Int) = h := u8_inj (by rw [u8i_nat]; omega)
      have e2 : u8i ((ps.length : Nat) : Int) = l := u8_inj (by rw [u8i_nat]; omega)
      unfold raw
      rw [e1, e2]
noncomputable def isSet (v : List UInt8) : Bool := decide (kindW v = 5)
theorem kind_gi {v : List UInt8} {c : UInt8} (h : kindW v = (c.toNat : Int)) (hc : c ≠ 0) : gi v 0 = c := by
  unfold kindW at h
  split at h
  · exact u8_inj (by omega)
  · exact absurd (u8_inj (a := c) (b := 0) (by rw [show ((0 : UInt8).toNat) = 0 from rfl]; omega)) hc
theorem prtW_SLC {v : List UInt8} (h : isSet v = true) : SLC (prtW v) := by
  have hk : kindW v = 5 := of_decide_eq_true h
  obtain ⟨h1, _, _, _, h3⟩ := prtW_spec v
  have h0 : gi v 0 = 5 := kind_gi (by rw [hk]; rfl) (by decide)
  have := (h3 (by omega) (by omega)).1
  rw [h0] at this
  exact ascB_SLC h1 (by simpa [formedB] using this)
theorem prtW_len (v : List UInt8) : (prtW v).length ≤ v.length :=
  Nat.le_trans (flatV_len (fun p hp => ((prtW_spec v).1 p hp).ne)) (prtW_spec v).2.2.1

/-- All have it, else R. -/
theorem foldK_all {α β ρ : Type} (p : α → Bool) (g : α → β) (R : Option ρ) (K : List β → Option ρ) : ∀ (l : List α) (r : List β), r.length + l.length ≤ 137438953472 →
    foldK (fun r x k => if p x then need (List.length r + 1 ≤ 137438953472) (k (r ++ [g x])) else R) K l r = if l.all p then K (r ++ l.map g) else R
  | [], r, _ => by simp [foldK]
  | x :: xs, r, h => by
    simp only [List.length_cons] at h
    rw [foldK]
    cases hp : p x with
    | true => simp only [if_true]; rw [need_pos (by omega), foldK_all p g R K xs _ (by simp; omega)]; simp [hp]
    | false => simp [hp]
theorem vElements (l : List (List UInt8)) (hl : l.length ≤ 137438953472) : m_finset_elements l = some (if l.all isSet then (l.map prtW, 0) else ([], 6)) := by
  unfold m_finset_elements
  rw [jn_eq]
  have h := loop_all l (by omega) (fun n (s : List (List (List UInt8))) i => m_finset_elements_L2 l (fun x => some (x, 0)) n s i) (fun r x k => if isSet x then need (List.length r + 1 ≤ 137438953472) (k (r ++ [prtW x])) else some ([], 6)) (fun x => some (x, 0)) (fun n s i hi => by
      show m_finset_elements_L2 l _ (n + 1) _ _ = _
      rw [m_finset_elements_L2, m_finset_elements_B2, if_pos (by omega), need_pos (by omega), gi_nat hi, vKind, bnd1_mk]
      by_cases hk : kindW l[i] = 5
      · rw [if_neg (fun h => h hk), vPartsW, bnd1_mk, if_pos (show isSet l[i] = true from decide_eq_true hk), i64_succ (by omega)]; rfl
      · rw [if_pos hk, if_neg (show ¬ isSet l[i] = true from fun h => hk (of_decide_eq_true h))]) (fun n s => by
      show m_finset_elements_L2 l _ (n + 1) _ _ = _
      rw [m_finset_elements_L2, m_finset_elements_B2, if_neg (by omega)]) []
  refine h.trans ?_
  rw [foldK_all _ _ _ _ _ _ (by simp; omega)]
  split <;> simp
/-! ### Results -/
theorem sortW_id {l : List (List UInt8)} (h : SLC l) : sortW l = l := slc_ext (sortW_spec l).1 h (sortW_spec l).2.1
theorem sortW_congr {l l' : List (List UInt8)} (h : ∀ x, x ∈ l ↔ x ∈ l') : sortW l = sortW l' :=
  slc_ext (sortW_spec l).1 (sortW_spec l').1 (fun x => by rw [(sortW_spec l).2.1, (sortW_spec l').2.1, h])
noncomputable def bndW (l : List (List UInt8)) : List UInt8 × Int := if 4096 < (sortW l).length ∨ setW l = [] then ([], 9) else (setW l, 0)
theorem setW_congr {l l' : List (List UInt8)} (h : ∀ x, x ∈ l ↔ x ∈ l') : setW l = setW l' := by unfold setW; rw [sortW_congr h]
theorem bndW_congr {l l' : List (List UInt8)} (h : ∀ x, x ∈ l ↔ x ∈ l') : bndW l = bndW l' := by unfold bndW; rw [sortW_congr h, setW_congr h]
theorem setW_sort (l : List (List UInt8)) : setW (sortW l) = setW l := by unfold setW; rw [sortW_id (sortW_spec l).1]
theorem rBounded (l : List (List UInt8)) (hl : l.length ≤ 10000000) : m_ref9_bounded l = some (bndW l) := by
  unfold m_ref9_bounded bndW
  have := (sortW_spec l).2.2
  rw [rSort l hl, bnd1_mk]
  by_cases h : 4096 < (sortW l).length
  · rw [if_pos (by omega), if_pos (.inl h)]
  · rw [if_neg (by omega), rSet _ (by omega), bnd1_mk, setW_sort]
    by_cases h' : setW l = []
    · rw [if_pos h', if_pos (.inr h')]
    · rw [if_neg h', if_neg (by simp [h, h'])]
theorem vSized (n : Nat) (v : List UInt8) : m_finset_sized n v = some (if 4096 < n ∨ v = [] then ([], 9) else (v, 0)) := by
  unfold m_finset_sized
  simp only [jn_eq]
  by_cases h : 4096 < n
  · rw [if_pos (by omega), if_pos trivial, if_pos (.inl h)]
  · rw [if_neg (by omega)]
    by_cases h' : v = []
    · rw [if_pos (decide_eq_true h'), if_pos (.inr h')]
    · rw [if_neg (fun h => h' (of_decide_eq_true h)), if_neg (by simp [h, h'])]
theorem vSetF (l : List (List UInt8)) (hl : l.length ≤ 10000000) (hx : ∀ x ∈ l, x.length ≤ 1099511627776) (h : SLC l ∨ l.length ≤ 4096) : m_finset_set l = some (bndW l) := by
  unfold m_finset_set bndW
  have hs := (sortW_spec l).2.2
  by_cases hc : 4096 < l.length
  · have : sortW l = l := sortW_id (h.resolve_right (by omega))
    rw [if_pos (by omega), if_pos (.inl (by rw [this]; exact hc))]
  · rw [if_neg (by omega), vSet l hl hx, bnd1_mk, vSized, bnd1_mk]
    have h1 : ¬ 4096 < (sortW l).length := by omega
    by_cases h' : setW l = []
    · rw [if_pos (.inr h'), if_pos (.inr h')]
    · rw [if_neg (by simp [hc, h']), if_neg (by simp [h1, h'])]

/-! ### Merging -/
def MS (F : Bool → Bool → Bool) (A B r : List (List UInt8)) : Prop := SLC r ∧ ∀ y, y ∈ r ↔ F (decide (y ∈ A)) (decide (y ∈ B)) = true ∧ (y ∈ A ∨ y ∈ B)
theorem MS.push {F : Bool → Bool → Bool} {x : List UInt8} {A B r : List (List UInt8)} (fa fb : Bool) (hor : (fa || fb) = true) (hxA : ∀ y ∈ A, cmpC x y < 0) (hxB : ∀ y ∈ B, cmpC x y < 0) (h : MS F A B r) :
    MS F ((if fa then [x] else []) ++ A) ((if fb then [x] else []) ++ B) ((if F fa fb then [x] else []) ++ r) := by
  obtain ⟨hr, hm⟩ := h
  have hA : x ∉ A := fun hh => by have := hxA x hh; rw [cmpC_self] at this; omega
  have hB : x ∉ B := fun hh => by have := hxB x hh; rw [cmpC_self] at this; omega
  refine ⟨?_, fun y => ?_⟩
  · split
    · refine List.pairwise_cons.2 ⟨fun y hy => ?_, hr⟩
      rcases ((hm y).1 hy).2 with h | h
      · exact hxA y h
      · exact hxB y h
    · exact hr
  · by_cases hy : y = x
    · subst hy
      have hnr : y ∉ r := fun hh => by rcases ((hm y).1 hh).2 with h | h; exact hA h; exact hB h
      cases fa <;> cases fb <;> simp_all <;> split <;> simp_all
    · have e1 : (y ∈ (if fa = true then [x] else []) ++ A) ↔ y ∈ A := by cases fa <;> simp [hy]
      have e2 : (y ∈ (if fb = true then [x] else []) ++ B) ↔ y ∈ B := by cases fb <;> simp [hy]
      have e3 : (y ∈ (if F fa fb = true then [x] else []) ++ r) ↔ y ∈ r := by cases F fa fb <;> simp [hy]
      rw [e3, hm]
      simp only [e1, e2]
theorem slc_head {l : List (List UInt8)} (h : SLC l) {i : Nat} (hi : i < l.length) : ∀ y ∈ l.drop (i + 1), cmpC l[i] y < 0 := by
  have h' : SLC (l.drop i) := List.Pairwise.sublist (List.drop_sublist i l) h
  rw [List.drop_eq_getElem_cons hi] at h'
  exact (List.pairwise_cons.1 h').1
theorem vMerge_loop (a b : List (List UInt8)) (f : Bool → Bool → Option Bool) (F : Bool → Bool → Bool) (hf : ∀ p q, f p q = some (F p q)) (ha : SLC a) (hb : SLC b) (la : a.length ≤ 10000000) (lb : b.length ≤ 10000000) :
    ∀ (m i k n : Nat) (out : List (List UInt8)), i ≤ a.length → k ≤ b.length → (a.length - i) + (b.length - k) ≤ m → m < n → out.length + m ≤ 100000000 →
    ∃ r, m_finset_merge_L2 a b f (fun x => some x) n out i k = some (out ++ r) ∧ MS F (a.drop i) (b.drop k) r := by
  intro m
  induction m with
  | zero =>
    intro i k n out hi hk hm hn ho
    obtain ⟨n, rfl⟩ : ∃ q, n = q + 1 := ⟨n - 1, by omega⟩
    refine ⟨[], ?_, ?_⟩
    · rw [m_finset_merge_L2, m_finset_merge_B2]
      simp only [jn_eq]
      rw [if_neg (by omega), if_neg (fun h => by have := of_decide_eq_true h; omega), List.append_nil]
    · rw [List.drop_eq_nil_of_le (by omega), List.drop_eq_nil_of_le (by omega)]
      exact ⟨List.Pairwise.nil, fun y => by simp⟩
  | succ m ih =>
    intro i k n out hi hk hm hn ho
    obtain ⟨n, rfl⟩ : ∃ q, n = q + 1 := ⟨n - 1, by omega⟩
    rw [m_finset_merge_L2, m_finset_merge_B2]
    simp only [jn_eq]
    by_cases hai : i < a.length
    · rw [if_pos (by omega), if_pos trivial, if_neg (by omega)]
      have da := List.drop_eq_getElem_cons hai
      have hA := slc_head ha hai
      by_cases hbk : k < b.length
      · have db := List.drop_eq_getElem_cons hbk
        have hB := slc_head hb hbk
        rw [if_neg (by omega), need_pos (by omega), need_pos (by omega), gi_nat hai, gi_nat hbk, vCompareW, bnd1_mk]
        have anti := cmpC_anti a[i] b[k]
        rcases Int.lt_trichotomy (cmpC a[i] b[k]) 0 with hc | hc | hc
        · rw [if_pos (by omega), need_pos (by omega), i64_succ (by omega), if_neg (by omega), hf, bnd1_mk, decide_eq_true (show cmpC a[i] b[k] ≤ 0 by omega), decide_eq_false (show ¬ 0 ≤ cmpC a[i] b[k] by omega)]
          have hxB : ∀ y ∈ b.drop k, cmpC a[i] y < 0 := by
            rw [db]; intro y hy
            rcases List.mem_cons.1 hy with rfl | hy
            · exact hc
            · exact cmpC_trans hc (hB y hy)
          by_cases hF : F true false = true
          · rw [if_pos hF, need_pos (by simp; omega)]
            obtain ⟨r, h1, h2⟩ := ih (i + 1) k n (out ++ [a[i]]) (by omega) hk (by omega) (by omega) (by simp; omega)
            refine ⟨a[i] :: r, by rw [h1]; simp, ?_⟩
            have := h2.push true false rfl hA hxB
            simpa [hF, ← da] using this
          · rw [if_neg hF]
            obtain ⟨r, h1, h2⟩ := ih (i + 1) k n out (by omega) hk (by omega) (by omega) (by omega)
            refine ⟨r, h1, ?_⟩
            have := h2.push true false rfl hA hxB
            simpa [hF, ← da] using this
        · have he := cmpC_eq.1 hc
          rw [if_pos (by omega), need_pos (by omega), i64_succ (by omega), if_pos (by omega), need_pos (by omega), i64_succ (by omega), hf, bnd1_mk, decide_eq_true (show cmpC a[i] b[k] ≤ 0 by omega), decide_eq_true (show 0 ≤ cmpC a[i] b[k] by omega)]
          have hxB : ∀ y ∈ b.drop (k + 1), cmpC a[i] y < 0 := by rw [he]; exact hB
          by_cases hF : F true true = true
          · rw [if_pos hF, need_pos (by simp; omega)]
            obtain ⟨r, h1, h2⟩ := ih (i + 1) (k + 1) n (out ++ [b[k]]) (by omega) (by omega) (by omega) (by omega) (by simp; omega)
            refine ⟨b[k] :: r, by rw [h1]; simp, ?_⟩
            have := h2.push true true rfl hA hxB
            rw [da, db]
            simpa [hF, ← he] using this
          · rw [if_neg hF]
            obtain ⟨r, h1, h2⟩ := ih (i + 1) (k + 1) n out (by omega) (by omega) (by omega) (by omega) (by omega)
            refine ⟨r, h1, ?_⟩
            have := h2.push true true rfl hA hxB
            rw [da, db]
            simpa [hF, ← he] using this
        · rw [if_neg (by omega), if_pos (by omega), need_pos (by omega), i64_succ (by omega), hf, bnd1_mk, decide_eq_false (show ¬ cmpC a[i] b[k] ≤ 0 by omega), decide_eq_true (show 0 ≤ cmpC a[i] b[k] by omega)]
          have hxA : ∀ y ∈ a.drop i, cmpC b[k] y < 0 := by
            rw [da]; intro y hy
            rcases List.mem_cons.1 hy with rfl | hy
            · omega
            · exact cmpC_trans (show cmpC b[k] a[i] < 0 by omega) (hA y hy)
          by_cases hF : F false true = true
          · rw [if_pos hF, need_pos (by simp; omega)]
            obtain ⟨r, h1, h2⟩ := ih i (k + 1) n (out ++ [b[k]]) hi (by omega) (by omega) (by omega) (by simp; omega)
            refine ⟨b[k] :: r, by rw [h1]; simp, ?_⟩
            have := h2.push false true rfl hxA hB
            simpa [hF, ← db] using this
          · rw [if_neg hF]
            obtain ⟨r, h1, h2⟩ := ih i (k + 1) n out hi (by omega) (by omega) (by omega) (by omega)
            refine ⟨r, h1, ?_⟩
            have := h2.push false true rfl hxA hB
            simpa [hF, ← db] using this
      · have hbn : b.drop k = [] := List.drop_eq_nil_of_le (by omega)
        rw [if_pos (by omega), if_pos (by omega), need_pos (by omega), i64_succ (by omega), if_neg (by omega), hf, bnd1_mk, gi_nat hai, decide_eq_true (show (-1 : Int) ≤ 0 by omega), decide_eq_false (show ¬ (0 : Int) ≤ -1 by omega)]
        by_cases hF : F true false = true
        · rw [if_pos hF, need_pos (by simp; omega)]
          obtain ⟨r, h1, h2⟩ := ih (i + 1) k n (out ++ [a[i]]) (by omega) hk (by omega) (by omega) (by simp; omega)
          refine ⟨a[i] :: r, by rw [h1]; simp, ?_⟩
          have := h2.push true false rfl hA (by rw [hbn]; simp)
          simpa [hF, ← da] using this
        · rw [if_neg hF]
          obtain ⟨r, h1, h2⟩ := ih (i + 1) k n out (by omega) hk (by omega) (by omega) (by omega)
          refine ⟨r, h1, ?_⟩
          have := h2.push true false rfl hA (by rw [hbn]; simp)
          simpa [hF, ← da] using this
    · by_cases hbk : k < b.length
      · have db := List.drop_eq_getElem_cons hbk
        have hB := slc_head hb hbk
        have han : a.drop i = [] := List.drop_eq_nil_of_le (by omega)
        rw [if_neg (by omega), if_pos (decide_eq_true (by omega)), if_pos (by omega), if_neg (by omega), if_pos (by omega), need_pos (by omega), i64_succ (by omega), hf, bnd1_mk, gi_nat hbk, decide_eq_false (show ¬ (1 : Int) ≤ 0 by omega), decide_eq_true (show (0 : Int) ≤ 1 by omega)]
        by_cases hF : F false true = true
        · rw [if_pos hF, need_pos (by simp; omega)]
          obtain ⟨r, h1, h2⟩ := ih i (k + 1) n (out ++ [b[k]]) hi (by omega) (by omega) (by omega) (by simp; omega)
          refine ⟨b[k] :: r, by rw [h1]; simp, ?_⟩
          have := h2.push false true rfl (by rw [han]; simp) hB
          simpa [hF, ← db] using this
        · rw [if_neg hF]
          obtain ⟨r, h1, h2⟩ := ih i (k + 1) n out hi (by omega) (by omega) (by omega) (by omega)
          refine ⟨r, h1, ?_⟩
          have := h2.push false true rfl (by rw [han]; simp) hB
          simpa [hF, ← db] using this
      · rw [if_neg (by omega), if_neg (fun h => by have := of_decide_eq_true h; omega)]
        refine ⟨[], by rw [List.append_nil], ?_⟩
        rw [List.drop_eq_nil_of_le (by omega), List.drop_eq_nil_of_le (by omega)]
        exact ⟨List.Pairwise.nil, fun y => by simp⟩
theorem vMerge (a b : List (List UInt8)) (f : Bool → Bool → Option Bool) (F : Bool → Bool → Bool) (hf : ∀ p q, f p q = some (F p q)) (ha : SLC a) (hb : SLC b) (la : a.length ≤ 10000000) (lb : b.length ≤ 10000000) :
    ∃ r, m_finset_merge a b f = some r ∧ MS F a b r := by
  have hFU := FU_ge
  unfold m_finset_merge
  rw [jn_eq]
  obtain ⟨r, h1, h2⟩ := vMerge_loop a b f F hf ha hb la lb (a.length + b.length) 0 0 FU [] (by omega) (by omega) (by omega) (by omega) (by simp; omega)
  rw [Int.natCast_zero] at h1
  exact ⟨r, by rw [h1]; rfl, by simpa using h2⟩
theorem nodup_len {α : Type} : ∀ {r l : List α}, r.Nodup → (∀ x ∈ r, x ∈ l) → r.length ≤ l.length
  | [], _, _, _ => by simp
  | x :: r, l, hn, hs => by
    obtain ⟨s, t, rfl⟩ := List.append_of_mem (hs x (by simp))
    obtain ⟨h1, h2⟩ := List.nodup_cons.1 hn
    have := nodup_len (r := r) (l := s ++ t) h2 (fun y hy => by
      have h := hs y (List.mem_cons_of_mem _ hy)
      have hne : y ≠ x := fun e => h1 (e ▸ hy)
      simpa [hne] using h)
    simp only [List.length_append, List.length_cons] at this ⊢
    omega
theorem slc_nodup {r : List (List UInt8)} (h : SLC r) : r.Nodup := h.imp (fun {a b} hab he => by subst he; rw [cmpC_self] at hab; omega)
theorem MS.len {F : Bool → Bool → Bool} {A B r : List (List UInt8)} (h : MS F A B r) : r.length ≤ A.length + B.length := by
  have := nodup_len (l := A ++ B) (slc_nodup h.1) (fun x hx => by rcases ((h.2 x).1 hx).2 with h | h <;> simp [h])
  simpa using this
end Go.Proofs.Ytdbnodliomlilaa
/- Operations on sets: program and reference agree. -/
namespace Go.Proofs.Ytdbnodliomlilaa
attribute [local irreducible] FU

theorem gi2_0 {α : Type} [Inhabited α] (x y : α) : gi [x, y] 0 = x := rfl
theorem gi2_1 {α : Type} [Inhabited α] (x y : α) : gi [x, y] 1 = y := rfl
end Go.Proofs.Ytdbnodliomlilaa
/- Operations on sets of sets and maps: program and reference agree. -/
namespace Go.Proofs.Ytdbnodliomlilaa
attribute [local irreducible] FU

theorem setW_len (l : List (List UInt8)) : (setW l).length ≤ 131072 := by
  unfold setW cmpd
  split
  · rename_i h; exact h.2.2.2
  · simp
theorem sub_flat : ∀ l : List (List UInt8), ((l.map prtW).flatten).length ≤ l.flatten.length
  | [] => by simp
  | x :: l => by
    have := sub_flat l
    have := prtW_len x
    simp only [List.map_cons, List.flatten_cons, List.length_append]
    omega
theorem vSetsF (a : List UInt8) : m_finset_sets a = some (if isSet a = true ∧ (prtW a).all isSet = true then ((prtW a).map prtW, 0) else ([], 6)) := by
  unfold m_finset_sets
  have hl := (prtW_spec a).2.1
  rw [vElements _ (by simp), bnd1_mk]
  by_cases h : isSet a = true
  · rw [if_pos (show [a].all isSet = true by simp [h]), if_neg (fun h => h rfl), need_pos (by simp), show gi (([a].map prtW, (0 : Int)) : List (List (List UInt8)) × Int).1 0 = prtW a from rfl, vElements _ (by omega), bnd1_mk]
    by_cases h2 : (prtW a).all isSet = true
    · rw [if_pos h2, if_pos ⟨h, h2⟩]
    · rw [if_neg h2, if_neg (fun hh => h2 hh.2)]
  · rw [if_neg (show ¬ [a].all isSet = true by simpa using h), if_pos (by decide), if_neg (fun hh => h hh.1)]
theorem foldK_and {ρ : Type} (K : List (List UInt8) → Option ρ) : ∀ (L : List (List (List UInt8))) (out : List (List UInt8)), SLC out → (∀ x ∈ L, SLC x) → out.length ≤ 100000 → (∀ x ∈ L, x.length ≤ 100000) →
    ∃ r, foldK (fun s x k => bnd1 (m_finset_merge s x m_finset_common) k) K L out = K r ∧ SLC r ∧ (∀ y, y ∈ r ↔ y ∈ out ∧ ∀ x ∈ L, y ∈ x) ∧ r.length ≤ 100000
  | [], out, ho, _, hl, _ => ⟨out, rfl, ho, fun y => by simp, by omega⟩
  | x :: L, out, ho, hL, hl, hl' => by
    have hx := hl' x (by simp)
    obtain ⟨r, h1, h2⟩ := vMerge out x m_finset_common (fun p q => p && q) (fun p q => by unfold m_finset_common; rw [jn_eq]; cases p <;> rfl) ho (hL x (by simp)) (by omega) (by omega)
    have hm : ∀ y, y ∈ r ↔ y ∈ out ∧ y ∈ x := fun y => by rw [h2.2]; simp only [Bool.and_eq_true, decide_eq_true_eq]; exact ⟨fun h => h.1, fun h => ⟨h, .inl h.1⟩⟩
    have hlen := nodup_len (slc_nodup h2.1) (fun y hy => ((hm y).1 hy).1)
    obtain ⟨s, g1, g2, g3, g4⟩ := foldK_and K L r h2.1 (fun y hy => hL y (by simp [hy])) (by omega) (fun y hy => hl' y (by simp [hy]))
    refine ⟨s, by rw [foldK, h1, bnd1_mk, g1], g2, fun y => ?_, g4⟩
    rw [g3, hm]
    simp [and_assoc]
theorem sub_spec (a : List UInt8) : (((prtW a).map prtW).flatten).length ≤ 131072 ∧ (∀ x ∈ ((prtW a).map prtW).flatten, x.length ≤ 131072) ∧ (∀ x ∈ (prtW a).map prtW, x.length ≤ 65535) := by
  refine ⟨Nat.le_trans (sub_flat _) (prtW_spec a).2.2.2.1, fun x hx => ?_, fun x hx => ?_⟩
  · obtain ⟨l, hl, hx⟩ := List.mem_flatten.1 hx
    obtain ⟨v, hv, rfl⟩ := List.mem_map.1 hl
    exact ((prtW_spec v).1 x hx).2
  · obtain ⟨v, hv, rfl⟩ := List.mem_map.1 hx
    exact (prtW_spec v).2.1
theorem sub_slc {a : List UInt8} (h : (prtW a).all isSet = true) : ∀ x ∈ (prtW a).map prtW, SLC x := fun x hx => by
  obtain ⟨v, hv, rfl⟩ := List.mem_map.1 hx
  exact prtW_SLC (List.all_eq_true.1 h v hv)
noncomputable def biW (a : List UInt8) : List UInt8 × Int := if isSet a = true ∧ (prtW a).all isSet = true then (if prtW a = [] then ([], 12) else bndW ((prtW (gi (prtW a) 0)).filter (fun z => ((prtW a).drop 1).all (fun x => decide (z ∈ prtW x))))) else ([], 6)
theorem vBigInter (a : List UInt8) : m_finset_BigInter a = some (biW a) := by
  unfold m_finset_BigInter biW
  have hl := (prtW_spec a).2.1
  obtain ⟨s1, s2, s3⟩ := sub_spec a
  rw [vSetsF, bnd1_mk]
  by_cases h : isSet a = true ∧ (prtW a).all isSet = true
  · rw [if_pos h, if_pos h]
    generalize hy : (((prtW a).map prtW, 0) : List (List (List UInt8)) × Int) = y1
    have hg : y1.1 = (prtW a).map prtW := by rw [← hy]
    have hg0 : y1.2 = 0 := by rw [← hy]
    have hgl : y1.1.length = (prtW a).length := by rw [hg]; simp
    rw [if_neg (fun h => h hg0)]
    by_cases he : prtW a = []
    · rw [if_pos (by rw [hgl, he]; rfl), if_pos he]
    · have hpos : 0 < (prtW a).length := List.length_pos_iff.2 he
      rw [if_neg (by omega), if_neg he, need_pos (by omega), jn_eq, need_pos (by omega)]
      have hdl : (List.drop (Int.toNat 1) y1.1).length ≤ 65535 := by simp; omega
      have hh := loop_all (List.drop (Int.toNat 1) y1.1) (by omega) (fun n s i => m_finset_BigInter_L2 y1 (fun x => bnd1 (m_finset_set x) (fun y16 => some (y16.1, y16.2))) n s i) (fun s x k => bnd1 (m_finset_merge s x m_finset_common) k) (fun x => bnd1 (m_finset_set x) (fun y16 => some (y16.1, y16.2))) (fun n s i hi => by
          show m_finset_BigInter_L2 y1 _ (n + 1) _ _ = _
          rw [m_finset_BigInter_L2, m_finset_BigInter_B2, if_pos (by omega), need_pos (by omega), gi_nat hi, i64_succ (by omega)]) (fun n s => by
          show m_finset_BigInter_L2 y1 _ (n + 1) _ _ = _
          rw [m_finset_BigInter_L2, m_finset_BigInter_B2, if_neg (by omega)]) (gi y1.1 0)
      refine hh.trans ?_
      have hd : List.drop (Int.toNat 1) y1.1 = ((prtW a).drop 1).map prtW := by rw [hg, show Int.toNat 1 = 1 from rfl, List.map_drop]
      have h0 : gi y1.1 0 = prtW (gi (prtW a) 0) := by
        rw [hg]
        match prtW a, he with
        | x :: t, _ => rfl
      have hm0 : gi (prtW a) 0 ∈ prtW a := by
        match prtW a, he with
        | x :: t, _ => exact List.mem_cons_self
      rw [hd, h0]
      have hsl := sub_slc h.2
      obtain ⟨r, h1, h2, h3, h4⟩ := foldK_and (fun x => bnd1 (m_finset_set x) (fun y16 => some (y16.1, y16.2))) (((prtW a).drop 1).map prtW) (prtW (gi (prtW a) 0)) (hsl _ (List.mem_map_of_mem hm0)) (fun x hx => hsl x (by rw [List.map_drop] at hx; exact List.mem_of_mem_drop hx)) (by have := (prtW_spec (gi (prtW a) 0)).2.1; omega) (fun x hx => by have := s3 x (by rw [List.map_drop] at hx; exact List.mem_of_mem_drop hx); omega)
      rw [h1, vSetF r (by omega) (fun x hx => by
        have := ((prtW_spec (gi (prtW a) 0)).1 x ((h3 x).1 hx).1).2; omega) (.inl h2), bnd1_mk, bndW_congr (l := r) (l' := (prtW (gi (prtW a) 0)).filter (fun z => ((prtW a).drop 1).all (fun x => decide (z ∈ prtW x)))) (fun x => by rw [h3]; simp only [List.mem_filter, List.all_eq_true, decide_eq_true_eq, List.forall_mem_map])]
  · rw [if_neg h, if_neg h, if_pos (by decide)]
end Go.Proofs.Ytdbnodliomlilaa
/- Subsets and keys: program and reference agree. -/
namespace Go.Proofs.Ytdbnodliomlilaa
attribute [local irreducible] FU

noncomputable def bitB (b : Int) (i : Nat) : Bool := decide (bAnd .i64 (Int.fdiv b (2 ^ min i IntKind.i64.bits)) 1 = 1)
/-- The elements whose bits are set. -/
noncomputable def pickW (b : Int) : Nat → List (List UInt8) → List (List UInt8)
  | _, [] => []
  | i, x :: xs => if bitB b i = true then x :: pickW b (i + 1) xs else pickW b (i + 1) xs
theorem pickW_len (b : Int) : ∀ (l : List (List UInt8)) (i : Nat), (pickW b i l).length ≤ l.length
  | [], _ => by simp [pickW]
  | x :: xs, i => by
    have := pickW_len b xs (i + 1)
    rw [pickW]; split <;> simp <;> omega
theorem pickW_mem (b : Int) {y : List UInt8} : ∀ (l : List (List UInt8)) (i : Nat), y ∈ pickW b i l → y ∈ l
  | [], _, h => by simp [pickW] at h
  | x :: xs, i, h => by
    rw [pickW] at h
    split at h
    · rcases List.mem_cons.1 h with rfl | h
      · simp
      · simp [pickW_mem b xs (i + 1) h]
    · simp [pickW_mem b xs (i + 1) h]
theorem pow_i64 {n : Nat} (h : n ≤ 61) : i64 (1 * 2 ^ min (Int.toNat (n : Int)) IntKind.i64.bits) = ((2 ^ n : Nat) : Int) := by
  have h1 : 2 ^ n ≤ 2 ^ 61 := Nat.pow_le_pow_right (by omega) h
  rw [Int.toNat_natCast, show IntKind.i64.bits = 64 from rfl, Nat.min_eq_left (by omega), Int.one_mul]
  have : (2 : Int) ^ n = ((2 ^ n : Nat) : Int) := by simp
  rw [this]
  generalize 2 ^ n = N at h1 ⊢
  rw [i64_id (by omega)]
theorem u64_nat {n : Nat} (h : n ≤ 4611686018427387904) : IntKind.u64.wrap (n : Int) = (n : Int) := by
  unfold IntKind.wrap IntKind.bits IntKind.signed
  simp; omega
theorem vSub_in {y1 : List (List (List UInt8)) × Int} {l : List (List UInt8)} (hg : gi y1.1 0 = l) (hl : l.length ≤ 65535) (b : Int) (K : List (List UInt8) → Option (List UInt8 × Int)) : ∀ (m i n : Nat) (out : List (List UInt8)), i + m = l.length → m < n → out.length + m ≤ 100000 →
    m_finset_Subsets_L26 y1 b K n out i = K (out ++ pickW b i (l.drop i)) := by
  intro m
  induction m with
  | zero =>
    intro i n out hi hn ho
    obtain ⟨n, rfl⟩ : ∃ q, n = q + 1 := ⟨n - 1, by omega⟩
    rw [m_finset_Subsets_L26, m_finset_Subsets_B26, hg, if_neg (by omega), List.drop_eq_nil_of_le (by omega), pickW, List.append_nil]
  | succ m ih =>
    intro i n out hi hn ho
    obtain ⟨n, rfl⟩ : ∃ q, n = q + 1 := ⟨n - 1, by omega⟩
    have hil : i < l.length := by omega
    rw [m_finset_Subsets_L26, m_finset_Subsets_B26, hg, if_pos (by omega)]
    simp only [jn_eq]
    rw [need_pos (by omega), need_pos (by omega), gi_nat hil, i64_succ (by omega), List.drop_eq_getElem_cons hil, pickW, Int.toNat_natCast]
    by_cases hb : bAnd .i64 (Int.fdiv b (2 ^ min i IntKind.i64.bits)) 1 = 1
    · rw [if_pos hb, if_pos (show bitB b i = true from decide_eq_true hb), need_pos (by simp; omega), ih (i + 1) n _ (by omega) (by omega) (by simp; omega)]; simp
    · rw [if_neg hb, if_neg (show ¬ bitB b i = true from fun h => hb (of_decide_eq_true h)), ih (i + 1) n _ (by omega) (by omega) (by omega)]
/-- The sets for the numbers from j, m of them. -/
noncomputable def subsF (l : List (List UInt8)) (j m : Nat) : List (List UInt8) := (List.range' j m).map (fun b : Nat => setW (pickW (b : Int) 0 l))
theorem vSub_out {y1 : List (List (List UInt8)) × Int} {l : List (List UInt8)} (hg : gi y1.1 0 = l) (h1 : y1.1.length = 1) (hl : l.length ≤ 12) (hx : ∀ x ∈ l, x.length ≤ 1099511627776) (K : List (List UInt8) → Option (List UInt8 × Int)) : ∀ (m j n : Nat) (out : List (List UInt8)), j + m = 2 ^ l.length → m < n → out.length + m ≤ 100000 →
    m_finset_Subsets_L14 y1 K n out j = K (out ++ subsF l j m) := by
  have hFU := FU_ge
  have h2 : 2 ^ l.length ≤ 2 ^ 12 := Nat.pow_le_pow_right (by omega) hl
  intro m
  induction m with
  | zero =>
    intro j n out hi hn ho
    obtain ⟨n, rfl⟩ : ∃ q, n = q + 1 := ⟨n - 1, by omega⟩
    rw [m_finset_Subsets_L14, m_finset_Subsets_B14, hg, pow_i64 (by omega), if_neg (by omega)]
    simp [subsF]
  | succ m ih =>
    intro j n out hi hn ho
    obtain ⟨n, rfl⟩ : ∃ q, n = q + 1 := ⟨n - 1, by omega⟩
    rw [m_finset_Subsets_L14, m_finset_Subsets_B14, hg, pow_i64 (by omega), if_pos (by omega)]
    simp only [jn_eq]
    have hin := vSub_in hg (by omega) (j : Int) (fun x9_j658 => bnd1 (m_value_Set x9_j658) (fun y712 => need (List.length out + List.length [y712] ≤ 137438953472) (m_finset_Subsets_L14 y1 K n (out ++ [y712]) (i64 ((j : Int) + 1))))) l.length 0 FU [] (by omega) (by omega) (by simp; omega)
    rw [Int.natCast_zero] at hin
    have hp := pickW_len (j : Int) l 0
    rw [need_pos (by omega), hin, List.nil_append, List.drop_zero, vSet _ (by omega) (fun x h => hx x (pickW_mem _ _ _ h)), bnd1_mk, need_pos (by simp; omega), i64_succ (by omega), ih (j + 1) n _ (by omega) (by omega) (by simp; omega)]
    simp [subsF, List.range'_succ]
noncomputable def ssW (a : List UInt8) : List UInt8 × Int := if isSet a = true then (if 12 < (prtW a).length then ([], 9) else bndW (subsF (prtW a) 0 (2 ^ (prtW a).length))) else ([], 6)
theorem vSubsets (a : List UInt8) : m_finset_Subsets a = some (ssW a) := by
  have hFU := FU_ge
  unfold m_finset_Subsets ssW
  have hl := (prtW_spec a).2.1
  rw [vElements _ (by simp), bnd1_mk]
  by_cases h : isSet a = true
  · rw [if_pos (show [a].all isSet = true by simp [h]), if_pos h, List.map_cons, List.map_nil]
    generalize hy : (([prtW a], 0) : List (List (List UInt8)) × Int) = y1
    have hg : gi y1.1 0 = prtW a := by rw [← hy]; rfl
    have hg0 : y1.2 = 0 := by rw [← hy]
    have hgl : y1.1.length = 1 := by rw [← hy]; rfl
    rw [if_neg (fun h => h hg0), need_pos (by omega), hg]
    simp only [jn_eq]
    by_cases h62 : 62 ≤ (prtW a).length
    · rw [if_pos (by omega), if_pos trivial, if_pos (by omega)]
    · rw [if_neg (by omega), need_pos (by omega), pow_i64 (by omega)]
      by_cases h12 : 12 < (prtW a).length
      · have : 2 ^ 13 ≤ 2 ^ (prtW a).length := Nat.pow_le_pow_right (by omega) h12
        rw [if_pos (decide_eq_true (by omega)), if_pos h12]
      · have h2 : 2 ^ (prtW a).length ≤ 2 ^ 12 := Nat.pow_le_pow_right (by omega) (by omega)
        have hx : ∀ x ∈ prtW a, x.length ≤ 1099511627776 := fun x hx => by have := ((prtW_spec a).1 x hx).2; omega
        have hout := vSub_out hg hgl (by omega) hx (fun x => bnd1 (m_finset_set x) (fun y715 => some (y715.1, y715.2))) (2 ^ (prtW a).length) 0 FU [] (by omega) (by omega) (by simp; omega)
        rw [Int.natCast_zero] at hout
        have hlen : (subsF (prtW a) 0 (2 ^ (prtW a).length)).length = 2 ^ (prtW a).length := by simp [subsF]
        rw [if_neg (fun h => by have := of_decide_eq_true h; omega), if_neg h12, need_pos (by omega), hout, List.nil_append, vSetF _ (by omega) (fun x hx => by
          obtain ⟨b, _, rfl⟩ := List.mem_map.1 hx
          have := setW_len (pickW (b : Int) 0 (prtW a)); omega) (.inr (by omega)), bnd1_mk]
  · rw [if_neg (show ¬ [a].all isSet = true by simpa using h), if_pos (by decide), if_neg h]
/-! ### Keys -/
end Go.Proofs.Ytdbnodliomlilaa
/- Integers as values; sets of them; the check of awake. -/
namespace Go.Proofs.Ytdbnodliomlilaa
attribute [local irreducible] FU

/-- The last k bytes of w. -/
def byD (w : Nat) : Nat → List UInt8
  | 0 => []
  | k + 1 => u8i ((w / 2 ^ (8 * k) : Nat) : Int) :: byD w k
theorem byD_len (w : Nat) : ∀ k, (byD w k).length = k
  | 0 => rfl
  | k + 1 => by simp [byD, byD_len w k]
theorem beNat_cons (b : UInt8) (l : List UInt8) : beNat (b :: l) = b.toNat * 256 ^ l.length + beNat l := by
  have key : ∀ (l : List UInt8) (a : Nat), l.foldl (fun n b => n * 256 + b.toNat) a = a * 256 ^ l.length + beNat l := by
    intro l
    induction l with
    | nil => intro a; simp [beNat]
    | cons x l ih =>
      intro a
      have e : beNat (x :: l) = x.toNat * 256 ^ l.length + beNat l := by
        have := ih (0 * 256 + x.toNat)
        simpa [beNat] using this
      rw [List.foldl_cons, ih, e, List.length_cons, Nat.pow_succ, Nat.add_mul, Nat.mul_assoc, Nat.mul_comm 256]
      omega
  have := key l b.toNat
  simpa [beNat] using this
theorem pow8 (k : Nat) : 256 ^ k = 2 ^ (8 * k) := by rw [Nat.pow_mul]
theorem beNat_byD (w : Nat) : ∀ k, beNat (byD w k) = w % 2 ^ (8 * k)
  | 0 => by simp [byD, beNat, Nat.mod_one]
  | k + 1 => by
    rw [byD, beNat_cons, byD_len, u8i_nat, beNat_byD w k, pow8, show 8 * (k + 1) = 8 * k + 8 by omega, Nat.pow_add, Nat.mod_mul, Nat.mul_comm, Nat.add_comm, Nat.mul_comm]
def wOf (n : Int) : Nat := (n % 18446744073709551616).toNat
theorem u64_mod (x : Int) : IntKind.u64.wrap x = (wOf x : Int) := by rw [wrap_u64]; unfold wOf; omega
theorem fdiv_pow (w k : Nat) (hk : 8 * k ≤ 64) : Int.fdiv (w : Int) (2 ^ min (Int.toNat ((8 * k : Nat) : Int)) IntKind.u64.bits) = ((w / 2 ^ (8 * k) : Nat) : Int) := by
  rw [Int.toNat_natCast, show IntKind.u64.bits = 64 from rfl, Nat.min_eq_left hk]
  have : (2 : Int) ^ (8 * k) = ((2 ^ (8 * k) : Nat) : Int) := by simp
  rw [this, Int.fdiv_eq_ediv_of_nonneg _ (Int.natCast_nonneg _)]
  rfl
noncomputable def intW (n : Int) : List UInt8 := 1 :: byD (wOf n) 8
theorem vAppend64 (w : Nat) (K : List UInt8 → Option (List UInt8)) : ∀ (k n : Nat) (out : List UInt8), k ≤ 8 → k < n → out.length + k ≤ 100 → m_value_append64_L2 w K n out (8 * (k : Int) - 8) = K (out ++ byD w k) := by
  intro k
  induction k with
  | zero =>
    intro n out hk hn ho
    obtain ⟨n, rfl⟩ : ∃ q, n = q + 1 := ⟨n - 1, by omega⟩
    rw [m_value_append64_L2, m_value_append64_B2, if_neg (by omega)]
    simp [byD]
  | succ k ih =>
    intro n out hk hn ho
    obtain ⟨n, rfl⟩ : ∃ q, n = q + 1 := ⟨n - 1, by omega⟩
    have e : 8 * ((k + 1 : Nat) : Int) - 8 = ((8 * k : Nat) : Int) := by omega
    have e2 : i64 (((8 * k : Nat) : Int) - 8) = 8 * (k : Int) - 8 := by rw [i64_id (by omega)]; omega
    rw [e, m_value_append64_L2, m_value_append64_B2, if_pos (by omega), need_pos (by omega), fdiv_pow w k (by omega), need_pos (by simp; omega), e2, ih n _ (by omega) (by omega) (by simp; omega)]
    simp [byD]
theorem vInt (n : Int) : m_value_Int n = some (intW n) := by
  have hFU := FU_ge
  unfold m_value_Int m_value_append64
  have h := vAppend64 (wOf n) (fun x => some x) 8 FU [1] (by omega) (by omega) (by simp)
  rw [show 8 * ((8 : Nat) : Int) - 8 = 56 from rfl] at h
  rw [u64_mod, jn_eq]
  rw [h, bnd1_mk]; rfl
theorem set_byD (w k : Nat) (hk : k < 8) : List.set (List.replicate (8 - k) (0 : UInt8) ++ byD w k) (7 - k) (u8i ((w / 2 ^ (8 * k) : Nat) : Int)) = List.replicate (8 - (k + 1)) (0 : UInt8) ++ byD w (k + 1) := by
  rw [show 8 - k = (8 - (k + 1)) + 1 by omega, List.replicate_succ', List.append_assoc, List.set_append_right _ _ (by simp)]
  have : 7 - k - (List.replicate (8 - (k + 1)) (0 : UInt8)).length = 0 := by simp
  rw [this]; rfl
theorem rEight_loop (n0 : Int) (K : List UInt8 → Option (List UInt8)) : ∀ (m k n : Nat), k + m = 8 → m < n → m_ref9_eight_L2 n0 K n (List.replicate (8 - k) (0 : UInt8) ++ byD (wOf n0) k) k = K (byD (wOf n0) 8) := by
  intro m
  induction m with
  | zero =>
    intro k n hk hn
    obtain ⟨n, rfl⟩ : ∃ q, n = q + 1 := ⟨n - 1, by omega⟩
    obtain rfl : k = 8 := by omega
    rw [m_ref9_eight_L2, m_ref9_eight_B2, if_neg (by omega)]
    simp
  | succ m ih =>
    intro k n hk hn
    obtain ⟨n, rfl⟩ : ∃ q, n = q + 1 := ⟨n - 1, by omega⟩
    have e1 : i64 (8 * (k : Int)) = ((8 * k : Nat) : Int) := by rw [i64_id (by omega)]; omega
    have e2 : i64 (7 - (k : Int)) = ((7 - k : Nat) : Int) := by rw [i64_id (by omega)]; omega
    rw [m_ref9_eight_L2, m_ref9_eight_B2, if_pos (by omega), e1, u64_nat (by omega), need_pos (by omega), e2, need_pos (by simp [byD_len]; omega), Int.toNat_natCast (7 - k), u64_mod, fdiv_pow _ k (by omega), i64_succ (by omega)]
    rw [set_byD (wOf n0) k (by omega)]
    exact ih (k + 1) n (by omega) (by omega)
theorem rInt (n : Int) : m_ref9_Int n = some (intW n) := by
  have hFU := FU_ge
  unfold m_ref9_Int m_ref9_eight
  have h := rEight_loop n (fun x => some x) 8 0 FU (by omega) (by omega)
  rw [Int.natCast_zero] at h
  rw [need_pos (by omega), jn_eq]
  rw [show List.replicate (Int.toNat 8) (0 : UInt8) = List.replicate (8 - 0) (0 : UInt8) ++ byD (wOf n) 0 from rfl, h, bnd1_mk, need_pos (by simp [byD_len])]
  rfl
theorem intW_IsV (n : Int) (k : Nat) : IsV (k + 1) (intW n) := .int k _ (byD_len _ 8)
theorem intW_len (n : Int) : (intW n).length = 9 := by simp [intW, byD_len]
theorem numV_intW {n : Int} (h : -9223372036854775808 ≤ n ∧ n ≤ 9223372036854775807) : numV (intW n) = n := by
  unfold numV intW
  rw [List.drop_succ_cons, List.drop_zero, beNat_byD]
  have e : wOf n % 2 ^ (8 * 8) = wOf n := Nat.mod_eq_of_lt (by unfold wOf; omega)
  rw [e]
  unfold wOf i64
  rw [show (((n % 18446744073709551616).toNat : Nat) : Int) = n % 18446744073709551616 by omega]
  unfold IntKind.wrap IntKind.bits IntKind.signed
  simp; split <;> omega
theorem intW_inj {a b : Int} (ha : -9223372036854775808 ≤ a ∧ a ≤ 9223372036854775807) (hb : -9223372036854775808 ≤ b ∧ b ≤ 9223372036854775807) (h : intW a = intW b) : a = b := by
  rw [← numV_intW ha, ← numV_intW hb, h]

/-! ### Sets that are valid -/
theorem flat_le {l : List (List UInt8)} {c : Nat} (h : ∀ x ∈ l, x.length ≤ c) : l.flatten.length ≤ c * l.length := by
  induction l with
  | nil => simp
  | cons x l ih =>
    have h1 := h x (by simp)
    have h2 := ih (fun y hy => h y (by simp [hy]))
    simp only [List.flatten_cons, List.length_append, List.length_cons, Nat.mul_add, Nat.mul_one]
    omega
theorem SLC_ascB : ∀ {ps : List (List UInt8)}, (∀ p ∈ ps, Vd p) → SLC ps → ascB ps = true
  | [], _, _ => rfl
  | [_], _, _ => rfl
  | x :: y :: t, hv, h => by
    obtain ⟨h1, h2⟩ := List.pairwise_cons.1 h
    have := h1 y (by simp)
    rw [cmpC_val (hv x (by simp)) (hv y (by simp))] at this
    rw [ascB, SLC_ascB (fun p hp => hv p (by simp [hp])) h2, decide_eq_true this]; rfl
/-- A set of valid values that is neither too deep nor too long. -/
theorem set_ok {l : List (List UInt8)} {k : Nat} (hk : k ≤ 31) (hv : ∀ x ∈ l, IsV k x) (hl : (sortW l).length ≤ 65535) (hs : 3 + (sortW l).flatten.length ≤ 131072) :
    setW l = raw 5 (sortW l) ∧ IsV (k + 1) (setW l) ∧ prtW (setW l) = sortW l ∧ isSet (setW l) = true ∧ setW l ≠ [] ∧ (setW l).length ≤ 131072 := by
  have hm := (sortW_spec l).2.1
  have hV : ∀ x ∈ sortW l, Vd x := fun x hx => ⟨(hv x ((hm x).1 hx)).le (by omega), by have := flat_mem hx; omega⟩
  have hI : IsV (k + 1) (raw 5 (sortW l)) := .comp k 5 _ _ (sortW l) (by decide) (raw_count hl) (fun x hx => hv x ((hm x).1 hx)) (by
    have := SLC_ascB hV (sortW_spec l).1
    simpa [formedB] using this)
  have hVr : Vd (raw 5 (sortW l)) := ⟨hI.le (by omega), by rw [raw_len]; omega⟩
  have he : setW l = raw 5 (sortW l) := cmpd_yes ⟨hl, hV, hVr⟩
  have hvb := vldB_iff.2 hVr
  rw [he]
  refine ⟨rfl, hI, ?_, ?_, by simp [raw], hVr.2⟩
  · unfold prtW; rw [if_pos hvb]; exact prt_raw (by decide) hl hV
  · unfold isSet kindW; rw [if_pos hvb]; rfl
theorem bnd_ok {l : List (List UInt8)} (h : (sortW l).length ≤ 4096) (hn : setW l ≠ []) : bndW l = (setW l, 0) := by
  unfold bndW; rw [if_neg]; rintro (h' | h')
  · omega
  · exact hn h'
theorem sort_nodup {l : List (List UInt8)} (h : l.Nodup) : (sortW l).length = l.length :=
  Nat.le_antisymm (sortW_spec l).2.2 (nodup_len h (fun x hx => ((sortW_spec l).2.1 x).2 hx))

/-! ### The subsets are different -/
theorem bitB_test (b i : Nat) (hb : b < 2 ^ 62) (hi : i ≤ 62) : bitB (b : Int) i = b.testBit i := by
  unfold bitB
  rw [show IntKind.i64.bits = 64 from rfl, Nat.min_eq_left (by omega)]
  have : (2 : Int) ^ i = ((2 ^ i : Nat) : Int) := by simp
  have h2 : b / 2 ^ i ≤ b := Nat.div_le_self _ _
  have e : Int.fdiv (b : Int) ((2 ^ i : Nat) : Int) = ((b / 2 ^ i : Nat) : Int) := by rw [Int.fdiv_eq_ediv_of_nonneg _ (Int.natCast_nonneg _)]; rfl
  rw [this, e, show (1 : Int) = ((1 : Nat) : Int) from rfl, bAnd_nat _ _ (by omega) (by omega), Nat.and_one_is_mod, Nat.testBit_eq_decide_div_mod_eq]
  congr 1
  simp only [eq_iff_iff]; omega
theorem pickW_iff (b : Nat) (hb : b < 2 ^ 62) : ∀ (l : List (List UInt8)) (i : Nat), l.Nodup → i + l.length ≤ 62 → ∀ q (h : q < l.length), l[q] ∈ pickW b i l ↔ b.testBit (i + q) = true
  | [], _, _, _, q, h => by simp at h
  | x :: xs, i, hn, hl, q, h => by
    obtain ⟨n1, n2⟩ := List.nodup_cons.1 hn
    simp only [List.length_cons] at hl h
    have hx : x ∉ pickW b (i + 1) xs := fun hh => n1 (pickW_mem _ _ _ hh)
    rw [pickW, bitB_test b i hb (by omega)]
    cases q with
    | zero =>
      simp only [List.getElem_cons_zero, Nat.add_zero]
      split
      · rename_i ht; simp [ht]
      · rename_i ht; simp [ht, hx]
    | succ q =>
      have ih := pickW_iff b hb xs (i + 1) n2 (by omega) q (by omega)
      rw [show i + 1 + q = i + (q + 1) by omega] at ih
      have hne : xs[q] ≠ x := fun e => n1 (e ▸ List.getElem_mem _)
      simp only [List.getElem_cons_succ]
      split
      · rw [List.mem_cons, ih]; simp [hne]
      · exact ih
theorem pickW_sub (b : Int) : ∀ (l : List (List UInt8)) (i : Nat), (pickW b i l).Sublist l
  | [], _ => by simp [pickW]
  | x :: xs, i => by
    rw [pickW]; split
    · exact (pickW_sub b xs (i + 1)).cons_cons x
    · exact (pickW_sub b xs (i + 1)).cons x
theorem pickW_inj {l : List (List UInt8)} (hn : l.Nodup) (hl : l.length ≤ 61) {a b : Nat} (ha : a < 2 ^ l.length) (hb : b < 2 ^ l.length) (h : pickW (a : Int) 0 l = pickW (b : Int) 0 l) : a = b := by
  have h62 : 2 ^ l.length ≤ 2 ^ 61 := Nat.pow_le_pow_right (by omega) hl
  refine Nat.eq_of_testBit_eq fun i => ?_
  by_cases hi : i < l.length
  · have h1 := pickW_iff a (by omega) l 0 hn (by omega) i hi
    have h2 := pickW_iff b (by omega) l 0 hn (by omega) i hi
    rw [Nat.zero_add] at h1 h2
    rw [h, h2] at h1
    cases e1 : a.testBit i <;> cases e2 : b.testBit i <;> simp_all
  · have : 2 ^ l.length ≤ 2 ^ i := Nat.pow_le_pow_right (by omega) (by omega)
    rw [Nat.testBit_lt_two_pow (by omega), Nat.testBit_lt_two_pow (by omega)]
/-- The set of subsets of a set of small values. -/
theorem subs_ok {l : List (List UInt8)} {k : Nat} (hk : k ≤ 30) (hs : SLC l) (hv : ∀ x ∈ l, IsV k x) (hl : l.length ≤ 12) (hx : ∀ x ∈ l, x.length ≤ 9) (hsz : 2 ^ l.length * (9 * l.length + 3) + 3 ≤ 131072) :
    let S := subsF l 0 (2 ^ l.length)
    (∀ x ∈ S, IsV (k + 1) x) ∧ (∀ b : Nat, b < 2 ^ l.length → prtW (setW (pickW (b : Int) 0 l)) = pickW (b : Int) 0 l ∧ isSet (setW (pickW (b : Int) 0 l)) = true) ∧ S.Nodup ∧ S.length = 2 ^ l.length ∧ bndW S = (setW S, 0) ∧ prtW (setW S) = sortW S ∧ isSet (setW S) = true ∧ (sortW S).length = 2 ^ l.length := by
  intro S
  have h2 : 2 ^ l.length ≤ 2 ^ 12 := Nat.pow_le_pow_right (by omega) hl
  have hpos : 0 < 2 ^ l.length := Nat.two_pow_pos _
  have hbig : 9 * l.length + 3 ≤ 2 ^ l.length * (9 * l.length + 3) := Nat.le_mul_of_pos_left _ hpos
  have hone : ∀ b : Nat, setW (pickW (b : Int) 0 l) = raw 5 (sortW (pickW (b : Int) 0 l)) ∧ IsV (k + 1) (setW (pickW (b : Int) 0 l)) ∧ prtW (setW (pickW (b : Int) 0 l)) = pickW (b : Int) 0 l ∧ isSet (setW (pickW (b : Int) 0 l)) = true ∧ (setW (pickW (b : Int) 0 l)).length ≤ 9 * l.length + 3 := by
    intro b
    have hsl : SLC (pickW (b : Int) 0 l) := List.Pairwise.sublist (pickW_sub _ _ _) hs
    have hid := sortW_id hsl
    have hle := pickW_len (b : Int) l 0
    have hfl : (pickW (b : Int) 0 l).flatten.length ≤ 9 * (pickW (b : Int) 0 l).length := flat_le (fun x h => hx x (pickW_mem _ _ _ h))
    obtain ⟨a1, a2, a3, a4, _, _⟩ := set_ok (l := pickW (b : Int) 0 l) (k := k) (by omega) (fun x h => hv x (pickW_mem _ _ _ h)) (by rw [hid]; omega) (by rw [hid]; omega)
    rw [hid] at a3
    refine ⟨a1, a2, a3, a4, ?_⟩
    rw [a1, raw_len, hid]; omega
  have hlen : S.length = 2 ^ l.length := by simp [S, subsF]
  have hnd : S.Nodup := by
    refine List.pairwise_map.2 (List.Pairwise.imp_of_mem ?_ (List.nodup_range' (s := 0) (n := 2 ^ l.length)))
    intro a b ha hb hab he
    simp at ha hb
    have := congrArg prtW he
    rw [(hone a).2.2.1, (hone b).2.2.1] at this
    exact hab (pickW_inj (slc_nodup hs) (by omega) ha hb this)
  have hall : ∀ x ∈ S, IsV (k + 1) x ∧ x.length ≤ 9 * l.length + 3 := fun x hx => by
    obtain ⟨b, _, rfl⟩ := List.mem_map.1 hx
    exact ⟨(hone b).2.1, (hone b).2.2.2.2⟩
  have hsl := sort_nodup hnd
  have hfl : (sortW S).flatten.length ≤ (9 * l.length + 3) * (sortW S).length := flat_le (fun x h => (hall x (((sortW_spec S).2.1 x).1 h)).2)
  rw [hsl, hlen, Nat.mul_comm] at hfl
  obtain ⟨b1, b2, b3, b4, b5, _⟩ := set_ok (l := S) (k := k + 1) (by omega) (fun x h => (hall x h).1) (by omega) (by omega)
  exact ⟨fun x h => (hall x h).1, fun b _ => ⟨(hone b).2.2.1, (hone b).2.2.2.1⟩, hnd, hlen, bnd_ok (by omega) b5, b3, b4, by omega⟩

/-! ### Ranges -/
/-- m integers from a on. -/
noncomputable def runW (a : Int) (m : Nat) : List (List UInt8) := (List.range m).map (fun i : Nat => intW (a + i))
theorem runW_len (a : Int) (m : Nat) : (runW a m).length = m := by simp [runW]
theorem runW_succ (a : Int) (m : Nat) : runW a (m + 1) = intW a :: runW (a + 1) m := by
  unfold runW
  rw [List.range_succ_eq_map, List.map_cons, List.map_map]
  simp only [Int.natCast_zero, Int.add_zero]
  congr 1
  refine List.map_congr_left fun i _ => ?_
  show intW (a + ((i + 1 : Nat) : Int)) = intW (a + 1 + (i : Int))
  congr 1; omega
theorem runW_nodup {a : Int} {m : Nat} (h : -9223372036854775808 ≤ a ∧ a + m ≤ 9223372036854775808) : (runW a m).Nodup := by
  refine List.pairwise_map.2 (List.Pairwise.imp_of_mem ?_ List.nodup_range)
  intro i j hi hj hne he
  simp at hi hj
  have := intW_inj (a := a + i) (b := a + j) (by omega) (by omega) he
  omega
theorem runW_spec (a : Int) (m : Nat) : (∀ x ∈ runW a m, x.length ≤ 9) ∧ ∀ k, ∀ x ∈ runW a m, IsV (k + 1) x := by
  refine ⟨fun x hx => ?_, fun k x hx => ?_⟩
  · obtain ⟨i, _, rfl⟩ := List.mem_map.1 hx; rw [intW_len]; omega
  · obtain ⟨i, _, rfl⟩ := List.mem_map.1 hx; exact intW_IsV _ _
theorem vRange_loop (b : Int) (hb : b ≤ 9223372036854775807) (K : List (List UInt8) → Option (List UInt8 × Int)) : ∀ (m n : Nat) (a : Int) (out : List (List UInt8)), -9223372036854775808 ≤ a → a + m = b + 1 → 0 < m → m ≤ n → out.length + m ≤ 1000000 → m_finset_Range_L2 b K n out a = K (out ++ runW a m) := by
  intro m
  induction m with
  | zero => intro n a out _ _ h; omega
  | succ m ih =>
    intro n a out h1 h2 _ hn ho
    obtain ⟨n, rfl⟩ : ∃ q, n = q + 1 := ⟨n - 1, by omega⟩
    rw [m_finset_Range_L2, m_finset_Range_B2, if_pos (by omega), vInt, bnd1_mk, need_pos (by simp; omega)]
    by_cases h : a = b
    · obtain rfl : m = 0 := by omega
      rw [if_pos h, runW_succ]; rfl
    · rw [if_neg h, i64_id (by omega), ih n (a + 1) _ (by omega) (by omega) (by omega) (by omega) (by simp; omega), runW_succ]; simp
theorem run_set {a : Int} {m : Nat} (h : -9223372036854775808 ≤ a ∧ a + m ≤ 9223372036854775808) (hm : m ≤ 4096) : bndW (runW a m) = (setW (runW a m), 0) ∧ prtW (setW (runW a m)) = sortW (runW a m) ∧ isSet (setW (runW a m)) = true ∧ (sortW (runW a m)).length = m ∧ IsV 2 (setW (runW a m)) := by
  have hn := sort_nodup (runW_nodup h)
  rw [runW_len] at hn
  have hfl : (sortW (runW a m)).flatten.length ≤ 9 * (sortW (runW a m)).length := flat_le (fun x hx => (runW_spec a m).1 x (((sortW_spec _).2.1 x).1 hx))
  obtain ⟨b1, b2, b3, b4, b5, _⟩ := set_ok (l := runW a m) (k := 1) (by omega) ((runW_spec a m).2 0) (by omega) (by omega)
  exact ⟨bnd_ok (by omega) b5, b3, b4, hn, b2⟩
theorem vRange {a b : Int} (ha : -9223372036854775808 ≤ a) (hb : b ≤ 9223372036854775807) (hb0 : -9223372036854775808 ≤ b) (ha1 : a ≤ 9223372036854775807) : m_finset_Range a b = some (if a ≤ b ∧ 4096 ≤ b - a then ([], 9) else bndW (runW a (b - a + 1).toNat)) := by
  have hFU := FU_ge
  unfold m_finset_Range
  simp only [jn_eq]
  have hset : ∀ m : Nat, m ≤ 4096 → m_finset_set (runW a m) = some (bndW (runW a m)) := fun m hm => vSetF _ (by rw [runW_len]; omega) (fun x hx => by have := (runW_spec a m).1 x hx; omega) (.inr (by rw [runW_len]; omega))
  by_cases hab : a ≤ b
  · have e : IntKind.u64.wrap (IntKind.u64.wrap b - IntKind.u64.wrap a) = b - a := by simp only [wrap_u64]; omega
    rw [if_pos hab, e]
    by_cases hc : 4096 ≤ b - a
    · rw [if_pos (decide_eq_true hc), if_pos ⟨hab, hc⟩]
    · rw [if_neg (fun h => hc (of_decide_eq_true h)), if_neg (fun h => hc h.2)]
      rw [vRange_loop b hb _ (b - a + 1).toNat FU a [] ha (by omega) (by omega) (by omega) (by simp; omega), List.nil_append, hset _ (by omega), bnd1_mk]
  · obtain ⟨n, hn⟩ := FU_k 1 (by omega)
    rw [if_neg hab, if_neg (by simp), if_neg (fun h => hab h.1), hn, m_finset_Range_L2, m_finset_Range_B2, if_neg hab, show (b - a + 1).toNat = 0 by omega]
    have := hset 0 (by omega)
    rw [show runW a 0 = [] from rfl] at this ⊢
    rw [this, bnd1_mk]
theorem awake_true : m_law10_awake = some true := by
  unfold m_law10_awake
  rw [vRange (by omega) (by omega) (by omega) (by omega), if_neg (by omega), show ((2 : Int) - 1 + 1).toNat = 2 from rfl]
  obtain ⟨r1, r2, r3, r4, r5⟩ := run_set (a := 1) (m := 2) (by omega) (by omega)
  have hl : (sortW (runW 1 2)).length = 2 := r4
  have hmm := (sortW_spec (runW 1 2)).2.1
  obtain ⟨_, _, _, _, s1, s2, s3, s4⟩ := subs_ok (l := sortW (runW 1 2)) (k := 1) (by omega) (sortW_spec _).1 (fun x hx => (runW_spec 1 2).2 0 x ((hmm x).1 hx)) (by omega) (fun x hx => (runW_spec 1 2).1 x ((hmm x).1 hx)) (by rw [hl]; omega)
  have hss : ssW (setW (runW 1 2)) = (setW (subsF (sortW (runW 1 2)) 0 (2 ^ (sortW (runW 1 2)).length)), 0) := by
    unfold ssW
    rw [if_pos r3, r2, if_neg (by omega), s1]
  have h0 : sortW [] = [] := by
    have := (sortW_spec []).2.2
    exact List.length_eq_zero_iff.1 (by simpa using this)
  obtain ⟨n1, n2, n3, n4, _, _⟩ := set_ok (l := []) (k := 1) (by omega) (by simp) (by rw [h0]; simp) (by rw [h0]; simp)
  rw [h0] at n3
  have hbi : biW (setW []) = ([], 12) := by
    unfold biW
    rw [if_pos ⟨n4, by rw [n3]; rfl⟩, if_pos n3]
  rw [r1, bnd1_mk, vSubsets, hss, bnd1_mk, rSet [] (by simp), bnd1_mk, vBigInter, hbi, bnd1_mk]
  simp only [jn_eq]
  rw [if_pos trivial, rInt, rInt, bnd1_mk, bnd1_mk, rSet _ (by simp), bnd1_mk, if_pos (show setW (runW 1 2) = setW [intW 1, intW 2] from rfl), if_pos trivial, rPartsW, s2, bnd1_mk, s4, hl, if_pos (by decide)]
  rfl
end Go.Proofs.Ytdbnodliomlilaa
/- The generator of values always returns. -/
namespace Go.Proofs.Ytdbnodliomlilaa
attribute [local irreducible] FU

/-! ### What is made always comes back -/
end Go.Proofs.Ytdbnodliomlilaa
/- The laws of sets of small integers: FinsetAlgebra, FinsetSubsetsCount. -/
namespace Go.Proofs.Ytdbnodliomlilaa
attribute [local irreducible] FU

/-- A small integer. -/
def SI (x : List UInt8) : Prop := ∃ k : Int, 0 ≤ k ∧ k < 6 ∧ x = intW k
theorem SI.IsV {x : List UInt8} (h : SI x) (k : Nat) : IsV (k + 1) x := by obtain ⟨n, _, _, rfl⟩ := h; exact intW_IsV n k
theorem SI.len {x : List UInt8} (h : SI x) : x.length = 9 := by obtain ⟨n, _, _, rfl⟩ := h; exact intW_len n
end Go.Proofs.Ytdbnodliomlilaa
/- Products and ranges: FinsetLimits. -/
namespace Go.Proofs.Ytdbnodliomlilaa
attribute [local irreducible] FU

theorem rRange_loop (b : Int) (hb : b ≤ 9223372036854775807) (K : List (List UInt8) → Option (List UInt8 × Int)) : ∀ (m n : Nat) (a : Int) (out : List (List UInt8)), -9223372036854775808 ≤ a → a + m = b + 1 → m < n → out.length ≤ 4096 → (out.length + m ≤ 4096 → m_ref9_Range_L2 b K n out a = K (out ++ runW a m)) := by
  intro m
  induction m with
  | zero =>
    intro n a out h1 h2 hn _ ho
    obtain ⟨n, rfl⟩ : ∃ q, n = q + 1 := ⟨n - 1, by omega⟩
    rw [m_ref9_Range_L2, m_ref9_Range_B2, if_neg (by omega), show runW a 0 = [] from rfl, List.append_nil]
  | succ m ih =>
    intro n a out h1 h2 hn _ ho
    obtain ⟨n, rfl⟩ : ∃ q, n = q + 1 := ⟨n - 1, by omega⟩
    rw [m_ref9_Range_L2, m_ref9_Range_B2, if_pos (by omega), if_neg (by omega), rInt, bnd1_mk, need_pos (by simp; omega)]
    by_cases h : a = 9223372036854775807
    · obtain rfl : m = 0 := by omega
      rw [if_pos h, runW_succ]; rfl
    · rw [if_neg h, i64_id (by omega), ih n (a + 1) _ (by omega) (by omega) (by omega) (by simp; omega) (by simp; omega), runW_succ]; simp
theorem rRange_over (b : Int) (hb : b ≤ 9223372036854775807) (K : List (List UInt8) → Option (List UInt8 × Int)) : ∀ (m n : Nat) (a : Int) (out : List (List UInt8)), -9223372036854775808 ≤ a → out.length + m = 4096 → m < n → a + m ≤ b → m_ref9_Range_L2 b K n out a = some ([], 9) := by
  intro m
  induction m with
  | zero =>
    intro n a out h1 h2 hn h3
    obtain ⟨n, rfl⟩ : ∃ q, n = q + 1 := ⟨n - 1, by omega⟩
    rw [m_ref9_Range_L2, m_ref9_Range_B2, if_pos (by omega), if_pos (by omega)]
  | succ m ih =>
    intro n a out h1 h2 hn h3
    obtain ⟨n, rfl⟩ : ∃ q, n = q + 1 := ⟨n - 1, by omega⟩
    rw [m_ref9_Range_L2, m_ref9_Range_B2, if_pos (by omega), if_neg (by omega), rInt, bnd1_mk, need_pos (by simp; omega), if_neg (by omega), i64_id (by omega), ih n (a + 1) _ (by omega) (by simp; omega) (by omega) (by omega)]
theorem rRange {a b : Int} (ha : -9223372036854775808 ≤ a) (hb : b ≤ 9223372036854775807) : m_ref9_Range a b = some (if a ≤ b ∧ 4096 ≤ b - a then ([], 9) else bndW (runW a (b - a + 1).toNat)) := by
  have hFU := FU_ge
  unfold m_ref9_Range
  rw [jn_eq]
  have hset : ∀ m : Nat, m ≤ 4096 → m_ref9_bounded (runW a m) = some (bndW (runW a m)) := fun m hm => rBounded _ (by rw [runW_len]; omega)
  by_cases hc : a ≤ b ∧ 4096 ≤ b - a
  · rw [if_pos hc, rRange_over b hb _ 4096 FU a [] ha (by simp) (by omega) (by omega)]
  · rw [if_neg hc]
    by_cases hab : a ≤ b
    · rw [rRange_loop b hb _ (b - a + 1).toNat FU a [] ha (by omega) (by omega) (by simp) (by simp; omega), List.nil_append, hset _ (by omega), bnd1_mk]
    · obtain ⟨n, hn⟩ := FU_k 1 (by omega)
      rw [hn, m_ref9_Range_L2, m_ref9_Range_B2, if_neg hab, show (b - a + 1).toNat = 0 by omega]
      have := hset 0 (by omega)
      rw [show runW a 0 = [] from rfl] at this ⊢
      rw [this, bnd1_mk]

/-! ### The product of two lists -/
theorem nodup_inj {α : Type} {l : List α} (h : l.Nodup) {i j : Nat} (hi : i < l.length) (hj : j < l.length) (e : l[i] = l[j]) : i = j := by
  have hp := List.pairwise_iff_getElem.1 h
  rcases Nat.lt_trichotomy i j with h | h | h
  · exact absurd e (hp i j hi hj h)
  · exact h
  · exact absurd e.symm (hp j i hj hi h)
theorem vSeq (l : List (List UInt8)) (hx : ∀ x ∈ l, x.length ≤ 1099511627776) : m_value_Seq l = some (cmpd 4 l) := by
  unfold m_value_Seq
  have := vCompound 4 l hx
  rw [show ((4 : UInt8).toNat : Int) = 4 from rfl] at this
  rw [this, bnd1_mk]
theorem vCount2 {A B : List (List UInt8)} (hA : 0 < A.length ∧ A.length ≤ 4096) (hB : 0 < B.length ∧ B.length ≤ 4096) : m_finset_count [A, B] = some (min ((A.length * B.length : Nat) : Int) 4097) := by
  obtain ⟨n, hn⟩ := FU_k 3 (by omega)
  unfold m_finset_count
  have e1 : i64 (0 + 1) = 1 := i64_id (by omega)
  have e2 : i64 (1 + 1) = 2 := i64_id (by omega)
  have e3 : min (i64 (1 * (A.length : Int))) 4097 = (A.length : Int) := by rw [i64_id (by omega)]; omega
  have hmul : A.length * B.length ≤ 4096 * 4096 := Nat.mul_le_mul hA.2 hB.2
  have e4 : i64 ((A.length : Int) * (B.length : Int)) = ((A.length * B.length : Nat) : Int) := by
    rw [← Int.natCast_mul]; exact i64_id (by omega)
  rw [jn_eq, hn, m_finset_count_L2, m_finset_count_B2, if_pos (by simp), need_pos (by simp), gi2_0, if_neg (by omega), e1, e3, m_finset_count_L2, m_finset_count_B2, if_pos (by simp), need_pos (by simp), gi2_1, if_neg (by omega), e2, e4, m_finset_count_L2, m_finset_count_B2, if_neg (by simp)]
/-- The row of number k. -/
noncomputable def rowW (A B : List (List UInt8)) (k : Nat) : List (List UInt8) := [gi A ((k / B.length % A.length : Nat) : Int), gi B ((k % B.length : Nat) : Int)]
theorem vProd_in {y1 : List (List (List UInt8)) × Int} {A B : List (List UInt8)} (hy : y1.1 = [A, B]) (hA : 0 < A.length ∧ A.length ≤ 4096) (hB : 0 < B.length ∧ B.length ≤ 4096) (k : Nat) (hk : k ≤ 100000) (K : List (List UInt8) → Option (List UInt8 × Int)) :
    m_finset_Product_L26 y1 K FU k [[], []] 1 = K (rowW A B k) := by
  obtain ⟨n, hn⟩ := FU_k 3 (by omega)
  have t1 : Int.tmod (k : Int) (B.length : Int) = ((k % B.length : Nat) : Int) := rfl
  have t2 : Int.tdiv (k : Int) (B.length : Int) = ((k / B.length : Nat) : Int) := rfl
  have hd : k / B.length ≤ k := Nat.div_le_self _ _
  have hm : k % B.length < B.length := Nat.mod_lt _ hB.1
  have t3 : Int.tmod ((k / B.length : Nat) : Int) (A.length : Int) = ((k / B.length % A.length : Nat) : Int) := rfl
  have hm2 : k / B.length % A.length < A.length := Nat.mod_lt _ hA.1
  have t4 : Int.tdiv ((k / B.length : Nat) : Int) (A.length : Int) = ((k / B.length / A.length : Nat) : Int) := rfl
  have hd2 : k / B.length / A.length ≤ k / B.length := Nat.div_le_self _ _
  have f1 : i64 ((k / B.length : Nat) : Int) = ((k / B.length : Nat) : Int) := by
    generalize k / B.length = z at hd
    exact i64_id (by omega)
  have f2 : i64 ((k / B.length / A.length : Nat) : Int) = ((k / B.length / A.length : Nat) : Int) := by
    have : k / B.length / A.length ≤ k := Nat.le_trans hd2 hd
    generalize k / B.length / A.length = z at this
    exact i64_id (by omega)
  have e0 : i64 (1 - 1) = 0 := i64_id (by omega)
  have e1 : i64 (0 - 1) = -1 := i64_id (by omega)
  rw [hn, m_finset_Product_L26, m_finset_Product_B26, hy, if_pos (by omega), gi2_1, t1, t2, f1, e0]
  rw [need_pos (by simp), need_pos (by simp), need_pos (by omega), need_pos (by omega), need_pos (by simp), need_pos (by simp), need_pos (by omega), m_finset_Product_L26, m_finset_Product_B26, hy, if_pos (by omega), gi2_0, t3, t4, f2, e1]
  rw [need_pos (by simp), need_pos (by simp), need_pos (by omega), need_pos (by omega), need_pos (by simp), need_pos (by simp), need_pos (by omega), m_finset_Product_L26, m_finset_Product_B26, if_neg (by omega)]
  rfl
theorem vProd_out {y1 : List (List (List UInt8)) × Int} {A B : List (List UInt8)} (hy : y1.1 = [A, B]) (hA : 0 < A.length ∧ A.length ≤ 4096) (hB : 0 < B.length ∧ B.length ≤ 4096) (hx : ∀ k, ∀ x ∈ rowW A B k, x.length ≤ 1099511627776) (N : Nat) (hN : N ≤ 4096) (K : List (List UInt8) → Option (List UInt8 × Int)) : ∀ (m j n : Nat) (out : List (List UInt8)), j + m = N → m < n → out.length + m ≤ 100000 →
    m_finset_Product_L14 y1 (N : Int) K n out j = K (out ++ (List.range' j m).map (fun k : Nat => cmpd 4 (rowW A B k))) := by
  intro m
  induction m with
  | zero =>
    intro j n out hi hn ho
    obtain ⟨n, rfl⟩ : ∃ q, n = q + 1 := ⟨n - 1, by omega⟩
    rw [m_finset_Product_L14, m_finset_Product_B14, if_neg (by omega)]
    simp
  | succ m ih =>
    intro j n out hi hn ho
    obtain ⟨n, rfl⟩ : ∃ q, n = q + 1 := ⟨n - 1, by omega⟩
    have hl : (y1.1.length : Int) = 2 := by rw [hy]; rfl
    have e1 : i64 ((2 : Int) - 1) = 1 := i64_id (by omega)
    rw [m_finset_Product_L14, m_finset_Product_B14, if_pos (by omega)]
    simp only [jn_eq]
    rw [hl, need_pos (by omega), e1, show List.replicate (Int.toNat 2) ([] : List UInt8) = [[], []] from rfl, vProd_in hy hA hB j (by omega), vSeq _ (hx j), bnd1_mk, need_pos (by simp; omega), i64_succ (by omega), ih (j + 1) n _ (by omega) (by omega) (by simp; omega)]
    simp [List.range'_succ]
/-- The product of two sets of integers. -/
theorem vProduct_runs {a b : Int} {p q : Nat} (ha : -9223372036854775808 ≤ a ∧ a + p ≤ 9223372036854775808) (hb : -9223372036854775808 ≤ b ∧ b + q ≤ 9223372036854775808) (hp : 0 < p ∧ p ≤ 4096) (hq : 0 < q ∧ q ≤ 4096) :
    ∃ v, m_finset_Product [setW (runW a p), setW (runW b q)] = some (if 4096 < p * q then ([], 9) else (v, 0)) ∧ (p * q ≤ 4096 → (prtW v).length = p * q) := by
  have hFU := FU_ge
  obtain ⟨_, a2, a3, a4, _⟩ := run_set ha hp.2
  obtain ⟨_, b2, b3, b4, _⟩ := run_set hb hq.2
  unfold m_finset_Product
  rw [vElements _ (by simp), bnd1_mk, if_pos (show [setW (runW a p), setW (runW b q)].all isSet = true by simp [a3, b3])]
  simp only [List.map_cons, List.map_nil, a2, b2]
  have hA : 0 < (sortW (runW a p)).length ∧ (sortW (runW a p)).length ≤ 4096 := by omega
  have hB : 0 < (sortW (runW b q)).length ∧ (sortW (runW b q)).length ≤ 4096 := by omega
  have mA := (sortW_spec (runW a p)).2.1
  have mB := (sortW_spec (runW b q)).2.1
  have nA := slc_nodup (sortW_spec (runW a p)).1
  have nB := slc_nodup (sortW_spec (runW b q)).1
  rw [if_neg (fun h => h trivial), vCount2 hA hB, bnd1_mk, a4, b4]
  by_cases hc : 4096 < p * q
  · exact ⟨[], by rw [if_pos (by omega), if_pos hc], fun h => by omega⟩
  · simp only [if_neg hc]
    rw [if_neg (by omega), jn_eq, show min ((p * q : Nat) : Int) 4097 = ((p * q : Nat) : Int) by omega]
    generalize hAA : sortW (runW a p) = A at hA a4 mA nA
    generalize hBB : sortW (runW b q) = B at hB b4 mB nB
    have gA : ∀ k : Nat, gi A ((k / B.length % A.length : Nat) : Int) = A[k / B.length % A.length]'(Nat.mod_lt _ hA.1) := fun k => gi_nat _
    have gB : ∀ k : Nat, gi B ((k % B.length : Nat) : Int) = B[k % B.length]'(Nat.mod_lt _ hB.1) := fun k => gi_nat _
    have hmem : ∀ k, ∀ x ∈ rowW A B k, x.length ≤ 9 ∧ IsV 1 x := fun k x hx => by
      unfold rowW at hx
      rw [gA, gB] at hx
      simp only [List.mem_cons, List.not_mem_nil, or_false] at hx
      rcases hx with rfl | rfl
      · have h := (mA _).1 (List.getElem_mem (Nat.mod_lt (k / B.length) hA.1)); exact ⟨(runW_spec a p).1 _ h, (runW_spec a p).2 0 _ h⟩
      · have h := (mB _).1 (List.getElem_mem (Nat.mod_lt k hB.1)); exact ⟨(runW_spec b q).1 _ h, (runW_spec b q).2 0 _ h⟩
    have hrow : ∀ k, cmpd 4 (rowW A B k) = raw 4 (rowW A B k) ∧ IsV 2 (raw 4 (rowW A B k)) ∧ (raw 4 (rowW A B k)).length ≤ 21 ∧ prt (raw 4 (rowW A B k)) = rowW A B k := fun k => by
      have hl2 : (rowW A B k).length = 2 := rfl
      have hfl := flat_le (fun x hx => (hmem k x hx).1)
      have hI : IsV 2 (raw 4 (rowW A B k)) := .comp 1 4 _ _ (rowW A B k) (by decide) (raw_count (by omega)) (fun x hx => (hmem k x hx).2) (by simp [formedB])
      have hV : ∀ x ∈ rowW A B k, Vd x := fun x hx => ⟨(hmem k x hx).2.le (by omega), by have := (hmem k x hx).1; omega⟩
      have hlen : (raw 4 (rowW A B k)).length ≤ 21 := by rw [raw_len]; omega
      exact ⟨cmpd_yes ⟨by omega, hV, hI.le (by omega), by omega⟩, hI, hlen, prt_raw (by decide) (by omega) hV⟩
    rw [show (0 : Int) = ((0 : Nat) : Int) from rfl, vProd_out (A := A) (B := B) (y1 := ([A, B], ((0 : Nat) : Int))) rfl hA hB (fun k x hx => by have := (hmem k x hx).1; omega) (p * q) (by omega) _ (p * q) 0 FU [] (by omega) (by omega) (by simp; omega), List.nil_append]
    generalize hS : (List.range' 0 (p * q)).map (fun k : Nat => cmpd 4 (rowW A B k)) = S
    have hSl : S.length = p * q := by rw [← hS]; simp
    have hSm : ∀ x ∈ S, IsV 2 x ∧ x.length ≤ 21 := fun x hx => by
      rw [← hS] at hx
      obtain ⟨k, _, rfl⟩ := List.mem_map.1 hx
      rw [(hrow k).1]
      exact ⟨(hrow k).2.1, (hrow k).2.2.1⟩
    have hnd : S.Nodup := by
      rw [← hS]
      refine List.pairwise_map.2 (List.Pairwise.imp_of_mem ?_ (List.nodup_range' (s := 0) (n := p * q)))
      intro i j hi hj hne he
      simp at hi hj
      rw [(hrow i).1, (hrow j).1] at he
      have h1 := congrArg prt he
      rw [(hrow i).2.2.2, (hrow j).2.2.2] at h1
      unfold rowW at h1
      rw [gA, gA, gB, gB] at h1
      simp only [List.cons.injEq, and_true] at h1
      have q1 := nodup_inj nA (Nat.mod_lt _ hA.1) (Nat.mod_lt _ hA.1) h1.1
      have q2 := nodup_inj nB (Nat.mod_lt _ hB.1) (Nat.mod_lt _ hB.1) h1.2
      have hd1 : i / B.length < A.length := by rw [a4, b4]; exact Nat.div_lt_of_lt_mul (by rw [Nat.mul_comm]; omega)
      have hd2 : j / B.length < A.length := by rw [a4, b4]; exact Nat.div_lt_of_lt_mul (by rw [Nat.mul_comm]; omega)
      rw [Nat.mod_eq_of_lt hd1, Nat.mod_eq_of_lt hd2] at q1
      have := Nat.div_add_mod i B.length
      have := Nat.div_add_mod j B.length
      rw [q1, q2] at *
      omega
    have hsl := sort_nodup hnd
    have hfl : (sortW S).flatten.length ≤ 21 * (sortW S).length := flat_le (fun x hx => (hSm x (((sortW_spec S).2.1 x).1 hx)).2)
    obtain ⟨_, _, c3, _, c5, _⟩ := set_ok (l := S) (k := 2) (by omega) (fun x hx => (hSm x hx).1) (by omega) (by omega)
    refine ⟨setW S, ?_, fun _ => by rw [c3]; omega⟩
    rw [vSetF S (by omega) (fun x hx => by have := (hSm x hx).2; omega) (.inr (by omega)), bnd1_mk, bnd_ok (by omega) c5]
    rfl
theorem finsetLimits_true (n : UInt8) (by_ : Bool) (_ : True) (_ : True) : m_law10_FinsetLimits n by_ = some true := by
  unfold m_law10_FinsetLimits
  have hr : (n % 6).toNat < 6 := by rw [UInt8.toNat_mod]; exact Nat.mod_lt _ (by decide)
  generalize (n % 6).toNat = r at hr
  have e1 : i64 (4093 + (r : Int)) = 4093 + (r : Int) := i64_id (by omega)
  have e2 : i64 (62 + (r : Int)) = 62 + (r : Int) := i64_id (by omega)
  have e3 : i64 (64 * (62 + (r : Int))) = 64 * (62 + (r : Int)) := i64_id (by omega)
  have e4 : i64 (64 * (62 + (r : Int)) - 1) = 64 * (62 + (r : Int)) - 1 := i64_id (by omega)
  simp only [e1, e2, e3, e4, jn_eq]
  rw [vRange (a := 0) (b := 4093 + (r : Int)) (by omega) (by omega) (by omega) (by omega), bnd1_mk]
  cases by_ with
  | false =>
    rw [if_neg (by simp)]
    by_cases h : 4096 ≤ 4093 + (r : Int)
    · rw [if_pos h, if_pos (show (0 : Int) ≤ 4093 + (r : Int) ∧ 4096 ≤ 4093 + (r : Int) - 0 from ⟨by omega, by omega⟩), awake_true, bnd1_mk, if_pos rfl]
      rfl
    · obtain ⟨r1, r2, r3, r4, r5⟩ := run_set (a := 0) (m := (4093 + (r : Int) - 0 + 1).toNat) (by omega) (by omega)
      rw [if_neg h, if_neg (show ¬ ((0 : Int) ≤ 4093 + (r : Int) ∧ 4096 ≤ 4093 + (r : Int) - 0) from fun hh => h (by omega)), awake_true, bnd1_mk, if_pos rfl, r1, if_pos rfl, rPartsW, bnd1_mk, r2, r4, i64_id (x := 4093 + (r : Int) + 1) (by omega), decide_eq_true (by omega)]
  | true =>
    rw [if_pos rfl, rRange (a := 1) (b := 64) (by omega) (by omega), bnd1_mk, if_neg (by omega), rRange (a := 1) (b := 62 + (r : Int)) (by omega) (by omega), bnd1_mk, if_neg (by omega)]
    obtain ⟨p1, _⟩ := run_set (a := 1) (m := ((64 : Int) - 1 + 1).toNat) (by omega) (by omega)
    obtain ⟨q1, _⟩ := run_set (a := 1) (m := (62 + (r : Int) - 1 + 1).toNat) (by omega) (by omega)
    rw [p1, q1]
    obtain ⟨v, hv, hl⟩ := vProduct_runs (a := 1) (b := 1) (p := ((64 : Int) - 1 + 1).toNat) (q := (62 + (r : Int) - 1 + 1).toNat) (by omega) (by omega) (by omega) (by omega)
    rw [hv, bnd1_mk]
    have hpq : ((64 : Int) - 1 + 1).toNat * (62 + (r : Int) - 1 + 1).toNat = 64 * (62 + r) := by
      rw [show ((64 : Int) - 1 + 1).toNat = 64 from rfl, show (62 + (r : Int) - 1 + 1).toNat = 62 + r by omega]
    rw [hpq] at hl ⊢
    by_cases h : 4096 < 64 * (62 + r)
    · rw [if_pos h, if_pos (by omega), awake_true, bnd1_mk, if_pos rfl]
      rfl
    · rw [if_neg h, if_neg (by omega), awake_true, bnd1_mk, if_pos rfl, if_pos rfl, rPartsW, bnd1_mk, hl (by omega), decide_eq_true (by rw [i64_id (by omega)]; omega)]
end Go.Proofs.Ytdbnodliomlilaa
