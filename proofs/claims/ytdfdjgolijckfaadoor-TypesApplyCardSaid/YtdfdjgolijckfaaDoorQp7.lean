/- The law of Needs. -/
import Derived.Test.YtdfdjgolijckfaaDoorQp1
import Derived.Test.YtdfdjgolijckfaaDoorQp3
import Derived.Test.YtdfdjgolijckfaaDoorQp6
import Derived.LaidMore
import Derived.Stop.Joined
import Derived.SevenTiedAt
import Derived.Test.YtdfdjgolijckfaaDoorTie
import Derived.Test.YtdfdjgolijckfaaDoorCards
namespace Go.Proofs.YtdfdjgolijckfaaDoor
attribute [local irreducible] FU
theorem gs_new {c : List Int} (hc : c.length ≤ maxLen ∧ ∀ x ∈ c, (Lit.int .i64 x).wf = true) : GS c 0 := ⟨by omega, by omega, by have := hc.1; unfold maxLen at this; omega⟩
end Go.Proofs.YtdfdjgolijckfaaDoor
/- Apply, both ways. -/
namespace Go.Proofs.YtdfdjgolijckfaaDoor
attribute [local irreducible] FU
/-- What the generator builds is valid. -/
theorem Ty.aft {V : Int} : ∀ {d : Nat} {a : List Nd}, Ty V d a → ∀ (pre post : List Nd) (D : Nat), d ≤ D → aft (pre ++ (a ++ post)) D pre.length = some (pre.length + a.length)
  | _, _, .leaf (k := k) (m := m) h hv, pre, post, D, hD => by
    obtain ⟨D, rfl⟩ : ∃ q, D = q + 1 := ⟨D - 1, by omega⟩
    rw [Go.Proofs.YtdfdjgolijckfaaDoor.aft, List.getElem?_append_right (Nat.le_refl _), Nat.sub_self]
    show (if fmB (k, m, 0) = true then _ else none) = _
    rw [if_pos h]; rfl
  | _, _, .one (a := a) (k := k) h ha, pre, post, D, hD => by
    obtain ⟨D, rfl⟩ : ∃ q, D = q + 1 := ⟨D - 1, by omega⟩
    rw [Go.Proofs.YtdfdjgolijckfaaDoor.aft, List.getElem?_append_right (Nat.le_refl _), Nat.sub_self]
    show (if fmB (k, 0, 1) = true then aftK _ 1 (pre.length + 1) else none) = _
    have h1 := ha.aft (pre ++ [(k, 0, 1)]) post D (by omega)
    rw [List.append_assoc, List.length_append, List.length_singleton] at h1
    rw [if_pos h, aftK, List.cons_append]
    rw [List.singleton_append] at h1
    rw [h1, Option.bind_some, aftK, List.length_cons]
    congr 1; omega
  | _, _, .two (a := a) (b := b) (k := k) h ha hb, pre, post, D, hD => by
    obtain ⟨D, rfl⟩ : ∃ q, D = q + 1 := ⟨D - 1, by omega⟩
    rw [Go.Proofs.YtdfdjgolijckfaaDoor.aft, List.getElem?_append_right (Nat.le_refl _), Nat.sub_self]
    show (if fmB (k, 0, 2) = true then aftK _ 2 (pre.length + 1) else none) = _
    have h1 := ha.aft (pre ++ [(k, 0, 2)]) (b ++ post) D (by omega)
    have h2 := hb.aft (pre ++ [(k, 0, 2)] ++ a) post D (by omega)
    rw [if_pos h, aftK, List.cons_append]
    simp only [List.append_assoc, List.length_append, List.length_cons, List.length_nil, List.singleton_append, List.cons_append, List.nil_append, Nat.zero_add] at h1 h2 ⊢
    rw [h1, Option.bind_some, aftK, show pre.length + 1 + a.length = pre.length + (a.length + 1) by omega, h2, Option.bind_some, aftK]
    congr 1; omega
theorem Ty.vd {V : Int} {d : Nat} {a : List Nd} (h : Ty V d a) (hd : d ≤ 9) : vdB a = true := by
  have h1 := h.aft [] [] 64 (by omega)
  have h2 := h.len
  have : 2 ^ d ≤ 2 ^ 9 := Nat.pow_le_pow_right (by omega) hd
  simp only [List.nil_append, List.append_nil, List.length_nil, Nat.zero_add] at h1
  exact decide_eq_true ⟨h2.2, by omega, h1⟩
abbrev Bd := Int × List Nd
/-- A substitution: its types are valid, its variables grow. -/
def sbC : Option Int → List Bd → Bool
  | _, [] => true
  | p, a :: l => vdB a.2 && (match p with | none => true | some v => decide (v < a.1)) && sbC (some a.1) l
abbrev sbB (s : List Bd) : Bool := sbC none s
theorem sbC_cons (p : Option Int) (a : Bd) (l : List Bd) : sbC p (a :: l) = (vdB a.2 && (match p with | none => true | some v => decide (v < a.1)) && sbC (some a.1) l) := by cases p <;> rfl
theorem sbC_nil (p : Option Int) : sbC p [] = true := by cases p <;> rfl
/-- The variable before index j. -/
def prv (s : List Bd) : Nat → Option Int
  | 0 => none
  | j + 1 => (s[j]?).map (·.1)
theorem prv_succ {s : List Bd} {j : Nat} (h : j < s.length) : prv s (j + 1) = some s[j].1 := by simp [prv, h]
theorem wSubst {s : List Bd} (hl : s.length ≤ maxLen) (K : Unit → Option Bool) : ∀ (u : List Bd) (j n : Nat), s.drop j = u → j ≤ s.length → u.length < n → m_ref6_substitution_L2 s K n (j : Int) = if sbC (prv s j) u = true then K () else some false
  | [], j, 0, _, _, h => by simp at h
  | [], j, n + 1, hd, hj, _ => by
    have := congrArg List.length hd
    simp at this
    rw [m_ref6_substitution_L2, m_ref6_substitution_B2, if_neg (by omega), sbC_nil, if_pos rfl]
  | a :: u, j, 0, _, _, h => by simp at h
  | a :: u, j, n + 1, hd, hj, hn => by
    unfold maxLen at hl
    have hlen := congrArg List.length hd
    simp at hlen
    have hjl : j < s.length := by omega
    have ha : s[j] = a ∧ s.drop (j + 1) = u := by rw [List.drop_eq_getElem_cons hjl] at hd; exact ⟨(List.cons.inj hd).1, (List.cons.inj hd).2⟩
    have hr := wSubst (s := s) (by unfold maxLen; omega) K u (j + 1) n ha.2 (by omega) (by simp at hn; omega)
    rw [prv_succ hjl, ha.1] at hr
    rw [m_ref6_substitution_L2, m_ref6_substitution_B2, if_pos (by omega), jn_eq, need_pos (by omega), gi_nat hjl, wValid, bnd1_mk, ha.1, sbC_cons, i64s (by omega)]
    cases hv : vdB a.2 with
    | false => rfl
    | true =>
      rw [Bool.not_true, if_neg (by simp)]
      match j, hjl, hr with
      | 0, hjl, hr =>
        rw [if_neg (by simp)]
        simp only [prv, Bool.true_and, Bool.false_eq_true, ↓reduceIte]
        exact hr
      | j + 1, hjl, hr =>
        have e : i64 (((j + 1 : Nat) : Int) - 1) = (j : Int) := by rw [i64_id (by omega)]; omega
        rw [if_pos (by omega), need_pos (by omega), e, need_pos (by omega), gi_nat (by omega : j < s.length), prv_succ (by omega : j < s.length)]
        by_cases hc : a.1 ≤ s[j].1
        · simp only [decide_eq_true hc, decide_eq_false (show ¬ s[j].1 < a.1 by omega), ↓reduceIte, Bool.and_false, Bool.false_and, Bool.false_eq_true]
        · simp only [decide_eq_false hc, decide_eq_true (show s[j].1 < a.1 by omega), ↓reduceIte, Bool.and_true, Bool.true_and, Bool.false_eq_true]
          exact hr
theorem vSubst {s : List Bd} (hl : s.length ≤ maxLen) (K : List Bd → Option (List Bd × Bool)) : ∀ (u : List Bd) (j n : Nat) (m : List Bd), s.drop j = u → j ≤ s.length → u.length < n → (∀ x ∈ s.take j, ∃ v, prv s j = some v ∧ x.1 ≤ v) → (∀ v, lookL m v = lookL (s.take j) v) →
    ∃ m', m_types_substitution_L2 s K n m (j : Int) = (if sbC (prv s j) u = true then K m' else some ([], false)) ∧ (sbC (prv s j) u = true → ∀ v, lookL m' v = lookL s v)
  | [], j, 0, _, _, _, h, _, _ => by simp at h
  | [], j, n + 1, m, hd, hj, _, _, hm => by
    have := congrArg List.length hd
    simp at this
    refine ⟨m, by rw [m_types_substitution_L2, m_types_substitution_B2, if_neg (by omega), sbC_nil, if_pos rfl], fun _ v => ?_⟩
    rw [hm, List.take_of_length_le (by omega)]
  | a :: u, j, 0, _, _, _, h, _, _ => by simp at h
  | a :: u, j, n + 1, m, hd, hj, hn, hp, hm => by
    unfold maxLen at hl
    have hlen := congrArg List.length hd
    simp at hlen
    have hjl : j < s.length := by omega
    have ha : s[j] = a ∧ s.drop (j + 1) = u := by rw [List.drop_eq_getElem_cons hjl] at hd; exact ⟨(List.cons.inj hd).1, (List.cons.inj hd).2⟩
    have htk : s.take (j + 1) = s.take j ++ [a] := by rw [List.take_succ_eq_append_getElem hjl, ha.1]
    rw [m_types_substitution_L2, m_types_substitution_B2, if_pos (by omega), need_pos (by omega), jn_eq, gi_nat hjl, vValid, bnd1_mk, ha.1, sbC_cons, i64s (by omega)]
    cases hv : vdB a.2 with
    | false => exact ⟨m, rfl, fun h => by cases h⟩
    | true =>
      rw [Bool.not_true, if_neg (by simp)]
      by_cases hpr : ∃ v, prv s j = some v ∧ ¬ v < a.1
      · obtain ⟨v, hv1, hv2⟩ := hpr
        match j, hjl, hv1 with
        | 0, _, hv1 => cases hv1
        | j + 1, hjl, hv1 =>
          have e : i64 (((j + 1 : Nat) : Int) - 1) = (j : Int) := by rw [i64_id (by omega)]; omega
          have hvs : v = s[j].1 := by rw [prv_succ (by omega : j < s.length)] at hv1; exact (Option.some.inj hv1).symm
          rw [if_pos (by omega), e, need_pos (by omega), gi_nat (by omega : j < s.length), hv1]
          refine ⟨m, ?_, fun h => ?_⟩
          · simp only [decide_eq_true (show a.1 ≤ s[j].1 by omega), decide_eq_false hv2, ↓reduceIte, Bool.and_false, Bool.false_and, Bool.false_eq_true]
          · simp only [decide_eq_false hv2, Bool.and_false, Bool.false_and, Bool.false_eq_true] at h
      · have hpr' : ∀ v, prv s j = some v → v < a.1 := fun v h => Classical.not_not.1 fun h2 => hpr ⟨v, h, h2⟩
        have hnew : ∀ v, lookL (putL m a.1 a.2) v = lookL (s.take (j + 1)) v := fun v => by
          rw [lookL_put, htk, lookL_app, ← hm, lookL, lookL]
          by_cases e : a.1 = v
          · rw [if_pos e, if_pos e]
            have : lookL m v = none := by
              rw [hm]
              refine lookL_lt (fun x hx he => ?_)
              obtain ⟨w, h1, h2⟩ := hp x hx
              have := hpr' w h1; omega
            rw [this]
          · rw [if_neg e, if_neg e]
            cases lookL m v <;> rfl
        obtain ⟨m', r1, r2⟩ := vSubst (s := s) (by unfold maxLen; omega) K u (j + 1) n (putL m a.1 a.2) ha.2 (by omega) (by simp at hn; omega) (fun x hx => by
          refine ⟨a.1, by rw [prv_succ hjl, ha.1], ?_⟩
          rw [htk, List.mem_append, List.mem_singleton] at hx
          rcases hx with hx | rfl
          · obtain ⟨w, h1, h2⟩ := hp x hx
            have := hpr' w h1; omega
          · omega) hnew
        rw [prv_succ hjl, ha.1] at r1 r2
        have hsb : (true && (match prv s j with | none => true | some v => decide (v < a.1)) && sbC (some a.1) u) = sbC (some a.1) u := by
          cases hq : prv s j with
          | none => simp
          | some v => simp [hpr' v hq]
        rw [hsb]
        refine ⟨m', ?_, r2⟩
        rw [← r1]
        match j, hjl, hpr' with
        | 0, _, _ => rw [if_neg (by simp)]; rfl
        | j + 1, hjl, hpr' =>
          have e : i64 (((j + 1 : Nat) : Int) - 1) = (j : Int) := by rw [i64_id (by omega)]; omega
          have := hpr' s[j].1 (prv_succ (by omega : j < s.length))
          rw [if_pos (by omega), e, need_pos (by omega), gi_nat (by omega : j < s.length), decide_eq_false (by omega)]
          rfl
theorem vSub {s : List Bd} (hl : s.length ≤ maxLen) : ∃ m, m_types_substitution s = some (m, sbB s) ∧ (sbB s = true → ∀ v, lookL m v = lookL s v) := by
  obtain ⟨m', h1, h2⟩ := vSubst hl (fun x => some (x, true)) s 0 FU [] rfl (Nat.zero_le _) (by have := FU_ge; unfold maxLen at hl; omega) (by simp) (by simp)
  unfold m_types_substitution
  rw [jn_eq, show (0 : Int) = ((0 : Nat) : Int) from rfl, h1]
  by_cases h : sbC (prv s 0) s = true
  · rw [if_pos h]; exact ⟨m', by rw [show sbB s = true from h], fun _ => h2 h⟩
  · rw [if_neg h]; exact ⟨[], by rw [show sbB s = false from Bool.eq_false_iff.2 h], fun hh => absurd hh h⟩
theorem wSub {s : List Bd} (hl : s.length ≤ maxLen) : m_ref6_substitution s = some (sbB s) := by
  have h1 := wSubst hl (fun _ => some true) s 0 FU rfl (Nat.zero_le _) (by have := FU_ge; unfold maxLen at hl; omega)
  unfold m_ref6_substitution
  rw [jn_eq, show (0 : Int) = ((0 : Nat) : Int) from rfl, h1]
  show (if sbB s = true then some true else some false) = some (sbB s)
  cases sbB s <;> rfl
theorem sbC_spec : ∀ {p : Option Int} {s : List Bd}, sbC p s = true → SrK s ∧ (∀ x ∈ s, vdB x.2 = true) ∧ (∀ v, p = some v → ∀ x ∈ s, v < x.1)
  | _, [], _ => ⟨List.Pairwise.nil, by simp, by simp⟩
  | p, a :: l, h => by
    rw [sbC_cons, Bool.and_eq_true, Bool.and_eq_true] at h
    obtain ⟨⟨h1, h2⟩, h3⟩ := h
    obtain ⟨i1, i2, i3⟩ := sbC_spec h3
    refine ⟨List.pairwise_cons.2 ⟨fun x hx => i3 _ rfl x hx, i1⟩, fun x hx => ?_, fun v hv x hx => ?_⟩
    · rcases List.mem_cons.1 hx with rfl | hx
      · exact h1
      · exact i2 x hx
    · subst hv
      have h2 : v < a.1 := of_decide_eq_true h2
      rcases List.mem_cons.1 hx with rfl | hx
      · exact h2
      · have := i3 _ rfl x hx; omega
/-- A node, replaced. -/
def subN (s : List Bd) (n : Nd) : List Nd := if n.1 = 1 then (lookL s n.2.1).getD [n] else [n]
abbrev rep (s : List Bd) (t : List Nd) : List Nd := t.flatMap (subN s)
theorem subN_len {s : List Bd} (hs : sbB s = true) (n : Nd) : (subN s n).length ≤ 512 := by
  unfold subN
  split
  · cases h : lookL s n.2.1 with
    | none => simp
    | some t => exact vdB_len ((sbC_spec hs).2.1 _ (lookL_mem h))
  · simp
theorem vApplyL {s m : List Bd} (hs : sbB s = true) (hm : ∀ v, lookL m v = lookL s v) {t : List Nd} (hl : t.length ≤ 512) (ok : Bool) (K : List Nd → Option (List Nd)) : ∀ (u : List Nd) (j n : Nat) (o : List Nd), t.drop j = u → j ≤ t.length → u.length < n → o.length ≤ 512 * j →
    m_types_Apply_L2 t (m, ok) K n o (j : Int) = K (o ++ rep s u)
  | [], j, 0, _, _, _, h, _ => by simp at h
  | [], j, n + 1, o, hd, hj, _, _ => by
    have := congrArg List.length hd
    simp at this
    rw [m_types_Apply_L2, m_types_Apply_B2, if_neg (by omega)]; simp
  | a :: u, j, 0, _, _, _, h, _ => by simp at h
  | a :: u, j, n + 1, o, hd, hj, hn, ho => by
    have hlen := congrArg List.length hd
    simp at hlen
    have hjl : j < t.length := by omega
    have ha : t[j] = a ∧ t.drop (j + 1) = u := by rw [List.drop_eq_getElem_cons hjl] at hd; exact ⟨(List.cons.inj hd).1, (List.cons.inj hd).2⟩
    have hsl := subN_len hs a
    have hr := vApplyL hs hm hl ok K u (j + 1) n (o ++ subN s a) ha.2 (by omega) (by simp at hn; omega) (by rw [List.length_append]; omega)
    rw [m_types_Apply_L2, m_types_Apply_B2, if_pos (by omega), jn_eq, need_pos (by omega), jn_eq, gi_nat hjl, ha.1, hm, i64s (by omega)]
    have hfl : o ++ rep s (a :: u) = o ++ subN s a ++ rep s u := by simp [rep]
    rw [hfl, ← hr]
    unfold subN at hsl ⊢
    cases hx : lookL s a.2.1 with
    | none =>
      rw [hx] at hsl
      simp only [Option.isSome_none, Bool.false_eq_true, ↓reduceIte, Option.getD_none]
      rw [need_pos (by simp; omega)]
      split <;> rfl
    | some z =>
      rw [hx] at hsl
      simp only [Option.isSome_some, ↓reduceIte, Option.getD_some]
      by_cases h1 : a.1 = 1
      · rw [if_pos h1] at hsl
        simp only [h1, decide_true, ↓reduceIte]
        rw [need_pos (by simp only [Option.getD_some] at hsl; omega)]
      · simp only [h1, decide_false, Bool.false_eq_true, ↓reduceIte]
        rw [need_pos (by simp; omega)]
/-- What Apply answers. -/
def apR (s : List Bd) (t : List Nd) : List Nd := if sbB s = true ∧ vdB t = true ∧ vdB (rep s t) = true then rep s t else []
theorem vClipN (t : List Nd) : m_slices_Clip_L_api_TypeNode_api_TypeNode t = some t := by
  unfold m_slices_Clip_L_api_TypeNode_api_TypeNode
  rw [need_pos (by omega), Int.toNat_natCast, List.take_length]
theorem vApply {s : List Bd} (hl : s.length ≤ maxLen) (t : List Nd) : m_types_Apply s t = some (apR s t) := by
  obtain ⟨m, h1, h2⟩ := vSub hl
  unfold m_types_Apply apR
  rw [h1, bnd1_mk]
  simp only [jn_eq]
  cases hs : sbB s with
  | false => simp
  | true =>
    rw [Bool.not_true, if_neg (by simp), vValid, bnd1_mk]
    cases ht : vdB t with
    | false => simp
    | true =>
      have hg := fun K => vApplyL hs (h2 hs) (vdB_len ht) true K t 0 FU [] rfl (Nat.zero_le _) (by have := FU_ge; have := vdB_len ht; omega) (by simp)
      rw [Bool.not_true, if_neg (by simp), show (0 : Int) = ((0 : Nat) : Int) from rfl, hg, List.nil_append, vValid, bnd1_mk]
      cases hr : vdB (rep s t) with
      | false => simp
      | true => rw [Bool.not_true, if_neg (by simp), vClipN, bnd1_mk, if_pos ⟨rfl, rfl, rfl⟩]
end Go.Proofs.YtdfdjgolijckfaaDoor
/- Apply of the reference; exchanging variables; the law of Apply. -/
namespace Go.Proofs.YtdfdjgolijckfaaDoor
attribute [local irreducible] FU
theorem wRep26 {s : List Bd} (hs : sbB s = true) (hl : s.length ≤ maxLen) {t : List Nd} {i : Nat} (hi : i < t.length) (K : List Nd → Bool → Option (List Nd)) : ∀ (u : List Bd) (j n : Nat) (o : List Nd) (f : Bool), s.drop j = u → j ≤ s.length → u.length < n → (lookL u t[i].2.1 ≠ none → o.length ≤ 1000000) →
    m_ref6_replace_L26 s t (i : Int) K n o f (j : Int) = if t[i].1 = 1 then (match lookL u t[i].2.1 with | some z => K (o ++ z) true | none => K o f) else K o f
  | [], j, 0, _, _, _, _, h, _ => by simp at h
  | [], j, n + 1, o, f, hd, hj, _, _ => by
    have := congrArg List.length hd
    simp at this
    rw [m_ref6_replace_L26, m_ref6_replace_B26, jn_eq, need_pos (by omega), gi_nat hi]
    by_cases h1 : t[i].1 = 1
    · rw [if_pos h1, if_pos h1, decide_eq_false (by omega)]; rfl
    · rw [if_neg h1, if_neg h1]; rfl
  | a :: u, j, 0, _, _, _, _, h, _ => by simp at h
  | a :: u, j, n + 1, o, f, hd, hj, hn, ho => by
    have hl' := hl
    unfold maxLen at hl'
    have hlen := congrArg List.length hd
    simp at hlen
    have hjl : j < s.length := by omega
    have ha : s[j] = a ∧ s.drop (j + 1) = u := by rw [List.drop_eq_getElem_cons hjl] at hd; exact ⟨(List.cons.inj hd).1, (List.cons.inj hd).2⟩
    rw [m_ref6_replace_L26, m_ref6_replace_B26, jn_eq, need_pos (by omega), gi_nat hi]
    by_cases h1 : t[i].1 = 1
    · rw [if_pos h1, if_pos h1, decide_eq_true (by omega)]
      simp only [↓reduceIte, jn_eq]
      rw [need_pos (by omega), need_pos (by omega), gi_nat hjl, ha.1, lookL, i64s (by omega)]
      by_cases e : a.1 = t[i].2.1
      · have hz : a.2.length ≤ 512 := vdB_len ((sbC_spec hs).2.1 a (by rw [← ha.1]; exact List.getElem_mem hjl))
        have hnone : lookL u t[i].2.1 = none := by
          rw [← e]
          have hsr := (sbC_spec hs).1
          rw [← List.take_append_drop j s, hd, SrK, List.pairwise_append] at hsr
          refine lookL_lt (fun x hx he => ?_)
          have := (List.pairwise_cons.1 hsr.2.1).1 x hx; omega
        have ho' := ho (by rw [lookL, if_pos e]; simp)
        rw [if_pos e, if_pos e, need_pos (by omega), need_pos (by omega), wRep26 hs hl hi K u (j + 1) n (o ++ a.2) true ha.2 (by omega) (by simp at hn; omega) (fun h => absurd hnone h), if_pos h1, hnone]
      · rw [if_neg e, if_neg e, wRep26 hs hl hi K u (j + 1) n o f ha.2 (by omega) (by simp at hn; omega) (fun h => ho (by rw [lookL, if_neg e]; exact h)), if_pos h1]
    · rw [if_neg h1, if_neg h1]; rfl
theorem wRep14 {s : List Bd} (hs : sbB s = true) (hl : s.length ≤ maxLen) {t : List Nd} (ht : t.length ≤ 512) (K : List Nd → Option (List Nd)) : ∀ (u : List Nd) (j n : Nat) (o : List Nd), t.drop j = u → j ≤ t.length → u.length < n → o.length ≤ 512 * j →
    m_ref6_replace_L14 s t K n o (j : Int) = K (o ++ rep s u)
  | [], j, 0, _, _, _, h, _ => by simp at h
  | [], j, n + 1, o, hd, hj, _, _ => by
    have := congrArg List.length hd
    simp at this
    rw [m_ref6_replace_L14, m_ref6_replace_B14, if_neg (by omega)]; simp
  | a :: u, j, 0, _, _, _, h, _ => by simp at h
  | a :: u, j, n + 1, o, hd, hj, hn, ho => by
    have hlen := congrArg List.length hd
    simp at hlen
    have hjl : j < t.length := by omega
    have ha : t[j] = a ∧ t.drop (j + 1) = u := by rw [List.drop_eq_getElem_cons hjl] at hd; exact ⟨(List.cons.inj hd).1, (List.cons.inj hd).2⟩
    have hsl := subN_len hs a
    have hr := wRep14 hs hl ht K u (j + 1) n (o ++ subN s a) ha.2 (by omega) (by simp at hn; omega) (by rw [List.length_append]; omega)
    have hfl : o ++ rep s (a :: u) = o ++ subN s a ++ rep s u := by simp [rep]
    have h26 := fun K => wRep26 hs hl hjl K s 0 FU o false rfl (Nat.zero_le _) (by have := FU_ge; unfold maxLen at hl; omega) (fun _ => by omega)
    rw [m_ref6_replace_L14, m_ref6_replace_B14, if_pos (by omega)]
    simp only [jn_eq]
    rw [show (0 : Int) = ((0 : Nat) : Int) from rfl, h26, ha.1, i64s (by omega), hfl, ← hr]
    unfold subN at hsl ⊢
    by_cases h1 : a.1 = 1
    · rw [if_pos h1]
      rw [if_pos h1] at hsl ⊢
      cases hx : lookL s a.2.1 with
      | none =>
        simp only [Bool.not_false, ↓reduceIte, Option.getD_none]
        rw [need_pos (by omega), gi_nat hjl, ha.1, need_pos (by simp; omega)]
      | some z => simp only [Bool.not_true, Bool.false_eq_true, ↓reduceIte, Option.getD_some]
    · rw [if_neg h1]
      rw [if_neg h1]
      simp only [Bool.not_false, ↓reduceIte]
      rw [need_pos (by omega), gi_nat hjl, ha.1, need_pos (by simp; omega)]
theorem wApply {s : List Bd} (hl : s.length ≤ maxLen) (t : List Nd) : m_ref6_Apply s t = some (apR s t) := by
  unfold m_ref6_Apply apR
  simp only [jn_eq]
  rw [wValid, bnd1_mk]
  cases ht : vdB t with
  | false => simp
  | true =>
    rw [Bool.not_true, if_neg (by simp), wSub hl, bnd1_mk]
    cases hs : sbB s with
    | false => simp
    | true =>
      have hg : m_ref6_replace s t = some (rep s t) := by
        unfold m_ref6_replace
        rw [jn_eq, show (0 : Int) = ((0 : Nat) : Int) from rfl, wRep14 hs hl (vdB_len ht) _ t 0 FU [] rfl (Nat.zero_le _) (by have := FU_ge; have := vdB_len ht; omega) (by simp), List.nil_append]
      rw [Bool.not_true, if_neg (by simp), hg, bnd1_mk, wValid, bnd1_mk]
      cases hr : vdB (rep s t) with
      | false => simp
      | true => simp
theorem eqNode_loop (l : List Nd) (hl : l.length ≤ 4611686018427387904) (K : Unit → Option Bool) : ∀ (m j n : Nat), j + m = l.length → m < n → m_help_Equal_api_TypeNode_L2 l l K n (j : Int) = K ()
  | 0, j, n, hj, hn => by
    obtain ⟨n, rfl⟩ : ∃ q, n = q + 1 := ⟨n - 1, by omega⟩
    rw [m_help_Equal_api_TypeNode_L2, m_help_Equal_api_TypeNode_B2, if_neg (by omega)]
  | m + 1, j, n, hj, hn => by
    obtain ⟨n, rfl⟩ : ∃ q, n = q + 1 := ⟨n - 1, by omega⟩
    rw [m_help_Equal_api_TypeNode_L2, m_help_Equal_api_TypeNode_B2, if_pos (by omega), need_pos (by omega), need_pos (by omega), if_neg (fun h => h rfl), i64s (by omega)]
    exact eqNode_loop l hl K m (j + 1) n (by omega) (by omega)
theorem eqNode (l : List Nd) (hl : l.length ≤ 4611686018427387904) : m_help_Equal_api_TypeNode l l = some true := by
  unfold m_help_Equal_api_TypeNode
  rw [if_neg (fun h => h rfl), jn_eq]
  exact eqNode_loop l hl _ l.length 0 FU (by omega) (by have := FU_ge; omega)
theorem apR_len (s : List Bd) (t : List Nd) : (apR s t).length ≤ 512 := by
  unfold apR
  split
  · rename_i h; exact vdB_len h.2.2
  · simp
/-! ### Exchanging two variables -/
def swN (n : Nd) : Nd := if n.1 = 1 then (if n.2.1 = 0 then (1, 1, 0) else if n.2.1 = 1 then (1, 0, 0) else n) else n
abbrev swS : List Bd := [(0, [(1, 1, 0)]), (1, [(1, 0, 0)])]
theorem swS_ok : sbB swS = true := by kernel_rfl
theorem sub_sw (n : Nd) : subN swS n = [swN n] := by
  unfold subN swN
  by_cases h : n.1 = 1
  · rw [if_pos h, if_pos h, lookL, lookL, lookL]
    by_cases h0 : n.2.1 = 0
    · rw [if_pos h0.symm, if_pos h0]; rfl
    · rw [if_neg (fun e => h0 e.symm), if_neg h0]
      by_cases h1 : n.2.1 = 1
      · rw [if_pos h1.symm, if_pos h1]; rfl
      · rw [if_neg (fun e => h1 e.symm), if_neg h1]; rfl
  · rw [if_neg h, if_neg h]
theorem rep_sw (t : List Nd) : rep swS t = t.map swN := by
  induction t with
  | nil => rfl
  | cons a t ih => rw [rep, List.flatMap_cons, sub_sw]; show swN a :: rep swS t = _; rw [ih]; rfl
theorem sw_kids {n : Nd} (h : fmB n = true) : (swN n).2.2 = n.2.2 ∧ fmB (swN n) = true ∧ swN (swN n) = n := by
  obtain ⟨k, m, c⟩ := n
  unfold swN
  by_cases h1 : k = 1
  · subst h1
    have hc : c = 0 := by simp [fmB] at h; omega
    subst hc
    by_cases h2 : m = 0
    · subst h2; exact ⟨rfl, rfl, rfl⟩
    · by_cases h3 : m = 1
      · subst h3; exact ⟨rfl, rfl, rfl⟩
      · simp [h2, h3, h]
  · simp [h1, h]
/-- What is valid depends on the numbers of children alone. -/
theorem aft_map {f : Nd → Nd} {t : List Nd} (hf : ∀ n ∈ t, (f n).2.2 = n.2.2 ∧ fmB (f n) = fmB n) : ∀ (d i : Nat), aft (t.map f) d i = aft t d i
  | 0, _ => rfl
  | d + 1, i => by
    rw [aft, aft, List.getElem?_map]
    cases hx : t[i]? with
    | none => rfl
    | some n =>
      obtain ⟨h1, h2⟩ := hf n (List.mem_of_getElem? hx)
      have : aft (t.map f) d = aft t d := funext fun j => aft_map hf d j
      simp only [Option.map_some, h1, h2, this]
theorem vd_map {f : Nd → Nd} {t : List Nd} (hf : ∀ n ∈ t, (f n).2.2 = n.2.2 ∧ fmB (f n) = fmB n) : vdB (t.map f) = vdB t := by
  unfold vdB
  rw [List.length_map, aft_map hf]
theorem ap_sw {t : List Nd} (h : vdB t = true) : apR swS t = t.map swN ∧ apR swS (t.map swN) = t := by
  have h1 : vdB (t.map swN) = true := by rw [vd_map (fun n hn => ⟨(sw_kids (vd_fm h n hn)).1, by rw [(sw_kids (vd_fm h n hn)).2.1, vd_fm h n hn]⟩), h]
  have h2 : (t.map swN).map swN = t := by
    rw [List.map_map]
    exact (List.map_congr_left (fun n hn => (sw_kids (vd_fm h n hn)).2.2)).trans (List.map_id t)
  unfold apR
  rw [rep_sw, rep_sw, h2]
  exact ⟨if_pos ⟨swS_ok, h, h1⟩, if_pos ⟨swS_ok, h1, h⟩⟩
/-! ### The law -/
theorem applyL {l : List Int} (Q : Option Bool → Prop) (K : List Bd → Option Bool) (hK : ∀ r : List Bd, r.length ≤ 4 → Q (K r)) : ∀ (m n v : Nat) (i : Int) (r : List Bd), v + m = 4 → m < n → r.length ≤ v → GS l i → Q (m_law7_TypesApply_L2 K n l i r (v : Int))
  | 0, n, v, i, r, hv, hn, hr, _ => by
    obtain ⟨n, rfl⟩ : ∃ q, n = q + 1 := ⟨n - 1, by omega⟩
    rw [m_law7_TypesApply_L2, m_law7_TypesApply_B2, if_neg (by omega)]
    exact hK r (by omega)
  | m + 1, n, v, i, r, hv, hn, hr, hg => by
    obtain ⟨n, rfl⟩ : ∃ q, n = q + 1 := ⟨n - 1, by omega⟩
    obtain ⟨y, i1, e1, g1, y0, y1⟩ := gNext hg (n := 3) (by omega) (by omega)
    rw [m_law7_TypesApply_L2, m_law7_TypesApply_B2, if_pos (by omega), jn_eq, e1, bnd1_mk, i64s (by omega)]
    by_cases h : 0 < y
    · obtain ⟨t, i2, e2, g2, _⟩ := vTyp (V := 4) (by omega) (by omega) 2 (by omega) g1 3 (by omega)
      rw [if_pos h, e2, bnd1_mk, need_pos (by simp; omega)]
      exact applyL Q K hK m n (v + 1) i2 _ (by omega) (by omega) (by simp; omega) g2
    · rw [if_neg h]
      exact applyL Q K hK m n (v + 1) i1 r (by omega) (by omega) (by omega) g1
theorem typesApply_true (s : List Bd) (t : List Nd) (a b : List Int) (hs : s.length ≤ maxLen ∧ ∀ x ∈ s, (Lit.int .i64 x.1).wf = true ∧ x.2.length ≤ maxLen ∧ ∀ y ∈ x.2, (Lit.int .i64 y.1).wf = true ∧ (Lit.int .i64 y.2.1).wf = true ∧ (Lit.int .i64 y.2.2).wf = true) (_ : t.length ≤ maxLen ∧ ∀ x ∈ t, (Lit.int .i64 x.1).wf = true ∧ (Lit.int .i64 x.2.1).wf = true ∧ (Lit.int .i64 x.2.2).wf = true) (ha : a.length ≤ maxLen ∧ ∀ x ∈ a, (Lit.int .i64 x).wf = true) (hb : b.length ≤ maxLen ∧ ∀ x ∈ b, (Lit.int .i64 x).wf = true) : m_law7_TypesApply s t a b = some true := by
  unfold m_law7_TypesApply m_gen_New
  rw [bnd1_mk, jn_eq]
  dsimp only
  rw [show (0 : Int) = ((0 : Nat) : Int) from rfl]
  refine applyL (fun o => o = some true) _ (fun r hr => ?_) 4 FU 0 0 [] (by omega) (by have := FU_ge; omega) (by simp) (gs_new ha)
  obtain ⟨u, i', h1, _, hu⟩ := vTyp (V := 4) (by omega) (by omega) 3 (by omega) (gs_new hb) 4 (by omega)
  have hv := hu.vd (by omega)
  obtain ⟨w1, w2⟩ := ap_sw hv
  have hrl : r.length ≤ maxLen := by unfold maxLen; omega
  have hsw : (swS).length ≤ maxLen := by unfold maxLen; simp
  rw [bnd1_mk]
  dsimp only
  rw [show ((0 : Nat) : Int) = 0 from rfl, h1, bnd1_mk]
  dsimp only
  rw [make0, bnd1_mk, make0, bnd1_mk, jn_eq, awake7, bnd1_mk, if_pos rfl, vApply hs.1, bnd1_mk, wApply hs.1, bnd1_mk, eqNode _ (by have := apR_len s t; omega), bnd1_mk, if_pos rfl, vApply hrl, bnd1_mk, wApply hrl, bnd1_mk, eqNode _ (by have := apR_len r u; omega), bnd1_mk, if_pos rfl]
  rw [show m_types_Apply [(0, [((1 : Int), (1 : Int), (0 : Int))]), (1, [((1 : Int), (0 : Int), (0 : Int))])] u = some (u.map swN) by rw [vApply hsw, w1], bnd1_mk]
  rw [show m_types_Apply [(0, [((1 : Int), (1 : Int), (0 : Int))]), (1, [((1 : Int), (0 : Int), (0 : Int))])] (u.map swN) = some u by rw [vApply hsw, w2], bnd1_mk, eqNode u (by have := vdB_len hv; omega), bnd1_mk]
end Go.Proofs.YtdfdjgolijckfaaDoor
/- TypesApply: for every input the call returns true, and the arguments read as before. No condition. -/
namespace Go.Proofs.YtdfdjgolijckfaaDoor
open Go.ChangeShapes Go.WideShapes Go.ChangeAt Go.RowKit

theorem o_int : Opens Tryd.prog 3 1 (fun x : Int => [.exact (.int .i64 x)]) (fun _ => 1) (fun x => (Lit.int .i64 x).wf = true) := fun e0 W fuel cs y h => (opens_int Tryd.underlying3) e0 W fuel cs y h
theorem o_api_TypeNode : Opens Tryd.prog 41 3 c_api_TypeNode (fun x => (fun _ => 1) x.1 + (fun _ => 1) x.2.1 + (fun _ => 1) x.2.2) (fun x => (fun x => (Lit.int .i64 x).wf = true) x.1 ∧ (fun x => (Lit.int .i64 x).wf = true) x.2.1 ∧ (fun x => (Lit.int .i64 x).wf = true) x.2.2) := fun e0 W fuel cs y h => (opens_struct3 Tryd.underlying41 (by kernel_rfl) rfl rfl rfl (by kernel_rfl) (by kernel_rfl) (by kernel_rfl) o_int o_int o_int) e0 W fuel cs y h
theorem o_L_api_TypeNode : Opens Tryd.prog 22 1 (fun xs : List (Int × Int × Int) => [.row 3 c_api_TypeNode xs]) (fun xs => szL (fun x => (fun _ => 1) x.1 + (fun _ => 1) x.2.1 + (fun _ => 1) x.2.2) xs + 1) (fun xs => xs.length ≤ maxLen ∧ ∀ x ∈ xs, (fun x => (fun x => (Lit.int .i64 x).wf = true) x.1 ∧ (fun x => (Lit.int .i64 x).wf = true) x.2.1 ∧ (fun x => (Lit.int .i64 x).wf = true) x.2.2) x) := fun e0 W fuel cs y h => (opens_slice Tryd.underlying22 (by kernel_rfl) (by decide) o_api_TypeNode) e0 W fuel cs y h
theorem o_api_Binding : Opens Tryd.prog 38 2 c_api_Binding (fun x => (fun _ => 1) x.1 + (fun xs => szL (fun x => (fun _ => 1) x.1 + (fun _ => 1) x.2.1 + (fun _ => 1) x.2.2) xs + 1) x.2) (fun x => (fun x => (Lit.int .i64 x).wf = true) x.1 ∧ (fun xs => xs.length ≤ maxLen ∧ ∀ x ∈ xs, (fun x => (fun x => (Lit.int .i64 x).wf = true) x.1 ∧ (fun x => (Lit.int .i64 x).wf = true) x.2.1 ∧ (fun x => (Lit.int .i64 x).wf = true) x.2.2) x) x.2) := fun e0 W fuel cs y h => (opens_struct2 Tryd.underlying38 (by kernel_rfl) rfl rfl (by kernel_rfl) (by kernel_rfl) o_int o_L_api_TypeNode) e0 W fuel cs y h
theorem o_L_api_Binding : Opens Tryd.prog 24 1 (fun xs : List (Int × (List (Int × Int × Int))) => [.row 2 c_api_Binding xs]) (fun xs => szL (fun x => (fun _ => 1) x.1 + (fun xs => szL (fun x => (fun _ => 1) x.1 + (fun _ => 1) x.2.1 + (fun _ => 1) x.2.2) xs + 1) x.2) xs + 1) (fun xs => xs.length ≤ maxLen ∧ ∀ x ∈ xs, (fun x => (fun x => (Lit.int .i64 x).wf = true) x.1 ∧ (fun xs => xs.length ≤ maxLen ∧ ∀ x ∈ xs, (fun x => (fun x => (Lit.int .i64 x).wf = true) x.1 ∧ (fun x => (Lit.int .i64 x).wf = true) x.2.1 ∧ (fun x => (Lit.int .i64 x).wf = true) x.2.2) x) x.2) x) := fun e0 W fuel cs y h => (opens_slice Tryd.underlying24 (by kernel_rfl) (by decide) o_api_Binding) e0 W fuel cs y h
theorem o_L_int : Opens Tryd.prog 23 1 (fun xs : List Int => [.row 1 c_int xs]) (fun xs => szL (fun _ => 1) xs + 1) (fun xs => xs.length ≤ maxLen ∧ ∀ x ∈ xs, (fun x => (Lit.int .i64 x).wf = true) x) := fun e0 W fuel cs y h => (opens_slice Tryd.underlying23 (by kernel_rfl) (by decide) o_int) e0 W fuel cs y h
theorem door_met (os : Os) (args : Array Value) : laidMetH Tryd.prog Rows.typesApplyRow.laid ((World.doorLaid Tryd.prog 400 os).forCall (fun _ _ => 0) ⟨#[], args, []⟩).memory :=
  laidMetH_of_parts3 (fuel := 8) (laidMet_of_run' 8 (by kernel_rfl) (by kernel_rfl)) (by kernel_rfl) (by kernel_rfl)
set_option maxRecDepth 100000 in
theorem typesApply_lifted (os : Os) (started : os.Started) (H : Type) (enc : TypeId × Value → H) :
    ReturnsInHanded {} Tryd.checked os 7 .any (fun w args => (Rows.typesApplySpec.pre enc Tryd.prog Tryd.f7 Rows.typesApplyRow.domain false w args ∧ laidMetH Tryd.prog Rows.typesApplyRow.laid w) ∧ sizedMet enc Tryd.prog Tryd.f7 (OpenSpec.ofChange Rows.typesApplySpec) false w args) (Rows.typesApplySpec.post enc Tryd.prog Tryd.f7 false true false false) := by
  refine returnsInHanded_of_change_and (C := Tryd.checked) (X := fun w _ => laidMetH Tryd.prog Rows.typesApplyRow.laid w) (fun _ _ _ hh h => h.of_heap hh) Tryd.own started (by kernel_rfl) Tryd.func7
    (ChangeSpec.witness_shaped (enc := enc) (C := Tryd.checked) (os := os) (X := fun w _ => laidMetH Tryd.prog Rows.typesApplyRow.laid w) false (World.doorLaid Tryd.prog 400 os) #[.slice none 0 0, .slice none 0 0, .slice none 0 0, .slice none 0 0] 8 rfl (World.shaped_of_RefB (by kernel_rfl) (by kernel_rfl)) (by kernel_rfl) (by kernel_rfl) (by kernel_rfl) (door_met os _)) ?_
  intro W base args ds gs before hval0 hW _ _ hL _
  have hval : ∀ (j : Nat) t v, Tryd.f7.params[j]? = some t → args[j]? = some v → Value.okWide Tryd.prog W .any base t v := hval0
  have hW' := hW
  obtain ⟨p, q, hA0, hV, rfl, hfz, hnd⟩ := hW
  have hA : DataW.TrodAll enc Tryd.prog W 0 (fun _ => true) true Tryd.f7.params.toList args.toList ds p := hA0
  rw [Tryd.params7] at hA hval
  obtain ⟨v0, vs0, d0, ds0, p0, q0, hargs, rfl, rfl, h0, r0⟩ := trodAll_cons hA
  obtain ⟨v1, vs1, d1, ds1, p1, q1, rfl, rfl, rfl, h1, r1⟩ := trodAll_cons r0
  obtain ⟨v2, vs2, d2, ds2, p2, q2, rfl, rfl, rfl, h2, r2⟩ := trodAll_cons r1
  obtain ⟨v3, vs3, d3, ds3, p3, q3, rfl, rfl, rfl, h3, r3⟩ := trodAll_cons r2
  obtain ⟨rfl, rfl, rfl⟩ := trodAll_nil r3
  obtain rfl : args = #[v0, v1, v2, v3] := by cases args; simp_all
  obtain ⟨rfl, rfl⟩ := trodVars_none hV
  clear hA0
  simp only [List.append_nil] at hW'
  have hlt := hW'.lt
  obtain ⟨x0, qq0, g0, s0⟩ := arg_open o_L_api_Binding (plain_slice Tryd.underlying24 (hval 0 24 v0 rfl rfl)) h0
  obtain ⟨x1, qq1, g1, s1⟩ := arg_open o_L_api_TypeNode (plain_slice Tryd.underlying22 (hval 1 22 v1 rfl rfl)) h1
  obtain ⟨x2, qq2, g2, s2⟩ := arg_open o_L_int (plain_slice Tryd.underlying23 (hval 2 23 v2 rfl rfl)) h2
  obtain ⟨x3, qq3, g3, s3⟩ := arg_open o_L_int (plain_slice Tryd.underlying23 (hval 3 23 v3 rfl rfl)) h3
  refine (Pure.call (m_law7_TypesApply_ok x0 x1 x2 x3 true (typesApply_true x0 x1 x2 x3 qq0 qq1 qq2 qq3)) (vs := [v0, v1, v2, v3]) ⟨g0.1, g1.1, g2.1, g3.1, trivial⟩).mono fun e W' ⟨he, hb⟩ => ?_
  subst he
  exact ⟨_, rfl, post_of_below (pa := p0 ++ (p1 ++ (p2 ++ (p3 ++ [])))) (pv := []) hW' (fun _ _ _ => trodAll_cons_mk (shut_bool Tryd.underlying4 true) trodAll_mk0)
    (fun sp hsp => trodAll_cons_mk (trod_after (by kernel_rfl) (of_decide_eq_true (by kernel_rfl)) h0 hb (fun x hx => hlt x (by simp [hx])) (fun x hx => by simp [hx]) sp hsp) (trodAll_cons_mk (trod_after (by kernel_rfl) (of_decide_eq_true (by kernel_rfl)) h1 hb (fun x hx => hlt x (by simp [hx])) (fun x hx => by simp [hx]) sp hsp) (trodAll_cons_mk (trod_after (by kernel_rfl) (of_decide_eq_true (by kernel_rfl)) h2 hb (fun x hx => hlt x (by simp [hx])) (fun x hx => by simp [hx]) sp hsp) (trodAll_cons_mk (trod_after (by kernel_rfl) (of_decide_eq_true (by kernel_rfl)) h3 hb (fun x hx => hlt x (by simp [hx])) (fun x hx => by simp [hx]) sp hsp) (trodAll_mk0)))))
    (fun _ _ => rfl) (by simp) hb (ok_one (by kernel_rfl) rfl (okWide_bool_mk Tryd.underlying4 true))⟩

theorem typesApply_holds : Rows.TypesApplySaid :=
  OpenClaim.holds_of_wide 7 Tryd.f7 rfl rfl rfl rfl rfl rfl rfl ⟨rfl, rfl, rfl, rfl, rfl⟩ rfl rfl rfl rfl rfl (by kernel_rfl) Tryd.func7 (by kernel_rfl)
    (of_decide_eq_true (by kernel_rfl)) (by unfold Func.isWrapper; first | (rw [if_pos (by decide +kernel)]; kernel_rfl) | (rw [if_neg (by decide +kernel)]; exact ⟨rfl, rfl⟩))
    (fun os started H enc _ => typesApply_lifted os started H enc)

theorem typesApply_card_holds : Rows.TypesApplyCardSaid :=
  Claim7.holds_tied_plain_at .later [] [.data, .data, .data] true (true, "266afa1125f812094a6acd2f15ec6e17dfc0fe2faf4d68696ad7b3b06d247b04") false
    typesApply_holds (fun _ h => by cases h) (by kernel_rfl) (fun _ h => by cases h) typesApply_row_tie rfl ⟨rfl, rfl⟩ (by kernel_rfl) rfl
    (fun f fn hf hfn => by
      obtain rfl : f = 7 := Option.some.inj ((show Tryd.prog.funcNamed "cspcheck/cspchecklaw7.TypesApply" = some 7 by kernel_rfl).symm.trans hf) |>.symm
      obtain rfl : fn = Tryd.f7 := (Option.some.inj (Tryd.func7.symm.trans hfn)).symm
      exact ⟨by kernel_rfl, fun j t ht => by
        rw [Tryd.params7] at ht
        have hm : t ∈ [24, 22, 23, 23] := by simpa using Array.mem_of_getElem? ht
        have hall : ([24, 22, 23, 23].all fun u => !Tryd.prog.wantsStandIn u) = true := by kernel_rfl
        exact (show Tryd.prog.wantsStandIn t = false by simpa using List.all_eq_true.1 hall t hm)⟩)
    (by kernel_rfl)
end Go.Proofs.YtdfdjgolijckfaaDoor
