/- The law of Needs. -/
import Derived.Test.YtdfdjgolijckfaaDoorQr1
import Derived.Test.YtdfdjgolijckfaaDoorQr3
import Derived.Test.YtdfdjgolijckfaaDoorQr6
import Derived.LaidMore
import Derived.Stop.Joined
import Derived.SevenTiedAt
import Derived.Test.YtdfdjgolijckfaaDoorTie
import Derived.Test.YtdfdjgolijckfaaDoorCards
namespace Go.Proofs.YtdfdjgolijckfaaDoor
attribute [local irreducible] FU
theorem srk_len {β : Type} (b : Int) : ∀ (l : List (Int × β)) (a : Int), SrK l → (∀ x ∈ l, a ≤ x.1 ∧ x.1 ≤ b) → l.length ≤ (b - a + 1).toNat
  | [], _, _, _ => Nat.zero_le _
  | x :: l, a, hs, h => by
    obtain ⟨p1, p2⟩ := List.pairwise_cons.1 hs
    have h0 := h x List.mem_cons_self
    have := srk_len b l (x.1 + 1) p2 (fun y hy => ⟨by have := p1 y hy; omega, (h y (List.mem_cons_of_mem _ hy)).2⟩)
    simp only [List.length_cons]; omega
theorem gs_new {c : List Int} (hc : c.length ≤ maxLen ∧ ∀ x ∈ c, (Lit.int .i64 x).wf = true) : GS c 0 := ⟨by omega, by omega, by have := hc.1; unfold maxLen at this; omega⟩
end Go.Proofs.YtdfdjgolijckfaaDoor
/- Apply, both ways. -/
namespace Go.Proofs.YtdfdjgolijckfaaDoor
attribute [local irreducible] FU
/-- What the generator builds is valid. -/
theorem Ty.aft {V : Int} : ∀ {d : Nat} {a : List Nd}, Ty V d a → ∀ (pre post : List Nd) (D : Nat), d ≤ D → aft (pre ++ (a ++ post)) D pre.length = some (pre.length + a.length)
  | _, _, .leaf (k := k) (m := m) h hv, pre, post, D, hD => by
    obtain ⟨D, rfl⟩ : ∃ q, D = q + 1 := ⟨D - 1, by omega⟩
    rw [Go.Proofs.YtdfdjgolijckfaaDoor.aft, List.getElem?_append_right (Nat.le_refl _), Nat.sub_self]
    show (if fmB (k, m, 0) = true then _ else none) = _
    rw [if_pos h]; rfl
  | _, _, .one (a := a) (k := k) h ha, pre, post, D, hD => by
    obtain ⟨D, rfl⟩ : ∃ q, D = q + 1 := ⟨D - 1, by omega⟩
    rw [Go.Proofs.YtdfdjgolijckfaaDoor.aft, List.getElem?_append_right (Nat.le_refl _), Nat.sub_self]
    show (if fmB (k, 0, 1) = true then aftK _ 1 (pre.length + 1) else none) = _
    have h1 := ha.aft (pre ++ [(k, 0, 1)]) post D (by omega)
    rw [List.append_assoc, List.length_append, List.length_singleton] at h1
    rw [if_pos h, aftK, List.cons_append]
    rw [List.singleton_append] at h1
    rw [h1, Option.bind_some, aftK, List.length_cons]
    congr 1; omega
  | _, _, .two (a := a) (b := b) (k := k) h ha hb, pre, post, D, hD => by
    obtain ⟨D, rfl⟩ : ∃ q, D = q + 1 := ⟨D - 1, by omega⟩
    rw [Go.Proofs.YtdfdjgolijckfaaDoor.aft, List.getElem?_append_right (Nat.le_refl _), Nat.sub_self]
    show (if fmB (k, 0, 2) = true then aftK _ 2 (pre.length + 1) else none) = _
    have h1 := ha.aft (pre ++ [(k, 0, 2)]) (b ++ post) D (by omega)
    have h2 := hb.aft (pre ++ [(k, 0, 2)] ++ a) post D (by omega)
    rw [if_pos h, aftK, List.cons_append]
    simp only [List.append_assoc, List.length_append, List.length_cons, List.length_nil, List.singleton_append, List.cons_append, List.nil_append, Nat.zero_add] at h1 h2 ⊢
    rw [h1, Option.bind_some, aftK, show pre.length + 1 + a.length = pre.length + (a.length + 1) by omega, h2, Option.bind_some, aftK]
    congr 1; omega
abbrev Bd := Int × List Nd
/-- A substitution: its types are valid, its variables grow. -/
def sbC : Option Int → List Bd → Bool
  | _, [] => true
  | p, a :: l => vdB a.2 && (match p with | none => true | some v => decide (v < a.1)) && sbC (some a.1) l
abbrev sbB (s : List Bd) : Bool := sbC none s
theorem sbC_cons (p : Option Int) (a : Bd) (l : List Bd) : sbC p (a :: l) = (vdB a.2 && (match p with | none => true | some v => decide (v < a.1)) && sbC (some a.1) l) := by cases p <;> rfl
theorem sbC_nil (p : Option Int) : sbC p [] = true := by cases p <;> rfl
/-- The variable before index j. -/
def prv (s : List Bd) : Nat → Option Int
  | 0 => none
  | j + 1 => (s[j]?).map (·.1)
theorem prv_succ {s : List Bd} {j : Nat} (h : j < s.length) : prv s (j + 1) = some s[j].1 := by simp [prv, h]
theorem wSubst {s : List Bd} (hl : s.length ≤ maxLen) (K : Unit → Option Bool) : ∀ (u : List Bd) (j n : Nat), s.drop j = u → j ≤ s.length → u.length < n → m_ref6_substitution_L2 s K n (j : Int) = if sbC (prv s j) u = true then K () else some false
  | [], j, 0, _, _, h => by simp at h
  | [], j, n + 1, hd, hj, _ => by
    have := congrArg List.length hd
    simp at this
    rw [m_ref6_substitution_L2, m_ref6_substitution_B2, if_neg (by omega), sbC_nil, if_pos rfl]
  | a :: u, j, 0, _, _, h => by simp at h
  | a :: u, j, n + 1, hd, hj, hn => by
    unfold maxLen at hl
    have hlen := congrArg List.length hd
    simp at hlen
    have hjl : j < s.length := by omega
    have ha : s[j] = a ∧ s.drop (j + 1) = u := by rw [List.drop_eq_getElem_cons hjl] at hd; exact ⟨(List.cons.inj hd).1, (List.cons.inj hd).2⟩
    have hr := wSubst (s := s) (by unfold maxLen; omega) K u (j + 1) n ha.2 (by omega) (by simp at hn; omega)
    rw [prv_succ hjl, ha.1] at hr
    rw [m_ref6_substitution_L2, m_ref6_substitution_B2, if_pos (by omega), jn_eq, need_pos (by omega), gi_nat hjl, wValid, bnd1_mk, ha.1, sbC_cons, i64s (by omega)]
    cases hv : vdB a.2 with
    | false => rfl
    | true =>
      rw [Bool.not_true, if_neg (by simp)]
      match j, hjl, hr with
      | 0, hjl, hr =>
        rw [if_neg (by simp)]
        simp only [prv, Bool.true_and, Bool.false_eq_true, ↓reduceIte]
        exact hr
      | j + 1, hjl, hr =>
        have e : i64 (((j + 1 : Nat) : Int) - 1) = (j : Int) := by rw [i64_id (by omega)]; omega
        rw [if_pos (by omega), need_pos (by omega), e, need_pos (by omega), gi_nat (by omega : j < s.length), prv_succ (by omega : j < s.length)]
        by_cases hc : a.1 ≤ s[j].1
        · simp only [decide_eq_true hc, decide_eq_false (show ¬ s[j].1 < a.1 by omega), ↓reduceIte, Bool.and_false, Bool.false_and, Bool.false_eq_true]
        · simp only [decide_eq_false hc, decide_eq_true (show s[j].1 < a.1 by omega), ↓reduceIte, Bool.and_true, Bool.true_and, Bool.false_eq_true]
          exact hr
theorem vSubst {s : List Bd} (hl : s.length ≤ maxLen) (K : List Bd → Option (List Bd × Bool)) : ∀ (u : List Bd) (j n : Nat) (m : List Bd), s.drop j = u → j ≤ s.length → u.length < n → (∀ x ∈ s.take j, ∃ v, prv s j = some v ∧ x.1 ≤ v) → (∀ v, lookL m v = lookL (s.take j) v) →
    ∃ m', m_types_substitution_L2 s K n m (j : Int) = (if sbC (prv s j) u = true then K m' else some ([], false)) ∧ (sbC (prv s j) u = true → ∀ v, lookL m' v = lookL s v)
  | [], j, 0, _, _, _, h, _, _ => by simp at h
  | [], j, n + 1, m, hd, hj, _, _, hm => by
    have := congrArg List.length hd
    simp at this
    refine ⟨m, by rw [m_types_substitution_L2, m_types_substitution_B2, if_neg (by omega), sbC_nil, if_pos rfl], fun _ v => ?_⟩
    rw [hm, List.take_of_length_le (by omega)]
  | a :: u, j, 0, _, _, _, h, _, _ => by simp at h
  | a :: u, j, n + 1, m, hd, hj, hn, hp, hm => by
    unfold maxLen at hl
    have hlen := congrArg List.length hd
    simp at hlen
    have hjl : j < s.length := by omega
    have ha : s[j] = a ∧ s.drop (j + 1) = u := by rw [List.drop_eq_getElem_cons hjl] at hd; exact ⟨(List.cons.inj hd).1, (List.cons.inj hd).2⟩
    have htk : s.take (j + 1) = s.take j ++ [a] := by rw [List.take_succ_eq_append_getElem hjl, ha.1]
    rw [m_types_substitution_L2, m_types_substitution_B2, if_pos (by omega), need_pos (by omega), jn_eq, gi_nat hjl, vValid, bnd1_mk, ha.1, sbC_cons, i64s (by omega)]
    cases hv : vdB a.2 with
    | false => exact ⟨m, rfl, fun h => by cases h⟩
    | true =>
      rw [Bool.not_true, if_neg (by simp)]
      by_cases hpr : ∃ v, prv s j = some v ∧ ¬ v < a.1
      · obtain ⟨v, hv1, hv2⟩ := hpr
        match j, hjl, hv1 with
        | 0, _, hv1 => cases hv1
        | j + 1, hjl, hv1 =>
          have e : i64 (((j + 1 : Nat) : Int) - 1) = (j : Int) := by rw [i64_id (by omega)]; omega
          have hvs : v = s[j].1 := by rw [prv_succ (by omega : j < s.length)] at hv1; exact (Option.some.inj hv1).symm
          rw [if_pos (by omega), e, need_pos (by omega), gi_nat (by omega : j < s.length), hv1]
          refine ⟨m, ?_, fun h => ?_⟩
          · simp only [decide_eq_true (show a.1 ≤ s[j].1 by omega), decide_eq_false hv2, ↓reduceIte, Bool.and_false, Bool.false_and, Bool.false_eq_true]
          · simp only [decide_eq_false hv2, Bool.and_false, Bool.false_and, Bool.false_eq_true] at h
      · have hpr' : ∀ v, prv s j = some v → v < a.1 := fun v h => Classical.not_not.1 fun h2 => hpr ⟨v, h, h2⟩
        have hnew : ∀ v, lookL (putL m a.1 a.2) v = lookL (s.take (j + 1)) v := fun v => by
          rw [lookL_put, htk, lookL_app, ← hm, lookL, lookL]
          by_cases e : a.1 = v
          · rw [if_pos e, if_pos e]
            have : lookL m v = none := by
              rw [hm]
              refine lookL_lt (fun x hx he => ?_)
              obtain ⟨w, h1, h2⟩ := hp x hx
              have := hpr' w h1; omega
            rw [this]
          · rw [if_neg e, if_neg e]
            cases lookL m v <;> rfl
        obtain ⟨m', r1, r2⟩ := vSubst (s := s) (by unfold maxLen; omega) K u (j + 1) n (putL m a.1 a.2) ha.2 (by omega) (by simp at hn; omega) (fun x hx => by
          refine ⟨a.1, by rw [prv_succ hjl, ha.1], ?_⟩
          rw [htk, List.mem_append, List.mem_singleton] at hx
          rcases hx with hx | rfl
          · obtain ⟨w, h1, h2⟩ := hp x hx
            have := hpr' w h1; omega
          · omega) hnew
        rw [prv_succ hjl, ha.1] at r1 r2
        have hsb : (true && (match prv s j with | none => true | some v => decide (v < a.1)) && sbC (some a.1) u) = sbC (some a.1) u := by
          cases hq : prv s j with
          | none => simp
          | some v => simp [hpr' v hq]
        rw [hsb]
        refine ⟨m', ?_, r2⟩
        rw [← r1]
        match j, hjl, hpr' with
        | 0, _, _ => rw [if_neg (by simp)]; rfl
        | j + 1, hjl, hpr' =>
          have e : i64 (((j + 1 : Nat) : Int) - 1) = (j : Int) := by rw [i64_id (by omega)]; omega
          have := hpr' s[j].1 (prv_succ (by omega : j < s.length))
          rw [if_pos (by omega), e, need_pos (by omega), gi_nat (by omega : j < s.length), decide_eq_false (by omega)]
          rfl
theorem vSub {s : List Bd} (hl : s.length ≤ maxLen) : ∃ m, m_types_substitution s = some (m, sbB s) ∧ (sbB s = true → ∀ v, lookL m v = lookL s v) := by
  obtain ⟨m', h1, h2⟩ := vSubst hl (fun x => some (x, true)) s 0 FU [] rfl (Nat.zero_le _) (by have := FU_ge; unfold maxLen at hl; omega) (by simp) (by simp)
  unfold m_types_substitution
  rw [jn_eq, show (0 : Int) = ((0 : Nat) : Int) from rfl, h1]
  by_cases h : sbC (prv s 0) s = true
  · rw [if_pos h]; exact ⟨m', by rw [show sbB s = true from h], fun _ => h2 h⟩
  · rw [if_neg h]; exact ⟨[], by rw [show sbB s = false from Bool.eq_false_iff.2 h], fun hh => absurd hh h⟩
theorem wSub {s : List Bd} (hl : s.length ≤ maxLen) : m_ref6_substitution s = some (sbB s) := by
  have h1 := wSubst hl (fun _ => some true) s 0 FU rfl (Nat.zero_le _) (by have := FU_ge; unfold maxLen at hl; omega)
  unfold m_ref6_substitution
  rw [jn_eq, show (0 : Int) = ((0 : Nat) : Int) from rfl, h1]
  show (if sbB s = true then some true else some false) = some (sbB s)
  cases sbB s <;> rfl
theorem sbC_spec : ∀ {p : Option Int} {s : List Bd}, sbC p s = true → SrK s ∧ (∀ x ∈ s, vdB x.2 = true) ∧ (∀ v, p = some v → ∀ x ∈ s, v < x.1)
  | _, [], _ => ⟨List.Pairwise.nil, by simp, by simp⟩
  | p, a :: l, h => by
    rw [sbC_cons, Bool.and_eq_true, Bool.and_eq_true] at h
    obtain ⟨⟨h1, h2⟩, h3⟩ := h
    obtain ⟨i1, i2, i3⟩ := sbC_spec h3
    refine ⟨List.pairwise_cons.2 ⟨fun x hx => i3 _ rfl x hx, i1⟩, fun x hx => ?_, fun v hv x hx => ?_⟩
    · rcases List.mem_cons.1 hx with rfl | hx
      · exact h1
      · exact i2 x hx
    · subst hv
      have h2 : v < a.1 := of_decide_eq_true h2
      rcases List.mem_cons.1 hx with rfl | hx
      · exact h2
      · have := i3 _ rfl x hx; omega
/-- A node, replaced. -/
def subN (s : List Bd) (n : Nd) : List Nd := if n.1 = 1 then (lookL s n.2.1).getD [n] else [n]
abbrev rep (s : List Bd) (t : List Nd) : List Nd := t.flatMap (subN s)
theorem subN_len {s : List Bd} (hs : sbB s = true) (n : Nd) : (subN s n).length ≤ 512 := by
  unfold subN
  split
  · cases h : lookL s n.2.1 with
    | none => simp
    | some t => exact vdB_len ((sbC_spec hs).2.1 _ (lookL_mem h))
  · simp
theorem vApplyL {s m : List Bd} (hs : sbB s = true) (hm : ∀ v, lookL m v = lookL s v) {t : List Nd} (hl : t.length ≤ 512) (ok : Bool) (K : List Nd → Option (List Nd)) : ∀ (u : List Nd) (j n : Nat) (o : List Nd), t.drop j = u → j ≤ t.length → u.length < n → o.length ≤ 512 * j →
    m_types_Apply_L2 t (m, ok) K n o (j : Int) = K (o ++ rep s u)
  | [], j, 0, _, _, _, h, _ => by simp at h
  | [], j, n + 1, o, hd, hj, _, _ => by
    have := congrArg List.length hd
    simp at this
    rw [m_types_Apply_L2, m_types_Apply_B2, if_neg (by omega)]; simp
  | a :: u, j, 0, _, _, _, h, _ => by simp at h
  | a :: u, j, n + 1, o, hd, hj, hn, ho => by
    have hlen := congrArg List.length hd
    simp at hlen
    have hjl : j < t.length := by omega
    have ha : t[j] = a ∧ t.drop (j + 1) = u := by rw [List.drop_eq_getElem_cons hjl] at hd; exact ⟨(List.cons.inj hd).1, (List.cons.inj hd).2⟩
    have hsl := subN_len hs a
    have hr := vApplyL hs hm hl ok K u (j + 1) n (o ++ subN s a) ha.2 (by omega) (by simp at hn; omega) (by rw [List.length_append]; omega)
    rw [m_types_Apply_L2, m_types_Apply_B2, if_pos (by omega), jn_eq, need_pos (by omega), jn_eq, gi_nat hjl, ha.1, hm, i64s (by omega)]
    have hfl : o ++ rep s (a :: u) = o ++ subN s a ++ rep s u := by simp [rep]
    rw [hfl, ← hr]
    unfold subN at hsl ⊢
    cases hx : lookL s a.2.1 with
    | none =>
      rw [hx] at hsl
      simp only [Option.isSome_none, Bool.false_eq_true, ↓reduceIte, Option.getD_none]
      rw [need_pos (by simp; omega)]
      split <;> rfl
    | some z =>
      rw [hx] at hsl
      simp only [Option.isSome_some, ↓reduceIte, Option.getD_some]
      by_cases h1 : a.1 = 1
      · rw [if_pos h1] at hsl
        simp only [h1, decide_true, ↓reduceIte]
        rw [need_pos (by simp only [Option.getD_some] at hsl; omega)]
      · simp only [h1, decide_false, Bool.false_eq_true, ↓reduceIte]
        rw [need_pos (by simp; omega)]
/-- What Apply answers. -/
def apR (s : List Bd) (t : List Nd) : List Nd := if sbB s = true ∧ vdB t = true ∧ vdB (rep s t) = true then rep s t else []
theorem vClipN (t : List Nd) : m_slices_Clip_L_api_TypeNode_api_TypeNode t = some t := by
  unfold m_slices_Clip_L_api_TypeNode_api_TypeNode
  rw [need_pos (by omega), Int.toNat_natCast, List.take_length]
theorem vApply {s : List Bd} (hl : s.length ≤ maxLen) (t : List Nd) : m_types_Apply s t = some (apR s t) := by
  obtain ⟨m, h1, h2⟩ := vSub hl
  unfold m_types_Apply apR
  rw [h1, bnd1_mk]
  simp only [jn_eq]
  cases hs : sbB s with
  | false => simp
  | true =>
    rw [Bool.not_true, if_neg (by simp), vValid, bnd1_mk]
    cases ht : vdB t with
    | false => simp
    | true =>
      have hg := fun K => vApplyL hs (h2 hs) (vdB_len ht) true K t 0 FU [] rfl (Nat.zero_le _) (by have := FU_ge; have := vdB_len ht; omega) (by simp)
      rw [Bool.not_true, if_neg (by simp), show (0 : Int) = ((0 : Nat) : Int) from rfl, hg, List.nil_append, vValid, bnd1_mk]
      cases hr : vdB (rep s t) with
      | false => simp
      | true => rw [Bool.not_true, if_neg (by simp), vClipN, bnd1_mk, if_pos ⟨rfl, rfl, rfl⟩]
end Go.Proofs.YtdfdjgolijckfaaDoor
/- Apply of the reference; exchanging variables; the law of Apply. -/
namespace Go.Proofs.YtdfdjgolijckfaaDoor
attribute [local irreducible] FU
theorem wRep26 {s : List Bd} (hs : sbB s = true) (hl : s.length ≤ maxLen) {t : List Nd} {i : Nat} (hi : i < t.length) (K : List Nd → Bool → Option (List Nd)) : ∀ (u : List Bd) (j n : Nat) (o : List Nd) (f : Bool), s.drop j = u → j ≤ s.length → u.length < n → (lookL u t[i].2.1 ≠ none → o.length ≤ 1000000) →
    m_ref6_replace_L26 s t (i : Int) K n o f (j : Int) = if t[i].1 = 1 then (match lookL u t[i].2.1 with | some z => K (o ++ z) true | none => K o f) else K o f
  | [], j, 0, _, _, _, _, h, _ => by simp at h
  | [], j, n + 1, o, f, hd, hj, _, _ => by
    have := congrArg List.length hd
    simp at this
    rw [m_ref6_replace_L26, m_ref6_replace_B26, jn_eq, need_pos (by omega), gi_nat hi]
    by_cases h1 : t[i].1 = 1
    · rw [if_pos h1, if_pos h1, decide_eq_false (by omega)]; rfl
    · rw [if_neg h1, if_neg h1]; rfl
  | a :: u, j, 0, _, _, _, _, h, _ => by simp at h
  | a :: u, j, n + 1, o, f, hd, hj, hn, ho => by
    have hl' := hl
    unfold maxLen at hl'
    have hlen := congrArg List.length hd
    simp at hlen
    have hjl : j < s.length := by omega
    have ha : s[j] = a ∧ s.drop (j + 1) = u := by rw [List.drop_eq_getElem_cons hjl] at hd; exact ⟨(List.cons.inj hd).1, (List.cons.inj hd).2⟩
    rw [m_ref6_replace_L26, m_ref6_replace_B26, jn_eq, need_pos (by omega), gi_nat hi]
    by_cases h1 : t[i].1 = 1
    · rw [if_pos h1, if_pos h1, decide_eq_true (by omega)]
      simp only [↓reduceIte, jn_eq]
      rw [need_pos (by omega), need_pos (by omega), gi_nat hjl, ha.1, lookL, i64s (by omega)]
      by_cases e : a.1 = t[i].2.1
      · have hz : a.2.length ≤ 512 := vdB_len ((sbC_spec hs).2.1 a (by rw [← ha.1]; exact List.getElem_mem hjl))
        have hnone : lookL u t[i].2.1 = none := by
          rw [← e]
          have hsr := (sbC_spec hs).1
          rw [← List.take_append_drop j s, hd, SrK, List.pairwise_append] at hsr
          refine lookL_lt (fun x hx he => ?_)
          have := (List.pairwise_cons.1 hsr.2.1).1 x hx; omega
        have ho' := ho (by rw [lookL, if_pos e]; simp)
        rw [if_pos e, if_pos e, need_pos (by omega), need_pos (by omega), wRep26 hs hl hi K u (j + 1) n (o ++ a.2) true ha.2 (by omega) (by simp at hn; omega) (fun h => absurd hnone h), if_pos h1, hnone]
      · rw [if_neg e, if_neg e, wRep26 hs hl hi K u (j + 1) n o f ha.2 (by omega) (by simp at hn; omega) (fun h => ho (by rw [lookL, if_neg e]; exact h)), if_pos h1]
    · rw [if_neg h1, if_neg h1]; rfl
theorem wRep14 {s : List Bd} (hs : sbB s = true) (hl : s.length ≤ maxLen) {t : List Nd} (ht : t.length ≤ 512) (K : List Nd → Option (List Nd)) : ∀ (u : List Nd) (j n : Nat) (o : List Nd), t.drop j = u → j ≤ t.length → u.length < n → o.length ≤ 512 * j →
    m_ref6_replace_L14 s t K n o (j : Int) = K (o ++ rep s u)
  | [], j, 0, _, _, _, h, _ => by simp at h
  | [], j, n + 1, o, hd, hj, _, _ => by
    have := congrArg List.length hd
    simp at this
    rw [m_ref6_replace_L14, m_ref6_replace_B14, if_neg (by omega)]; simp
  | a :: u, j, 0, _, _, _, h, _ => by simp at h
  | a :: u, j, n + 1, o, hd, hj, hn, ho => by
    have hlen := congrArg List.length hd
    simp at hlen
    have hjl : j < t.length := by omega
    have ha : t[j] = a ∧ t.drop (j + 1) = u := by rw [List.drop_eq_getElem_cons hjl] at hd; exact ⟨(List.cons.inj hd).1, (List.cons.inj hd).2⟩
    have hsl := subN_len hs a
    have hr := wRep14 hs hl ht K u (j + 1) n (o ++ subN s a) ha.2 (by omega) (by simp at hn; omega) (by rw [List.length_append]; omega)
    have hfl : o ++ rep s (a :: u) = o ++ subN s a ++ rep s u := by simp [rep]
    have h26 := fun K => wRep26 hs hl hjl K s 0 FU o false rfl (Nat.zero_le _) (by have := FU_ge; unfold maxLen at hl; omega) (fun _ => by omega)
    rw [m_ref6_replace_L14, m_ref6_replace_B14, if_pos (by omega)]
    simp only [jn_eq]
    rw [show (0 : Int) = ((0 : Nat) : Int) from rfl, h26, ha.1, i64s (by omega), hfl, ← hr]
    unfold subN at hsl ⊢
    by_cases h1 : a.1 = 1
    · rw [if_pos h1]
      rw [if_pos h1] at hsl ⊢
      cases hx : lookL s a.2.1 with
      | none =>
        simp only [Bool.not_false, ↓reduceIte, Option.getD_none]
        rw [need_pos (by omega), gi_nat hjl, ha.1, need_pos (by simp; omega)]
      | some z => simp only [Bool.not_true, Bool.false_eq_true, ↓reduceIte, Option.getD_some]
    · rw [if_neg h1]
      rw [if_neg h1]
      simp only [Bool.not_false, ↓reduceIte]
      rw [need_pos (by omega), gi_nat hjl, ha.1, need_pos (by simp; omega)]
theorem wApply {s : List Bd} (hl : s.length ≤ maxLen) (t : List Nd) : m_ref6_Apply s t = some (apR s t) := by
  unfold m_ref6_Apply apR
  simp only [jn_eq]
  rw [wValid, bnd1_mk]
  cases ht : vdB t with
  | false => simp
  | true =>
    rw [Bool.not_true, if_neg (by simp), wSub hl, bnd1_mk]
    cases hs : sbB s with
    | false => simp
    | true =>
      have hg : m_ref6_replace s t = some (rep s t) := by
        unfold m_ref6_replace
        rw [jn_eq, show (0 : Int) = ((0 : Nat) : Int) from rfl, wRep14 hs hl (vdB_len ht) _ t 0 FU [] rfl (Nat.zero_le _) (by have := FU_ge; have := vdB_len ht; omega) (by simp), List.nil_append]
      rw [Bool.not_true, if_neg (by simp), hg, bnd1_mk, wValid, bnd1_mk]
      cases hr : vdB (rep s t) with
      | false => simp
      | true => simp
theorem eqNode_loop (l : List Nd) (hl : l.length ≤ 4611686018427387904) (K : Unit → Option Bool) : ∀ (m j n : Nat), j + m = l.length → m < n → m_help_Equal_api_TypeNode_L2 l l K n (j : Int) = K ()
  | 0, j, n, hj, hn => by
    obtain ⟨n, rfl⟩ : ∃ q, n = q + 1 := ⟨n - 1, by omega⟩
    rw [m_help_Equal_api_TypeNode_L2, m_help_Equal_api_TypeNode_B2, if_neg (by omega)]
  | m + 1, j, n, hj, hn => by
    obtain ⟨n, rfl⟩ : ∃ q, n = q + 1 := ⟨n - 1, by omega⟩
    rw [m_help_Equal_api_TypeNode_L2, m_help_Equal_api_TypeNode_B2, if_pos (by omega), need_pos (by omega), need_pos (by omega), if_neg (fun h => h rfl), i64s (by omega)]
    exact eqNode_loop l hl K m (j + 1) n (by omega) (by omega)
theorem eqNode (l : List Nd) (hl : l.length ≤ 4611686018427387904) : m_help_Equal_api_TypeNode l l = some true := by
  unfold m_help_Equal_api_TypeNode
  rw [if_neg (fun h => h rfl), jn_eq]
  exact eqNode_loop l hl _ l.length 0 FU (by omega) (by have := FU_ge; omega)
theorem apR_len (s : List Bd) (t : List Nd) : (apR s t).length ≤ 512 := by
  unfold apR
  split
  · rename_i h; exact vdB_len h.2.2
  · simp
/-! ### Exchanging two variables -/
/-! ### The law -/
end Go.Proofs.YtdfdjgolijckfaaDoor
/- Types as trees laid out in rows. -/
namespace Go.Proofs.YtdfdjgolijckfaaDoor
attribute [local irreducible] FU
/-- A tree, at most d deep. -/
def Tr : Nat → List Nd → Prop
  | 0, _ => False
  | d + 1, t => ∃ (k m : Int) (ks : List (List Nd)), t = (k, m, (ks.length : Int)) :: ks.flatten ∧ fmB (k, m, (ks.length : Int)) = true ∧ ∀ x ∈ ks, Tr d x
theorem Tr.up : ∀ {d : Nat} {t : List Nd}, Tr d t → Tr (d + 1) t
  | 0, _, h => h.elim
  | d + 1, _, ⟨k, m, ks, h1, h2, h3⟩ => ⟨k, m, ks, h1, h2, fun x hx => (h3 x hx).up⟩
theorem Tr.le {d e : Nat} {t : List Nd} (h : Tr d t) (he : d ≤ e) : Tr e t := by
  induction e with
  | zero =>
    have : d = 0 := by omega
    subst this; exact h
  | succ e ih =>
    rcases Nat.eq_or_lt_of_le he with rfl | h2
    · exact h
    · exact (ih (by omega)).up
theorem Tr.pos {d : Nat} {t : List Nd} (h : Tr d t) : 0 < t.length := by
  match d, h with
  | 0, h => exact h.elim
  | d + 1, ⟨k, m, ks, h1, _, _⟩ => rw [h1]; simp
theorem trs_aft {D : Nat} (hT : ∀ (a pre post : List Nd), Tr D a → aft (pre ++ (a ++ post)) D pre.length = some (pre.length + a.length)) : ∀ (ks : List (List Nd)) (pre post : List Nd), (∀ x ∈ ks, Tr D x) → aftK (aft (pre ++ (ks.flatten ++ post)) D) ks.length pre.length = some (pre.length + ks.flatten.length)
  | [], pre, post, _ => by simp [aftK]
  | x :: ks, pre, post, h => by
    have h1 := hT x pre (ks.flatten ++ post) (h x List.mem_cons_self)
    have h2 := trs_aft hT ks (pre ++ x) post (fun y hy => h y (List.mem_cons_of_mem _ hy))
    rw [List.length_cons, aftK, List.flatten_cons, List.append_assoc, h1, Option.bind_some]
    rw [List.append_assoc, List.length_append] at h2
    rw [h2, List.length_append]
    congr 1; omega
theorem Tr.aft : ∀ {d : Nat} {a : List Nd} (pre post : List Nd), Tr d a → Go.Proofs.YtdfdjgolijckfaaDoor.aft (pre ++ (a ++ post)) d pre.length = some (pre.length + a.length)
  | 0, _, _, _, h => h.elim
  | d + 1, _, pre, post, ⟨k, m, ks, h1, h2, h3⟩ => by
    subst h1
    rw [Go.Proofs.YtdfdjgolijckfaaDoor.aft, List.getElem?_append_right (Nat.le_refl _), Nat.sub_self]
    show (if fmB (k, m, (ks.length : Int)) = true then aftK _ (ks.length : Int).toNat (pre.length + 1) else none) = _
    have h4 := trs_aft (D := d) (fun a pre post h => h.aft pre post) ks (pre ++ [(k, m, (ks.length : Int))]) post h3
    rw [if_pos h2, Int.toNat_natCast, List.cons_append]
    rw [List.append_assoc, List.singleton_append, List.length_append, List.length_singleton] at h4
    rw [h4, List.length_cons]
    congr 1; omega
theorem aftK_tr {t : List Nd} {D : Nat} (hT : ∀ i k, aft t D i = some k → ∃ a, Tr D a ∧ t.drop i = a ++ t.drop k) : ∀ (m i k : Nat), aftK (aft t D) m i = some k → ∃ ks : List (List Nd), ks.length = m ∧ (∀ x ∈ ks, Tr D x) ∧ t.drop i = ks.flatten ++ t.drop k
  | 0, i, k, h => by simp only [aftK, Option.some.injEq] at h; subst h; exact ⟨[], rfl, by simp, by simp⟩
  | m + 1, i, k, h => by
    rw [aftK] at h
    cases hx : aft t D i with
    | none => rw [hx] at h; cases h
    | some j =>
      rw [hx] at h
      obtain ⟨a, h1, h2⟩ := hT i j hx
      obtain ⟨ks, h3, h4, h5⟩ := aftK_tr hT m j k h
      refine ⟨a :: ks, by simp [h3], fun x hx => ?_, by rw [h2, h5]; simp⟩
      rcases List.mem_cons.1 hx with rfl | hx
      · exact h1
      · exact h4 x hx
theorem aft_tr (t : List Nd) : ∀ (D i k : Nat), aft t D i = some k → ∃ a, Tr D a ∧ t.drop i = a ++ t.drop k
  | 0, i, k, h => by simp [aft] at h
  | D + 1, i, k, h => by
    rw [aft] at h
    cases hx : t[i]? with
    | none => rw [hx] at h; cases h
    | some n =>
      rw [hx] at h
      obtain ⟨hi, he⟩ := List.getElem?_eq_some_iff.1 hx
      dsimp only at h
      split at h
      · rename_i hf
        obtain ⟨ks, h1, h2, h3⟩ := aftK_tr (aft_tr t D) _ _ _ h
        have hk := fm_kids hf
        have hn : n = (n.1, n.2.1, (ks.length : Int)) := by
          rw [h1]; exact Prod.ext rfl (Prod.ext rfl (by dsimp only; omega))
        refine ⟨n :: ks.flatten, ⟨n.1, n.2.1, ks, by rw [← hn], by rw [← hn]; exact hf, h2⟩, ?_⟩
        rw [List.drop_eq_getElem_cons hi, he, h3]; rfl
      · cases h
theorem vd_tr {t : List Nd} : vdB t = true ↔ Tr 64 t ∧ t.length ≤ 512 := by
  constructor
  · intro h
    obtain ⟨h1, h2, h3⟩ := of_decide_eq_true h
    obtain ⟨a, ha, hd⟩ := aft_tr t 64 0 _ h3
    rw [List.drop_zero, List.drop_length, List.append_nil] at hd
    exact ⟨hd ▸ ha, h2⟩
  · rintro ⟨h1, h2⟩
    have h3 := h1.aft [] []
    rw [List.append_nil, List.nil_append, List.length_nil, Nat.zero_add] at h3
    exact decide_eq_true ⟨h1.pos, h2, h3⟩
/-- No tree begins another. -/
theorem Tr.uniq {d e : Nat} {a b r s : List Nd} (ha : Tr d a) (hb : Tr e b) (h : a ++ r = b ++ s) : a = b ∧ r = s := by
  have h1 := (ha.le (Nat.le_max_left d e)).aft [] r
  have h2 := (hb.le (Nat.le_max_right d e)).aft [] s
  simp only [List.nil_append, List.length_nil, Nat.zero_add] at h1 h2
  rw [h, h2] at h1
  exact List.append_inj h (Option.some.inj h1).symm
/-- A row, its variables replaced. -/
def asg (σ : Int → List Nd) (n : Nd) : List Nd := if n.1 = 1 then σ n.2.1 else [n]
abbrev sbt (σ : Int → List Nd) (t : List Nd) : List Nd := t.flatMap (asg σ)
def TrS (σ : Int → List Nd) : Prop := ∀ v, ∃ e, Tr e (σ v)
theorem trs_depth : ∀ (ks : List (List Nd)), (∀ x ∈ ks, ∃ e, Tr e x) → ∃ e, ∀ x ∈ ks, Tr e x
  | [], _ => ⟨0, by simp⟩
  | x :: ks, h => by
    obtain ⟨e1, h1⟩ := h x List.mem_cons_self
    obtain ⟨e2, h2⟩ := trs_depth ks (fun y hy => h y (List.mem_cons_of_mem _ hy))
    refine ⟨max e1 e2, fun y hy => ?_⟩
    rcases List.mem_cons.1 hy with rfl | hy
    · exact h1.le (Nat.le_max_left _ _)
    · exact (h2 y hy).le (Nat.le_max_right _ _)
theorem sbt_flatten (σ : Int → List Nd) (ks : List (List Nd)) : sbt σ ks.flatten = (ks.map (sbt σ)).flatten := by
  induction ks with
  | nil => rfl
  | cons x ks ih => rw [List.flatten_cons, sbt, List.flatMap_append, List.map_cons, List.flatten_cons, ← ih]
theorem sbt_cons (σ : Int → List Nd) (n : Nd) (t : List Nd) : sbt σ (n :: t) = asg σ n ++ sbt σ t := List.flatMap_cons
theorem Tr.sbt {σ : Int → List Nd} (hσ : TrS σ) : ∀ {d : Nat} {a : List Nd}, Tr d a → ∃ e, Tr e (sbt σ a)
  | 0, _, h => h.elim
  | d + 1, _, ⟨k, m, ks, h1, h2, h3⟩ => by
    subst h1
    rw [sbt_cons, asg, sbt_flatten]
    by_cases hk : k = 1
    · subst hk
      have hl : ks.length = 0 := by
        have h4 := h2
        unfold fmB at h4
        rw [if_pos (.inl rfl)] at h4
        have := (of_decide_eq_true h4).1
        dsimp only at this; omega
      obtain rfl := List.eq_nil_of_length_eq_zero hl
      obtain ⟨e, he⟩ := hσ m
      exact ⟨e, by simpa using he⟩
    · obtain ⟨e, he⟩ := trs_depth (ks.map (Go.Proofs.YtdfdjgolijckfaaDoor.sbt σ)) (fun x hx => by
        obtain ⟨y, hy, rfl⟩ := List.mem_map.1 hx
        exact (h3 y hy).sbt hσ)
      refine ⟨e + 1, k, m, ks.map (Go.Proofs.YtdfdjgolijckfaaDoor.sbt σ), ?_, ?_, he⟩
      · rw [if_neg hk, List.length_map]; rfl
      · rw [List.length_map]; exact h2
end Go.Proofs.YtdfdjgolijckfaaDoor
/- Match: what it answers for trees. -/
namespace Go.Proofs.YtdfdjgolijckfaaDoor
attribute [local irreducible] FU
theorem vCloneN (t : List Nd) (h : t.length ≤ 137438953472) : m_slices_Clone_L_api_TypeNode_api_TypeNode t = some t := by
  unfold m_slices_Clone_L_api_TypeNode_api_TypeNode
  rw [nilc_eq (fun e => by subst e; rfl), need_pos (by simp; omega)]; rfl
theorem eqS_loop (a b : List Nd) (hab : a.length = b.length) (hl : a.length ≤ 4611686018427387904) (K : Unit → Option Bool) : ∀ (m j n : Nat), j + m = a.length → m < n → m_slices_Equal_L_api_TypeNode_api_TypeNode_L2 a b K n (j : Int) = if a.drop j = b.drop j then K () else some false
  | 0, j, n, hj, hn => by
    obtain ⟨n, rfl⟩ : ∃ q, n = q + 1 := ⟨n - 1, by omega⟩
    rw [m_slices_Equal_L_api_TypeNode_api_TypeNode_L2, m_slices_Equal_L_api_TypeNode_api_TypeNode_B2, if_neg (by omega), if_pos (by rw [List.drop_of_length_le (by omega), List.drop_of_length_le (by omega)])]
  | m + 1, j, n, hj, hn => by
    obtain ⟨n, rfl⟩ : ∃ q, n = q + 1 := ⟨n - 1, by omega⟩
    have h1 : j < a.length := by omega
    have h2 : j < b.length := by omega
    rw [m_slices_Equal_L_api_TypeNode_api_TypeNode_L2, m_slices_Equal_L_api_TypeNode_api_TypeNode_B2, if_pos (by omega), need_pos (by omega), need_pos (by omega), gi_nat h1, gi_nat h2, List.drop_eq_getElem_cons h1, List.drop_eq_getElem_cons h2, i64s (by omega), eqS_loop a b hab hl K m (j + 1) n (by omega) (by omega)]
    by_cases e : a[j] = b[j]
    · rw [if_neg (fun h => h e)]
      simp only [e, List.cons.injEq, true_and]
    · rw [if_pos e, if_neg (fun h => e (List.cons.inj h).1)]
theorem vEqS (a b : List Nd) (hl : a.length ≤ 4611686018427387904) : m_slices_Equal_L_api_TypeNode_api_TypeNode a b = some (decide (a = b)) := by
  unfold m_slices_Equal_L_api_TypeNode_api_TypeNode
  by_cases h : a.length = b.length
  · rw [if_neg (by omega), jn_eq, show (0 : Int) = ((0 : Nat) : Int) from rfl, eqS_loop a b h hl _ a.length 0 FU (by omega) (by have := FU_ge; omega), List.drop_zero, List.drop_zero]
    by_cases e : a = b
    · rw [if_pos e, decide_eq_true e]
    · rw [if_neg e, decide_eq_false e]
  · rw [if_pos (by omega), decide_eq_false (fun e => h (by rw [e]))]
theorem vAfterT {e : Nat} {B rb : List Nd} (hB : Tr e B) (he : e ≤ 64) (hl : (B ++ rb).length ≤ 512) : m_types_after (B ++ rb) 0 1 = some (B.length : Int) := by
  have h := (hB.le he).aft [] rb
  simp only [List.nil_append, List.length_nil, Nat.zero_add] at h
  have h2 := vAfter hl 64 FU 0 1 (by have := FU_ge; omega) (by omega) (by omega) (by omega)
  unfold m_types_after
  rw [show (0 : Int) = ((0 : Nat) : Int) from rfl, h2, h]; rfl
/-- What holds of the bindings so far. -/
def MInv (m : List Bd) : Prop := NdK m ∧ ∀ x ∈ m, (0 ≤ x.1 ∧ x.1 ≤ 1073741824) ∧ x.2.length ≤ 512 ∧ ∃ e, e ≤ 64 ∧ Tr e x.2
def Ex (m : List Bd) (σ : Int → List Nd) : Prop := ∀ v x, lookL m v = some x → σ v = x
structure MOk (A B : List Nd) (m m' : List Bd) : Prop where
  keep : ∀ v x, lookL m v = some x → lookL m' v = some x
  eq : ∀ σ, Ex m' σ → B = sbt σ A
  det : ∀ σ, TrS σ → Ex m σ → B = sbt σ A → Ex m' σ
  inv : MInv m'
  len : m'.length ≤ m.length + A.length
  keys : ∀ v, lookL m' v ≠ none → lookL m v ≠ none ∨ v ∈ vsN A
  all : ∀ v ∈ vsN A, lookL m' v ≠ none
abbrev MR := List Nd × List Nd × Bool × List Bd
def MFail (A B : List Nd) (m : List Bd) (r : MR) : Prop := r.2.2.1 = false ∧ ∀ σ, TrS σ → Ex m σ → B ≠ sbt σ A
theorem putL_len {β : Type} (m : List (Int × β)) (v : Int) (x : β) : (putL m v x).length ≤ m.length + 1 := by
  induction m with
  | nil => simp [putL]
  | cons a l ih => rw [putL]; split <;> simp <;> omega
theorem vsN_app (a b : List Nd) : vsN (a ++ b) = vsN a ++ vsN b := by
  induction a with
  | nil => rfl
  | cons n a ih => rw [List.cons_append, vsN, vsN, ih]; split <;> rfl
theorem MInv.put {m : List Bd} (h : MInv m) {v : Int} (hv : 0 ≤ v ∧ v ≤ 1073741824) {B : List Nd} {e : Nat} (hB : Tr e B) (he : e ≤ 64) (hl : B.length ≤ 512) : MInv (putL m v B) := by
  refine ⟨putL_nd h.1 _ _, fun x hx => ?_⟩
  have h1 := mem_lookL (putL_nd h.1 v B) (v := x.1) (x := x.2) hx
  rw [lookL_put] at h1
  split at h1
  · rename_i e1
    rw [← e1, ← Option.some.inj h1]
    exact ⟨hv, hl, e, he, hB⟩
  · exact h.2 x (lookL_mem h1)
theorem matchL {self : List Bd → List Nd → List Nd → Option MR} {d e : Nat} (he : e ≤ 64) {a1 : List Nd} {c : Nat} (hc : (gi a1 0).2.2 = (c : Int)) (hc9 : c ≤ 9)
    (hself : ∀ (A B ra rb : List Nd) (m : List Bd), Tr d A → Tr e B → (B ++ rb).length ≤ 512 → MInv m → ∃ r, self m (A ++ ra) (B ++ rb) = some r ∧ ((∃ m', r = (ra, rb, true, m') ∧ MOk A B m m') ∨ MFail A B m r)) (K : List Bd → List Nd → List Nd → Option MR) :
    ∀ (ks fs : List (List Nd)) (j n : Nat) (ra rb : List Nd) (m : List Bd), (∀ x ∈ ks, Tr d x) → (∀ x ∈ fs, Tr e x) → ks.length = fs.length → j + ks.length = c → ks.length < n → (fs.flatten ++ rb).length ≤ 512 → MInv m →
      (∃ m', m_types_matcher_match_L2 self a1 K n m (ks.flatten ++ ra) (fs.flatten ++ rb) (j : Int) = K m' ra rb ∧ MOk ks.flatten fs.flatten m m') ∨ (∃ r, m_types_matcher_match_L2 self a1 K n m (ks.flatten ++ ra) (fs.flatten ++ rb) (j : Int) = some r ∧ MFail ks.flatten fs.flatten m r)
  | [], [], j, n, ra, rb, m, _, _, _, hj, hn, _, hm => by
    obtain ⟨n, rfl⟩ : ∃ q, n = q + 1 := ⟨n - 1, by omega⟩
    simp only [List.length_nil] at hj
    refine .inl ⟨m, by rw [m_types_matcher_match_L2, m_types_matcher_match_B2, hc, if_neg (by omega)]; rfl, ⟨fun _ _ h => h, fun _ _ => rfl, fun _ _ h _ => h, hm, by simp, fun _ h => .inl h, fun _ h => by cases h⟩⟩
  | [], _ :: _, _, _, _, _, _, _, _, h, _, _, _, _ => by simp at h
  | _ :: _, [], _, _, _, _, _, _, _, h, _, _, _, _ => by simp at h
  | x :: ks, y :: fs, j, n, ra, rb, m, hks, hfs, hl, hj, hn, hlen, hm => by
    obtain ⟨n, rfl⟩ : ∃ q, n = q + 1 := ⟨n - 1, by omega⟩
    simp only [List.length_cons] at hl hj hn
    have hx := hks x List.mem_cons_self
    have hy := hfs y List.mem_cons_self
    simp only [List.flatten_cons, List.append_assoc] at hlen ⊢
    obtain ⟨r, h1, h2⟩ := hself x y (ks.flatten ++ ra) (fs.flatten ++ rb) m hx hy hlen hm
    rw [m_types_matcher_match_L2, m_types_matcher_match_B2, hc, if_pos (by omega), h1, bnd1_mk]
    rcases h2 with ⟨m1, rfl, k1⟩ | ⟨f1, f2⟩
    · simp only [Bool.not_true, Bool.false_eq_true, ↓reduceIte]
      rw [i64s (by omega)]
      have ih := matchL he hc hc9 hself K ks fs (j + 1) n ra rb m1 (fun z hz => hks z (List.mem_cons_of_mem _ hz)) (fun z hz => hfs z (List.mem_cons_of_mem _ hz)) (by omega) (by omega) (by omega) (by simp only [List.length_append] at hlen ⊢; omega) k1.inv
      have hsplit : ∀ σ, TrS σ → y ++ fs.flatten = sbt σ (x ++ ks.flatten) → y = sbt σ x ∧ fs.flatten = sbt σ ks.flatten := fun σ hσ h => by
        rw [show sbt σ (x ++ ks.flatten) = sbt σ x ++ sbt σ ks.flatten from List.flatMap_append] at h
        obtain ⟨e', he'⟩ := hx.sbt hσ
        exact hy.uniq he' h
      rcases ih with ⟨m2, e2, k2⟩ | ⟨r, e2, g1, g2⟩
      · refine .inl ⟨m2, e2, ⟨fun v z h => k2.keep v z (k1.keep v z h), fun σ h => ?_, fun σ hσ h hB => ?_, k2.inv, ?_, fun v h => ?_, fun v h => ?_⟩⟩
        · have hex : Ex m1 σ := fun v z hz => h v z (k2.keep v z hz)
          rw [show sbt σ (x ++ ks.flatten) = sbt σ x ++ sbt σ ks.flatten from List.flatMap_append, ← k1.eq σ hex, ← k2.eq σ h]
        · obtain ⟨b1, b2⟩ := hsplit σ hσ hB
          exact k2.det σ hσ (k1.det σ hσ h b1) b2
        · have := k1.len; have := k2.len; rw [List.length_append]; omega
        · rw [vsN_app, List.mem_append]
          rcases k2.keys v h with h | h
          · rcases k1.keys v h with h | h
            · exact .inl h
            · exact .inr (.inl h)
          · exact .inr (.inr h)
        · rw [vsN_app, List.mem_append] at h
          rcases h with h | h
          · have := k1.all v h
            cases hz : lookL m1 v with
            | none => exact absurd hz this
            | some z => rw [k2.keep v z hz]; simp
          · exact k2.all v h
      · refine .inr ⟨r, e2, g1, fun σ hσ h hB => ?_⟩
        obtain ⟨b1, b2⟩ := hsplit σ hσ hB
        exact g2 σ hσ (k1.det σ hσ h b1) b2
    · simp only [f1, Bool.not_false, ↓reduceIte]
      refine .inr ⟨_, rfl, rfl, fun σ hσ h hB => ?_⟩
      rw [show sbt σ (x ++ ks.flatten) = sbt σ x ++ sbt σ ks.flatten from List.flatMap_append] at hB
      obtain ⟨e', he'⟩ := hx.sbt hσ
      exact f2 σ hσ h (hy.uniq he' hB).1
theorem vMatchT : ∀ (d n e : Nat), d < n → e ≤ 64 → ∀ (A B ra rb : List Nd) (m : List Bd), Tr d A → Tr e B → (B ++ rb).length ≤ 512 → MInv m →
    ∃ r, m_types_matcher_match_S n m (A ++ ra) (B ++ rb) = some r ∧ ((∃ m', r = (ra, rb, true, m') ∧ MOk A B m m') ∨ MFail A B m r)
  | _, 0, _, h, _, _, _, _, _, _, _, _, _, _ => by omega
  | 0, n + 1, _, _, _, _, _, _, _, _, h, _, _, _ => h.elim
  | d + 1, n + 1, e, hn, he, A, B, ra, rb, m, ⟨k, mm, ks, hA, hf, hks⟩, hB, hl, hm => by
    subst hA
    have hBl : B.length ≤ 512 := by rw [List.length_append] at hl; omega
    have g0 : gi ((k, mm, (ks.length : Int)) :: ks.flatten ++ ra) 0 = (k, mm, (ks.length : Int)) := rfl
    rw [m_types_matcher_match_S, m_types_matcher_match_F, need_pos (by simp; omega), g0]
    dsimp only
    by_cases hk : k = 1
    · subst hk
      have hl0 : ks.length = 0 := by
        have h4 := hf
        unfold fmB at h4
        rw [if_pos (.inl rfl)] at h4
        have := (of_decide_eq_true h4).1
        dsimp only at this; omega
      have hmm : 0 ≤ mm ∧ mm ≤ 1073741824 := (fm_kids hf).2.2
      obtain rfl := List.eq_nil_of_length_eq_zero hl0
      have htk : List.take (Int.toNat (B.length : Int)) (B ++ rb) = B := by rw [Int.toNat_natCast, List.take_left']; rfl
      have hdr : List.drop (Int.toNat (B.length : Int)) (B ++ rb) = rb := by rw [Int.toNat_natCast, List.drop_left']; rfl
      rw [if_pos rfl, vAfterT hB he hl, bnd1_mk, htk, hdr, jn_eq, vCloneN B (by omega)]
      have hgo : ∀ (hx : ∀ x, lookL m mm = some x → x = B), MOk [((1 : Int), mm, (0 : Int))] B m (putL m mm B) := fun hx => by
        refine ⟨fun v z hz => ?_, fun σ h => ?_, fun σ hσ h hB' => ?_, hm.put hmm hB he hBl, putL_len m mm B, fun v h => ?_, fun v h => ?_⟩
        · rw [lookL_put]
          by_cases e1 : mm = v
          · subst e1; rw [if_pos rfl, hx z hz]
          · rw [if_neg e1]; exact hz
        · have := h mm B (by rw [lookL_put, if_pos rfl])
          simp [sbt, asg, this]
        · intro v z hz
          rw [lookL_put] at hz
          by_cases e1 : mm = v
          · subst e1
            rw [if_pos rfl] at hz
            rw [← Option.some.inj hz, hB']; simp [sbt, asg]
          · rw [if_neg e1] at hz; exact h v z hz
        · rw [lookL_put] at h
          by_cases e1 : mm = v
          · right; subst e1; simp [vsN]
          · rw [if_neg e1] at h; exact .inl h
        · have : v = mm := by simpa [vsN] using h
          rw [lookL_put, if_pos this.symm]; simp
      have hfin : bnd1 (some B) (fun y16 => need (1 ≤ (List.length (((1, mm, ((List.length ([] : List (List Nd)) : Nat) : Int)) :: ([] : List (List Nd)).flatten ++ ra) : List Nd) : Int)) (need ((0 : Int) ≤ (B.length : Int) ∧ (B.length : Int) ≤ (List.length (B ++ rb) : Int)) (some (List.drop (Int.toNat 1) (((1, mm, ((List.length ([] : List (List Nd)) : Nat) : Int)) :: ([] : List (List Nd)).flatten ++ ra) : List Nd), rb, true, (putL m mm y16))))) = some (ra, rb, true, putL m mm B) := by
        rw [bnd1_mk, need_pos (by simp; omega), need_pos (by simp; omega)]; rfl
      cases hx : lookL m mm with
      | none =>
        simp only [Option.isSome_none, Bool.false_eq_true, ↓reduceIte]
        rw [need_pos (by simp; omega)]
        exact ⟨_, hfin, .inl ⟨_, rfl, hgo (fun x h => by rw [hx] at h; cases h)⟩⟩
      | some x =>
        have hxm := hm.2 _ (lookL_mem hx)
        have hxl : x.length ≤ 512 := hxm.2.1
        simp only [Option.isSome_some, ↓reduceIte, Option.getD_some]
        rw [need_pos (by simp; omega), vEqS x B (by omega), bnd1_mk]
        by_cases e1 : x = B
        · simp only [e1, decide_true, Bool.not_true, Bool.false_eq_true, ↓reduceIte]
          rw [need_pos (by simp; omega)]
          exact ⟨_, hfin, .inl ⟨_, rfl, hgo (fun z h => by rw [hx] at h; cases h; exact e1)⟩⟩
        · simp only [e1, decide_false, Bool.not_false, ↓reduceIte]
          refine ⟨_, rfl, .inr ⟨rfl, fun σ hσ h hB' => e1 ?_⟩⟩
          rw [hB', ← h mm x hx]; simp [sbt, asg]
    · rw [if_neg hk]
      match e, he, hB with
      | 0, _, hB => exact hB.elim
      | e + 1, he, ⟨k', m', fs, hB1, hB2, hB3⟩ =>
        subst hB1
        have g1 : gi ((k', m', (fs.length : Int)) :: fs.flatten ++ rb) 0 = (k', m', (fs.length : Int)) := rfl
        rw [need_pos (by simp; omega), g1]
        by_cases hne : (k, mm, (ks.length : Int)) = (k', m', (fs.length : Int))
        · rw [if_neg (fun h => h hne), need_pos (by simp; omega), need_pos (by simp; omega), jn_eq]
          have hlen : ks.length = fs.length := by have := congrArg (fun z : Nd => z.2.2) hne; dsimp only at this; omega
          have hfl := fm_kids hf
          dsimp only at hfl
          have hL := matchL (self := m_types_matcher_match_S n) (d := d) (e := e) (by omega) (a1 := (k, mm, (ks.length : Int)) :: ks.flatten ++ ra) (c := ks.length) rfl (by omega)
            (fun A B ra rb m hA hB hl hm => vMatchT d n e (by omega) (by omega) A B ra rb m hA hB hl hm) (fun x0 x1 x2 => some (x1, x2, true, x0)) ks fs 0 FU ra rb m hks hB3 hlen (by omega) (by have := FU_ge; omega) (by simp only [List.length_append, List.length_cons] at hl ⊢; omega) hm
          have hsb : ∀ σ, sbt σ ((k, mm, (ks.length : Int)) :: ks.flatten) = (k, mm, (ks.length : Int)) :: sbt σ ks.flatten := fun σ => by rw [sbt_cons, asg, if_neg hk]; rfl
          have hd1 : List.drop (Int.toNat 1) ((k, mm, (ks.length : Int)) :: ks.flatten ++ ra) = ks.flatten ++ ra := rfl
          have hd2 : List.drop (Int.toNat 1) ((k', m', (fs.length : Int)) :: fs.flatten ++ rb) = fs.flatten ++ rb := rfl
          rw [hd1, hd2, show (0 : Int) = ((0 : Nat) : Int) from rfl]
          rcases hL with ⟨m2, e2, k2⟩ | ⟨r, e2, f1, f2⟩
          · refine ⟨_, e2, .inl ⟨m2, rfl, ⟨k2.keep, fun σ h => by rw [hsb, ← k2.eq σ h, hne], fun σ hσ h hB' => ?_, k2.inv, ?_, fun v h => ?_, fun v h => ?_⟩⟩⟩
            · rw [hsb, ← hne] at hB'
              exact k2.det σ hσ h (List.cons.inj hB').2
            · have := k2.len; simp only [List.length_cons]; omega
            · rw [vsN, if_neg hk]; exact k2.keys v h
            · rw [vsN, if_neg hk] at h; exact k2.all v h
          · refine ⟨r, e2, .inr ⟨f1, fun σ hσ h hB' => ?_⟩⟩
            rw [hsb, ← hne] at hB'
            exact f2 σ hσ h (List.cons.inj hB').2
        · rw [if_pos hne]
          refine ⟨_, rfl, .inr ⟨rfl, fun σ hσ h hB' => hne ?_⟩⟩
          rw [sbt_cons, asg, if_neg hk] at hB'
          exact (List.cons.inj hB').1.symm
end Go.Proofs.YtdfdjgolijckfaaDoor
/- Match of valid types; Canon; the law of Canon. -/
namespace Go.Proofs.YtdfdjgolijckfaaDoor
attribute [local irreducible] FU
theorem vClipB (t : List Bd) : m_slices_Clip_L_api_Binding_api_Binding t = some t := by
  unfold m_slices_Clip_L_api_Binding_api_Binding
  rw [need_pos (by omega), Int.toNat_natCast, List.take_length]
/-- The bindings as a function. -/
def fnB (m : List Bd) (v : Int) : List Nd := (lookL m v).getD [(2, 0, 0)]
theorem fnB_tr {m : List Bd} (h : MInv m) : TrS (fnB m) := fun v => by
  unfold fnB
  cases hx : lookL m v with
  | none => exact ⟨1, 2, 0, [], rfl, rfl, by simp⟩
  | some x =>
    obtain ⟨_, _, e, _, he⟩ := h.2 _ (lookL_mem hx)
    exact ⟨e, he⟩
theorem fnB_ex (m : List Bd) : Ex m (fnB m) := fun v x h => by unfold fnB; rw [h]; rfl
theorem vMatch {p q : List Nd} (hp : vdB p = true) (hq : vdB q = true) : ∃ r ok, m_types_Match p q = some (r, ok) ∧ (ok = true ↔ ∃ σ, TrS σ ∧ q = sbt σ p) ∧ (ok = true → SrK r ∧ ∃ m', MOk p q [] m' ∧ ∀ v, lookL r v = lookL m' v) ∧ (ok = false → r = []) := by
  have tp := vd_tr.1 hp
  have tq := vd_tr.1 hq
  have h0 : MInv [] := ⟨by simp [NdK], by simp⟩
  obtain ⟨r, h1, h2⟩ := vMatchT 64 FU 64 (by have := FU_ge; omega) (by omega) p q [] [] [] tp.1 tq.1 (by simpa using tq.2) h0
  rw [List.append_nil, List.append_nil] at h1
  unfold m_types_Match
  simp only [jn_eq]
  rw [vValid, hp, bnd1_mk, vValid, hq, bnd1_mk]
  simp only [Bool.not_true, Bool.false_eq_true, ↓reduceIte]
  rw [show m_types_matcher_match [] p q = some r from h1, bnd1_mk]
  rcases h2 with ⟨m', rfl, k⟩ | ⟨f1, f2⟩
  · simp only [Bool.not_true, Bool.false_eq_true, ↓reduceIte]
    have hb : ∀ x ∈ m', 0 ≤ x.1 ∧ x.1 ≤ 4611686018427387903 := fun x hx => by have := (k.inv.2 x hx).1; omega
    have hlen : m'.length ≤ 512 := by have := k.len; have := tp.2; simp at *; omega
    obtain ⟨r, r1, r2, r3⟩ := sort_keys (c := m_types_Match_1) (fun a b => rfl) k.inv.1 hb (by omega)
    refine ⟨r, true, ?_, ⟨fun _ => ⟨fnB m', fnB_tr k.inv, k.eq _ (fnB_ex m')⟩, fun _ => rfl⟩, fun _ => ⟨r3, m', k, fun v => lookL_perm k.inv.1 r2 v⟩, (fun h => by cases h)⟩
    refine rng_all (f := fun y => (y.1, y.2)) (fun y x hx => ?_) (by omega) (fun l' hpm => ?_)
    · unfold m_types_Match_R2
      rw [need_pos (by simp; omega)]
    · have hid : l'.map (fun y : Bd => (y.1, y.2)) = l' := by simp
      have hn' : NdK l' := (hpm.map _).nodup_iff.2 k.inv.1
      obtain ⟨r', s1, s2, s3⟩ := sort_keys (c := m_types_Match_1) (fun a b => rfl) hn' (fun x hx => hb x (hpm.mem_iff.1 hx)) (by rw [hpm.length_eq]; omega)
      have : r' = r := srk_ext s3 r3 (fun v => by rw [lookL_perm hn' s2, lookL_perm k.inv.1 hpm, lookL_perm k.inv.1 r2])
      subst this
      rw [hid, s1, bnd1_mk, vClipB, bnd1_mk]
  · simp only [f1, Bool.not_false, ↓reduceIte]
    exact ⟨[], false, rfl, ⟨(fun h => by cases h), (fun ⟨σ, hσ, he⟩ => absurd he (f2 σ hσ (fun v x h => by cases h)))⟩, (fun h => by cases h), fun _ => rfl⟩
/-! ### Canon -/
end Go.Proofs.YtdfdjgolijckfaaDoor
/- The law of Canon. -/
namespace Go.Proofs.YtdfdjgolijckfaaDoor
attribute [local irreducible] FU
theorem vs_of_mem : ∀ {t : List Nd} {n : Nd}, n ∈ t → n.1 = 1 → n.2.1 ∈ vsN t
  | a :: t, n, h, h1 => by
    rw [vsN]
    rcases List.mem_cons.1 h with rfl | h
    · rw [if_pos h1]; exact List.mem_cons_self
    · have := vs_of_mem h h1
      split
      · exact List.mem_cons_of_mem _ this
      · exact this
theorem var_kids {n : Nd} (h : fmB n = true) (h1 : n.1 = 1) : n.2.2 = 0 ∧ 0 ≤ n.2.1 ∧ n.2.1 ≤ 1073741824 := by
  unfold fmB at h
  rw [if_pos (.inl h1)] at h
  exact of_decide_eq_true h
end Go.Proofs.YtdfdjgolijckfaaDoor
/- Match of the reference. -/
namespace Go.Proofs.YtdfdjgolijckfaaDoor
attribute [local irreducible] FU
theorem flat_ge {d : Nat} : ∀ {ks : List (List Nd)}, (∀ x ∈ ks, Tr d x) → ks.length ≤ ks.flatten.length
  | [], _ => by simp
  | x :: ks, h => by
    have h1 := (h x List.mem_cons_self).pos
    have h2 := flat_ge (ks := ks) (fun y hy => h y (List.mem_cons_of_mem _ hy))
    rw [List.flatten_cons, List.length_append, List.length_cons]; omega
theorem endF {d : Nat} (hT : ∀ (A pre post : List Nd) (r n : Nat) (K : Int → Option Int), Tr d A → (pre ++ (A ++ post)).length ≤ 512 → r + A.length ≤ 1000000 → m_ref6_end_L2 (pre ++ (A ++ post)) K (n + A.length) (pre.length : Int) ((r + 1 : Nat) : Int) = m_ref6_end_L2 (pre ++ (A ++ post)) K n ((pre.length + A.length : Nat) : Int) (r : Int)) :
    ∀ (ks : List (List Nd)) (pre post : List Nd) (r n : Nat) (K : Int → Option Int), (∀ x ∈ ks, Tr d x) → (pre ++ (ks.flatten ++ post)).length ≤ 512 → r + ks.flatten.length ≤ 1000000 → m_ref6_end_L2 (pre ++ (ks.flatten ++ post)) K (n + ks.flatten.length) (pre.length : Int) ((r + ks.length : Nat) : Int) = m_ref6_end_L2 (pre ++ (ks.flatten ++ post)) K n ((pre.length + ks.flatten.length : Nat) : Int) (r : Int)
  | [], pre, post, r, n, K, _, _, _ => by simp
  | x :: ks, pre, post, r, n, K, h, hl, hr => by
    have hx := h x List.mem_cons_self
    have hks := fun y hy => h y (List.mem_cons_of_mem _ hy)
    have hg := flat_ge hks
    rw [List.flatten_cons, List.length_append] at hr
    have h1 := hT x pre (ks.flatten ++ post) (r + ks.length) (n + ks.flatten.length) K hx (by simpa using hl) (by omega)
    have h2 := endF hT ks (pre ++ x) post r n K hks (by simpa using hl) (by omega)
    simp only [List.append_assoc, List.length_append] at h2
    simp only [List.flatten_cons, List.append_assoc, List.length_append, List.length_cons]
    rw [show n + (x.length + ks.flatten.length) = n + ks.flatten.length + x.length by omega, show r + (ks.length + 1) = r + ks.length + 1 by omega, h1, h2]
    congr 1; omega
theorem endT : ∀ (d : Nat) (A pre post : List Nd) (r n : Nat) (K : Int → Option Int), Tr d A → (pre ++ (A ++ post)).length ≤ 512 → r + A.length ≤ 1000000 → m_ref6_end_L2 (pre ++ (A ++ post)) K (n + A.length) (pre.length : Int) ((r + 1 : Nat) : Int) = m_ref6_end_L2 (pre ++ (A ++ post)) K n ((pre.length + A.length : Nat) : Int) (r : Int)
  | 0, _, _, _, _, _, _, h, _, _ => h.elim
  | d + 1, A, pre, post, r, n, K, ⟨k, m, ks, hA, hf, hks⟩, hl, hr => by
    subst hA
    have hg := flat_ge hks
    have hk := fm_kids hf
    dsimp only at hk
    have h2 := endF (endT d) ks (pre ++ [(k, m, (ks.length : Int))]) post r n K hks (by simpa using hl) (by rw [List.length_cons] at hr; omega)
    simp only [List.append_assoc, List.length_append, List.length_cons, List.length_nil, List.singleton_append, Nat.zero_add] at h2
    simp only [List.length_append, List.length_cons] at hl hr
    rw [List.length_cons, show n + (ks.flatten.length + 1) = n + ks.flatten.length + 1 by omega, m_ref6_end_L2, m_ref6_end_B2, if_pos (by omega), need_pos (by simp; omega)]
    have hgi : gi (pre ++ ((k, m, (ks.length : Int)) :: ks.flatten ++ post)) (pre.length : Int) = (k, m, (ks.length : Int)) := by
      rw [gi_nat (by simp)]
      simp
    rw [hgi]
    dsimp only
    rw [i64_id (x := (ks.length : Int) - 1) (by omega), i64s (by omega), i64_id (by omega), show (((r + 1 : Nat) : Int) + ((ks.length : Int) - 1)) = ((r + ks.length : Nat) : Int) by omega]
    rw [List.cons_append, h2]
    congr 1; omega
theorem wEnd {d : Nat} {A : List Nd} (pre post : List Nd) (h : Tr d A) (hl : (pre ++ (A ++ post)).length ≤ 512) : m_ref6_end (pre ++ (A ++ post)) (pre.length : Int) = some ((pre.length + A.length : Nat) : Int) := by
  have hl' := hl
  simp only [List.length_append] at hl'
  obtain ⟨n, hn⟩ := fuk (A.length + 1) (by omega)
  have := endT d A pre post 0 (n + 1) (fun x => some x) h hl (by omega)
  unfold m_ref6_end
  rw [jn_eq, hn, show n + (A.length + 1) = n + 1 + A.length by omega]
  rw [show ((0 + 1 : Nat) : Int) = 1 from rfl] at this
  rw [this, m_ref6_end_L2, m_ref6_end_B2, if_neg (by omega)]
theorem wPartsL {d : Nat} {t : List Nd} (ht : t.length ≤ 512) {c : Nat} (hc : (gi t 0).2.2 = (c : Int)) (K : List (List Nd) → Option (List (List Nd))) : ∀ (ks : List (List Nd)) (pre : List Nd) (acc : List (List Nd)) (j n : Nat), t = pre ++ ks.flatten → (∀ x ∈ ks, Tr d x) → j + ks.length = c → ks.length < n → 0 < t.length → acc.length ≤ j → c ≤ 9 → m_ref6_parts_L2 t K n acc (pre.length : Int) (j : Int) = K (acc ++ ks)
  | [], pre, acc, j, n, he, _, hj, hn, h0, _, _ => by
    obtain ⟨n, rfl⟩ : ∃ q, n = q + 1 := ⟨n - 1, by omega⟩
    simp only [List.length_nil] at hj
    rw [m_ref6_parts_L2, m_ref6_parts_B2, need_pos (by omega), hc, if_neg (by omega), List.append_nil]
  | x :: ks, pre, acc, j, n, he, hks, hj, hn, h0, ha, hc9 => by
    obtain ⟨n, rfl⟩ : ∃ q, n = q + 1 := ⟨n - 1, by omega⟩
    simp only [List.length_cons] at hj hn
    have hx := hks x List.mem_cons_self
    have he' : t = pre ++ (x ++ ks.flatten) := by rw [he, List.flatten_cons]
    have hE : m_ref6_end t (pre.length : Int) = some ((pre.length + x.length : Nat) : Int) := by
      rw [he']; exact wEnd pre ks.flatten hx (by rw [← he']; exact ht)
    have hlt : t.length = pre.length + (x.length + ks.flatten.length) := by rw [he']; simp
    have hcut : List.take (Int.toNat ((pre.length + x.length : Nat) : Int) - Int.toNat (pre.length : Int)) (List.drop (Int.toNat (pre.length : Int)) t) = x := by
      rw [Int.toNat_natCast, Int.toNat_natCast, he', List.drop_left' rfl, Nat.add_sub_cancel_left, List.take_left' rfl]
    rw [m_ref6_parts_L2, m_ref6_parts_B2, need_pos (by omega), hc, if_pos (by omega), hE, bnd1_mk, need_pos (by omega), hcut, need_pos (by simp; omega), i64s (by omega)]
    have ih := wPartsL ht hc K ks (pre ++ x) (acc ++ [x]) (j + 1) n (by rw [he']; simp) (fun y hy => hks y (List.mem_cons_of_mem _ hy)) (by omega) (by omega) h0 (by simp; omega) hc9
    rw [List.length_append] at ih
    rw [ih]; simp
theorem wParts {d : Nat} {k m : Int} {ks : List (List Nd)} (hks : ∀ x ∈ ks, Tr d x) (hf : fmB (k, m, (ks.length : Int)) = true) (hl : ((k, m, (ks.length : Int)) :: ks.flatten).length ≤ 512) : m_ref6_parts ((k, m, (ks.length : Int)) :: ks.flatten) = some ks := by
  have hk := fm_kids hf
  dsimp only at hk
  have := wPartsL (d := d) hl (c := ks.length) rfl (fun x => some x) ks [(k, m, (ks.length : Int))] [] 0 FU rfl hks (by omega) (by have := FU_ge; omega) (by simp) (by simp) (by omega)
  unfold m_ref6_parts
  rw [jn_eq]
  exact this
/-- Laying an entry where it belongs. -/
theorem insK {β : Type} {w : List (Int × β)} (hs : SrK w) {v : Int} {x : β} {i : Nat} (h1 : i ≤ w.length) (h3 : ∀ q (h : q < w.length), q < i → w[q].1 < v) (h4 : ∀ h : i < w.length, v ≤ w[i].1) (hlk : lookL w v = none) :
    SrK (w.take i ++ [(v, x)] ++ w.drop i) ∧ ∀ u, lookL (w.take i ++ [(v, x)] ++ w.drop i) u = if v = u then some x else lookL w u := by
  have hpw := List.pairwise_iff_getElem.1 hs
  have hsp : SrK (w.take i ++ w.drop i) := by rw [List.take_append_drop]; exact hs
  obtain ⟨p1, p2, p3⟩ := List.pairwise_append.1 hsp
  have hne : ∀ a ∈ w, a.1 ≠ v := fun a ha e => by
    rw [lookL_none] at hlk
    exact hlk (by rw [← e]; exact List.mem_map_of_mem (f := (·.1)) ha)
  have hA : ∀ a ∈ w.take i, a.1 < v := fun a ha => by
    obtain ⟨q, hq, rfl⟩ := List.getElem_of_mem ha
    rw [List.length_take] at hq
    rw [List.getElem_take]
    exact h3 q (by omega) (by omega)
  have hB : ∀ b ∈ w.drop i, v < b.1 := fun b hb => by
    have hbn := hne b (List.mem_of_mem_drop hb)
    obtain ⟨q, hq, rfl⟩ := List.getElem_of_mem hb
    rw [List.length_drop] at hq
    rw [List.getElem_drop] at hbn ⊢
    have hil : i < w.length := by omega
    have h6 := h4 hil
    rcases Nat.eq_zero_or_pos q with rfl | hq0
    · simp only [Nat.add_zero] at hbn ⊢; omega
    · have := hpw i (i + q) hil (by omega) (by omega); omega
  constructor
  · rw [SrK, List.append_assoc, List.pairwise_append]
    refine ⟨p1, ?_, fun a ha b hb => ?_⟩
    · rw [List.singleton_append, List.pairwise_cons]
      exact ⟨fun b hb => hB b hb, p2⟩
    · rw [List.singleton_append, List.mem_cons] at hb
      rcases hb with rfl | hb
      · exact hA a ha
      · exact p3 a ha b hb
  · intro u
    rw [List.append_assoc, lookL_app, List.singleton_append, lookL]
    have hsplit : lookL w u = lookL (w.take i ++ w.drop i) u := by rw [List.take_append_drop]
    rw [hsplit, lookL_app]
    have hlk' := hlk
    rw [show lookL w v = lookL (w.take i ++ w.drop i) v by rw [List.take_append_drop], lookL_app] at hlk'
    by_cases e : v = u
    · subst e
      rw [if_pos rfl, if_pos rfl]
      cases hx : lookL (w.take i) v with
      | none => rfl
      | some x => rw [hx] at hlk'; cases hlk'
    · rw [if_neg e, if_neg e]
theorem eqR_loop (a b : List Nd) (hab : a.length = b.length) (hl : a.length ≤ 4611686018427387904) (K : Unit → Option Bool) : ∀ (m j n : Nat), j + m = a.length → m < n → m_ref6_Equal_L2 a b K n (j : Int) = if a.drop j = b.drop j then K () else some false
  | 0, j, n, hj, hn => by
    obtain ⟨n, rfl⟩ : ∃ q, n = q + 1 := ⟨n - 1, by omega⟩
    rw [m_ref6_Equal_L2, m_ref6_Equal_B2, if_neg (by omega), if_pos (by rw [List.drop_of_length_le (by omega), List.drop_of_length_le (by omega)])]
  | m + 1, j, n, hj, hn => by
    obtain ⟨n, rfl⟩ : ∃ q, n = q + 1 := ⟨n - 1, by omega⟩
    have h1 : j < a.length := by omega
    have h2 : j < b.length := by omega
    rw [m_ref6_Equal_L2, m_ref6_Equal_B2, if_pos (by omega), need_pos (by omega), need_pos (by omega), gi_nat h1, gi_nat h2, List.drop_eq_getElem_cons h1, List.drop_eq_getElem_cons h2, i64s (by omega), eqR_loop a b hab hl K m (j + 1) n (by omega) (by omega)]
    by_cases e : a[j] = b[j]
    · rw [if_neg (fun h => h e)]
      simp only [e, List.cons.injEq, true_and]
    · rw [if_pos e, if_neg (fun h => e (List.cons.inj h).1)]
theorem wEqual (a b : List Nd) (hl : a.length ≤ 4611686018427387904) : m_ref6_Equal a b = some (decide (a = b)) := by
  unfold m_ref6_Equal
  by_cases h : a.length = b.length
  · rw [if_neg (by omega), jn_eq, show (0 : Int) = ((0 : Nat) : Int) from rfl, eqR_loop a b h hl _ a.length 0 FU (by omega) (by have := FU_ge; omega), List.drop_zero, List.drop_zero]
    by_cases e : a = b
    · rw [if_pos e, decide_eq_true e]
    · rw [if_neg e, decide_eq_false e]
  · rw [if_pos (by omega), decide_eq_false (fun e => h (by rw [e]))]
/-- Looking for a variable among the bindings. -/
theorem wL6 {w : List Bd} (hw : ∀ x ∈ w, x.2.length ≤ 512) (hl : w.length ≤ 100000) {A B : List Nd} (hA : 0 < A.length) {v : Int} (hv : (gi A 0).2.1 = v) (K : Unit → Option (List Bd × Bool)) : ∀ (u : List Bd) (j n : Nat), w.drop j = u → j ≤ w.length → u.length < n →
    m_ref6_match_L6 w A B K n (j : Int) = match lookL u v with | some x => some (w, decide (x = B)) | none => K ()
  | [], j, 0, _, _, h => by simp at h
  | [], j, n + 1, hd, hj, _ => by
    have := congrArg List.length hd
    simp at this
    rw [m_ref6_match_L6, m_ref6_match_B6, if_neg (by omega)]; rfl
  | a :: u, j, 0, _, _, h => by simp at h
  | a :: u, j, n + 1, hd, hj, hn => by
    have hlen := congrArg List.length hd
    simp at hlen
    have hjl : j < w.length := by omega
    have ha : w[j] = a ∧ w.drop (j + 1) = u := by rw [List.drop_eq_getElem_cons hjl] at hd; exact ⟨(List.cons.inj hd).1, (List.cons.inj hd).2⟩
    have hz := hw a (by rw [← ha.1]; exact List.getElem_mem hjl)
    rw [m_ref6_match_L6, m_ref6_match_B6, if_pos (by omega), need_pos (by omega), need_pos (by omega), gi_nat hjl, ha.1, hv, lookL]
    by_cases e : a.1 = v
    · rw [if_pos e, if_pos e, need_pos (by omega), wEqual a.2 B (by omega), bnd1_mk]
    · rw [if_neg e, if_neg e, i64s (by omega)]
      exact wL6 hw hl hA hv K u (j + 1) n ha.2 (by omega) (by simp at hn; omega)
/-- Looking for the place of a variable. -/
theorem wL8 {w : List Bd} (hl : w.length ≤ 100000) {A : List Nd} (hA : 0 < A.length) {v : Int} (hv : (gi A 0).2.1 = v) (K : Int → Option (List Bd × Bool)) : ∀ (m j n : Nat), j + m = w.length → m < n → (∀ q (h : q < w.length), q < j → w[q].1 < v) →
    ∃ i : Nat, i ≤ w.length ∧ m_ref6_match_L8 w A K n (j : Int) = K (i : Int) ∧ (∀ q (h : q < w.length), q < i → w[q].1 < v) ∧ (∀ h : i < w.length, v ≤ w[i].1)
  | 0, j, n, hj, hn, hq => by
    obtain ⟨n, rfl⟩ : ∃ q, n = q + 1 := ⟨n - 1, by omega⟩
    refine ⟨j, by omega, ?_, hq, fun h => by omega⟩
    rw [m_ref6_match_L8, m_ref6_match_B8, jn_eq, if_neg (by omega)]; rfl
  | m + 1, j, n, hj, hn, hq => by
    obtain ⟨n, rfl⟩ : ∃ q, n = q + 1 := ⟨n - 1, by omega⟩
    have hjl : j < w.length := by omega
    rw [m_ref6_match_L8, m_ref6_match_B8, jn_eq, if_pos (by omega), need_pos (by omega), need_pos (by omega), gi_nat hjl, hv]
    by_cases hvl : w[j].1 < v
    · simp only [decide_eq_true hvl, ↓reduceIte]
      rw [i64s (by omega)]
      refine wL8 hl hA hv K m (j + 1) n (by omega) (by omega) (fun q h hqj => ?_)
      rcases Nat.lt_or_ge q j with h1 | h1
      · exact hq q h h1
      · obtain rfl : q = j := by omega
        exact hvl
    · simp only [decide_eq_false hvl, Bool.false_eq_true, ↓reduceIte]
      exact ⟨j, by omega, rfl, hq, fun h => by omega⟩
def MWt (A B : List Nd) (w : List Bd) (r : List Bd × Bool) : Prop := (∃ w', r = (w', true) ∧ MOk A B w w' ∧ SrK w') ∨ (r.2 = false ∧ ∀ σ, TrS σ → Ex w σ → B ≠ sbt σ A)
theorem wMatchL {self : List Bd → List Nd → List Nd → Option (List Bd × Bool)} {d e : Nat} {ks0 fs0 : List (List Nd)} (hlen0 : ks0.length = fs0.length) (h9 : ks0.length ≤ 9)
    (hself : ∀ (A B : List Nd) (w : List Bd), Tr d A → Tr e B → A.length ≤ 512 → B.length ≤ 512 → MInv w → SrK w → w.length + A.length ≤ 100000 → ∃ r, self w A B = some r ∧ MWt A B w r) (K : List Bd → Option (List Bd × Bool)) :
    ∀ (ks fs : List (List Nd)) (j n : Nat) (w : List Bd), ks0.drop j = ks → fs0.drop j = fs → j ≤ ks0.length → (∀ x ∈ ks, Tr d x) → (∀ x ∈ fs, Tr e x) → ks.length < n → ks.flatten.length ≤ 512 → fs.flatten.length ≤ 512 → MInv w → SrK w → w.length + ks.flatten.length ≤ 100000 →
      (∃ w', m_ref6_match_L10 self ks0 fs0 K n w (j : Int) = K w' ∧ MOk ks.flatten fs.flatten w w' ∧ SrK w') ∨ (∃ r, m_ref6_match_L10 self ks0 fs0 K n w (j : Int) = some r ∧ r.2 = false ∧ ∀ σ, TrS σ → Ex w σ → fs.flatten ≠ sbt σ ks.flatten)
  | [], fs, j, n, w, hd, hd2, hj, _, _, hn, _, _, hm, hs, _ => by
    obtain ⟨n, rfl⟩ : ∃ q, n = q + 1 := ⟨n - 1, by omega⟩
    have h1 := congrArg List.length hd
    have h2 := congrArg List.length hd2
    simp at h1 h2
    have hfs : fs = [] := List.eq_nil_of_length_eq_zero (by omega)
    subst hfs
    refine .inl ⟨w, by rw [m_ref6_match_L10, m_ref6_match_B10, if_neg (by omega)], ⟨fun _ _ h => h, fun _ _ => rfl, fun _ _ h _ => h, hm, by simp, fun _ h => .inl h, fun _ h => by cases h⟩, hs⟩
  | x :: ks, [], j, n, w, hd, hd2, hj, _, _, hn, _, _, hm, hs, _ => by
    have h1 := congrArg List.length hd
    have h2 := congrArg List.length hd2
    simp at h1 h2; omega
  | x :: ks, y :: fs, j, n, w, hd, hd2, hj, hks, hfs, hn, hlk, hlf, hm, hs, hwl => by
    obtain ⟨n, rfl⟩ : ∃ q, n = q + 1 := ⟨n - 1, by omega⟩
    have h1 := congrArg List.length hd
    have h2 := congrArg List.length hd2
    simp at h1 h2
    have hj1 : j < ks0.length := by omega
    have hj2 : j < fs0.length := by omega
    have e1 : ks0[j] = x ∧ ks0.drop (j + 1) = ks := by rw [List.drop_eq_getElem_cons hj1] at hd; exact ⟨(List.cons.inj hd).1, (List.cons.inj hd).2⟩
    have e2 : fs0[j] = y ∧ fs0.drop (j + 1) = fs := by rw [List.drop_eq_getElem_cons hj2] at hd2; exact ⟨(List.cons.inj hd2).1, (List.cons.inj hd2).2⟩
    have hx := hks x List.mem_cons_self
    have hy := hfs y List.mem_cons_self
    simp only [List.flatten_cons, List.length_append] at hlk hlf hwl
    obtain ⟨r, s1, s2⟩ := hself x y w hx hy (by omega) (by omega) hm hs (by omega)
    rw [m_ref6_match_L10, m_ref6_match_B10, if_pos (by omega), need_pos (by omega), need_pos (by omega), gi_nat hj1, gi_nat hj2, e1.1, e2.1, s1, bnd1_mk]
    simp only [List.flatten_cons]
    rcases s2 with ⟨w1, rfl, k1, hs1⟩ | ⟨f1, f2⟩
    · simp only [Bool.not_true, Bool.false_eq_true, ↓reduceIte]
      rw [i64s (by omega)]
      have hl1 := k1.len
      have ih := wMatchL hlen0 h9 hself K ks fs (j + 1) n w1 e1.2 e2.2 (by omega) (fun z hz => hks z (List.mem_cons_of_mem _ hz)) (fun z hz => hfs z (List.mem_cons_of_mem _ hz)) (by simp at hn; omega) (by omega) (by omega) k1.inv hs1 (by omega)
      have hsplit : ∀ σ, TrS σ → y ++ fs.flatten = sbt σ (x ++ ks.flatten) → y = sbt σ x ∧ fs.flatten = sbt σ ks.flatten := fun σ hσ h => by
        rw [show sbt σ (x ++ ks.flatten) = sbt σ x ++ sbt σ ks.flatten from List.flatMap_append] at h
        obtain ⟨e', he'⟩ := hx.sbt hσ
        exact hy.uniq he' h
      rcases ih with ⟨m2, g2, k2, hs2⟩ | ⟨r, g2, g3, g4⟩
      · refine .inl ⟨m2, g2, ⟨fun v z h => k2.keep v z (k1.keep v z h), fun σ h => ?_, fun σ hσ h hB => ?_, k2.inv, ?_, fun v h => ?_, fun v h => ?_⟩, hs2⟩
        · have hex : Ex w1 σ := fun v z hz => h v z (k2.keep v z hz)
          rw [show sbt σ (x ++ ks.flatten) = sbt σ x ++ sbt σ ks.flatten from List.flatMap_append, ← k1.eq σ hex, ← k2.eq σ h]
        · obtain ⟨b1, b2⟩ := hsplit σ hσ hB
          exact k2.det σ hσ (k1.det σ hσ h b1) b2
        · have := k1.len; have := k2.len; rw [List.length_append]; omega
        · rw [vsN_app, List.mem_append]
          rcases k2.keys v h with h | h
          · rcases k1.keys v h with h | h
            · exact .inl h
            · exact .inr (.inl h)
          · exact .inr (.inr h)
        · rw [vsN_app, List.mem_append] at h
          rcases h with h | h
          · have := k1.all v h
            cases hz : lookL w1 v with
            | none => exact absurd hz this
            | some z => rw [k2.keep v z hz]; simp
          · exact k2.all v h
      · refine .inr ⟨r, g2, g3, fun σ hσ h hB => ?_⟩
        obtain ⟨b1, b2⟩ := hsplit σ hσ hB
        exact g4 σ hσ (k1.det σ hσ h b1) b2
    · simp only [f1, Bool.not_false, ↓reduceIte]
      refine .inr ⟨_, rfl, rfl, fun σ hσ h hB => ?_⟩
      rw [show sbt σ (x ++ ks.flatten) = sbt σ x ++ sbt σ ks.flatten from List.flatMap_append] at hB
      obtain ⟨e', he'⟩ := hx.sbt hσ
      exact f2 σ hσ h (hy.uniq he' hB).1
end Go.Proofs.YtdfdjgolijckfaaDoor
/- Match, both ways; the law of Match. -/
namespace Go.Proofs.YtdfdjgolijckfaaDoor
attribute [local irreducible] FU
theorem wL8' {w : List Bd} (hl : w.length ≤ 100000) {A : List Nd} (hA : 0 < A.length) {v : Int} (hv : (gi A 0).2.1 = v) {K : Int → Option (List Bd × Bool)} {Q : Option (List Bd × Bool) → Prop}
    (h : ∀ i : Nat, i ≤ w.length → (∀ q (h : q < w.length), q < i → w[q].1 < v) → (∀ h : i < w.length, v ≤ w[i].1) → Q (K (i : Int))) : Q (m_ref6_match_L8 w A K FU 0) := by
  obtain ⟨i, h1, h2, h3, h4⟩ := wL8 hl hA hv K w.length 0 FU (by omega) (by have := FU_ge; omega) (fun q _ h => by omega)
  rw [show ((0 : Nat) : Int) = 0 from rfl] at h2
  rw [h2]
  exact h i h1 h3 h4
theorem wMatchT : ∀ (d n e : Nat), d < n → e ≤ 64 → ∀ (A B : List Nd) (w : List Bd), Tr d A → Tr e B → A.length ≤ 512 → B.length ≤ 512 → MInv w → SrK w → w.length + A.length ≤ 100000 → ∃ r, m_ref6_match_S n w A B = some r ∧ MWt A B w r
  | _, 0, _, h, _, _, _, _, _, _, _, _, _, _, _ => by omega
  | 0, n + 1, _, _, _, _, _, _, h, _, _, _, _, _, _ => h.elim
  | d + 1, n + 1, e, hn, he, A, B, w, ⟨k, mm, ks, hA, hf, hks⟩, hB, hlA, hlB, hm, hs, hwl => by
    subst hA
    have g0 : gi ((k, mm, (ks.length : Int)) :: ks.flatten) 0 = (k, mm, (ks.length : Int)) := rfl
    have hpos : 0 < ((k, mm, (ks.length : Int)) :: ks.flatten).length := by simp
    rw [m_ref6_match_S, m_ref6_match_F, jn_eq, need_pos (by simp), g0]
    by_cases hk : k = 1
    · subst hk
      have hl0 := (var_kids hf rfl).1
      dsimp only at hl0
      have hmm : 0 ≤ mm ∧ mm ≤ 1073741824 := (var_kids hf rfl).2
      obtain rfl := List.eq_nil_of_length_eq_zero (show ks.length = 0 by omega)
      rw [if_pos rfl, jn_eq, show (0 : Int) = ((0 : Nat) : Int) from rfl, wL6 (fun x hx => (hm.2 x hx).2.1) (by omega) hpos (v := mm) rfl _ w 0 FU rfl (Nat.zero_le _) (by have := FU_ge; omega)]
      cases hx : lookL w mm with
      | some x =>
        dsimp only
        refine ⟨_, rfl, ?_⟩
        by_cases e1 : x = B
        · subst e1
          rw [decide_eq_true rfl]
          refine .inl ⟨w, rfl, ⟨fun _ _ h => h, fun σ h => ?_, fun _ _ h _ => h, hm, by omega, fun _ h => .inl h, fun v h => ?_⟩, hs⟩
          · have := h mm x hx
            simp [sbt, asg, this]
          · have : v = mm := by simpa [vsN] using h
            rw [this, hx]; simp
        · rw [decide_eq_false e1]
          refine .inr ⟨rfl, fun σ hσ h hB' => e1 ?_⟩
          rw [hB', ← h mm x hx]; simp [sbt, asg]
      | none =>
        dsimp only
        rw [jn_eq, show ((0 : Nat) : Int) = 0 from rfl]
        refine wL8' (Q := fun o => ∃ r, o = some r ∧ MWt _ B w r) (by omega) hpos (v := mm) rfl (fun i i1 i3 i4 => ?_)
        obtain ⟨q1, q2⟩ := insK (x := B) hs i1 i3 i4 hx
        rw [need_pos (by omega), Int.toNat_natCast, need_pos (by simp; omega), need_pos (by simp), need_pos (by omega), need_pos (by omega), need_pos (by simp; omega), need_pos (by simp; omega)]
        refine ⟨_, rfl, .inl ⟨_, rfl, ⟨fun v z hz => ?_, fun σ h => ?_, fun σ hσ h hB' => ?_, ⟨q1.nd, fun y hy => ?_⟩, ?_, fun v h => ?_, fun v h => ?_⟩, q1⟩⟩
        · rw [q2]
          by_cases e1 : mm = v
          · subst e1; rw [hx] at hz; cases hz
          · rw [if_neg e1]; exact hz
        · have := h mm B (by rw [q2, if_pos rfl])
          simp [sbt, asg, this]
        · intro v z hz
          rw [q2] at hz
          by_cases e1 : mm = v
          · subst e1
            rw [if_pos rfl] at hz
            rw [← Option.some.inj hz, hB']; simp [sbt, asg]
          · rw [if_neg e1] at hz; exact h v z hz
        · have h1 := mem_lookL q1.nd (v := y.1) (x := y.2) hy
          rw [q2] at h1
          by_cases e1 : mm = y.1
          · rw [if_pos e1] at h1
            rw [← e1, ← Option.some.inj h1]
            exact ⟨hmm, hlB, e, he, hB⟩
          · rw [if_neg e1] at h1; exact hm.2 y (lookL_mem h1)
        · simp; omega
        · rw [q2] at h
          by_cases e1 : mm = v
          · right; subst e1; simp [vsN]
          · rw [if_neg e1] at h; exact .inl h
        · have : v = mm := by simpa [vsN] using h
          rw [q2, if_pos this.symm]; simp
    · rw [if_neg hk]
      match e, he, hB with
      | 0, _, hB => exact hB.elim
      | e + 1, he, ⟨k', m', fs, hB1, hB2, hB3⟩ =>
        subst hB1
        have g1 : gi ((k', m', (fs.length : Int)) :: fs.flatten) 0 = (k', m', (fs.length : Int)) := rfl
        rw [need_pos (by simp), need_pos (by simp), g1]
        have hsb : ∀ σ, sbt σ ((k, mm, (ks.length : Int)) :: ks.flatten) = (k, mm, (ks.length : Int)) :: sbt σ ks.flatten := fun σ => by rw [sbt_cons, asg, if_neg hk]; rfl
        by_cases hne : (k, mm, (ks.length : Int)) = (k', m', (fs.length : Int))
        · have hlen : ks.length = fs.length := by have := congrArg (fun z : Nd => z.2.2) hne; dsimp only at this; omega
          have hfl := fm_kids hf
          dsimp only at hfl
          rw [if_neg (fun h => h hne), wParts hks hf hlA, bnd1_mk, wParts hB3 hB2 hlB, bnd1_mk, jn_eq, show (0 : Int) = ((0 : Nat) : Int) from rfl]
          have hL := wMatchL (self := m_ref6_match_S n) (d := d) (e := e) hlen (by omega) (fun A B w hA hB hl1 hl2 hm hs hw => wMatchT d n e (by omega) (by omega) A B w hA hB hl1 hl2 hm hs hw) (fun x0 => some (x0, true)) ks fs 0 FU w rfl rfl (Nat.zero_le _) hks hB3 (by have := FU_ge; omega) (by rw [List.length_cons] at hlA; omega) (by rw [List.length_cons] at hlB; omega) hm hs (by rw [List.length_cons] at hwl; omega)
          rcases hL with ⟨m2, e2, k2, hs2⟩ | ⟨r, e2, f1, f2⟩
          · refine ⟨_, e2, .inl ⟨m2, rfl, ⟨k2.keep, fun σ h => by rw [hsb, ← k2.eq σ h, hne], fun σ hσ h hB' => ?_, k2.inv, ?_, fun v h => ?_, fun v h => ?_⟩, hs2⟩⟩
            · rw [hsb, ← hne] at hB'
              exact k2.det σ hσ h (List.cons.inj hB').2
            · have := k2.len; simp only [List.length_cons]; omega
            · rw [vsN, if_neg hk]; exact k2.keys v h
            · rw [vsN, if_neg hk] at h; exact k2.all v h
          · refine ⟨r, e2, .inr ⟨f1, fun σ hσ h hB' => ?_⟩⟩
            rw [hsb, ← hne] at hB'
            exact f2 σ hσ h (List.cons.inj hB').2
        · rw [if_pos hne]
          refine ⟨_, rfl, .inr ⟨rfl, fun σ hσ h hB' => hne ?_⟩⟩
          rw [hsb] at hB'
          exact (List.cons.inj hB').1.symm
theorem match_bad {p q : List Nd} (h : ¬ (vdB p = true ∧ vdB q = true)) : m_types_Match p q = some ([], false) ∧ m_ref6_Match p q = some ([], false) := by
  unfold m_types_Match m_ref6_Match
  simp only [jn_eq]
  rw [vValid, wValid, bnd1_mk, bnd1_mk]
  cases hp : vdB p with
  | false => simp
  | true =>
    rw [vValid, wValid, bnd1_mk, bnd1_mk]
    cases hq : vdB q with
    | false => simp
    | true => exact absurd ⟨hp, hq⟩ h
/-- Both ways of matching answer alike. -/
theorem match_eq {p q : List Nd} (hp : vdB p = true) (hq : vdB q = true) : ∃ r ok, m_types_Match p q = some (r, ok) ∧ m_ref6_Match p q = some (r, ok) ∧ (ok = true ↔ ∃ σ, TrS σ ∧ q = sbt σ p) ∧ (ok = true → SrK r ∧ ∃ m', MOk p q [] m' ∧ ∀ v, lookL r v = lookL m' v) ∧ (ok = false → r = []) := by
  obtain ⟨r, ok, h1, h2, h3, h4⟩ := vMatch hp hq
  refine ⟨r, ok, h1, ?_, h2, h3, h4⟩
  have tp := vd_tr.1 hp
  have tq := vd_tr.1 hq
  obtain ⟨r', g1, g2⟩ := wMatchT 64 FU 64 (by have := FU_ge; omega) (by omega) p q [] tp.1 tq.1 tp.2 tq.2 ⟨by simp [NdK], by simp⟩ List.Pairwise.nil (by have := tp.2; simp; omega)
  unfold m_ref6_Match
  simp only [jn_eq]
  rw [wValid, hp, bnd1_mk, wValid, hq, bnd1_mk]
  simp only [Bool.not_true, Bool.false_eq_true, ↓reduceIte]
  rw [show m_ref6_match [] p q = some r' from g1, bnd1_mk]
  have h0 : ∀ σ, Ex [] σ := fun σ v x h => by cases h
  rcases g2 with ⟨w', rfl, kw, hsw⟩ | ⟨f1, f2⟩
  · have hok : ok = true := h2.2 ⟨fnB w', fnB_tr kw.inv, kw.eq _ (fnB_ex w')⟩
    subst hok
    obtain ⟨hsr, m', km, hlr⟩ := h3 rfl
    simp only [Bool.not_true, Bool.false_eq_true, ↓reduceIte]
    have hval : w' = r := by
      refine srk_ext hsw hsr (fun v => ?_)
      rw [hlr]
      by_cases hv : v ∈ vsN p
      · have a1 := kw.all v hv
        have a2 := km.all v hv
        cases hw : lookL w' v with
        | none => exact absurd hw a1
        | some y =>
          cases hm : lookL m' v with
          | none => exact absurd hm a2
          | some x =>
            have b1 := kw.det (fnB m') (fnB_tr km.inv) (h0 _) (km.eq _ (fnB_ex m')) v y hw
            have b2 := fnB_ex m' v x hm
            rw [← b1, ← b2]
      · have c1 : lookL w' v = none := Classical.not_not.1 fun hne => by
          rcases kw.keys v hne with h | h
          · exact h rfl
          · exact hv h
        have c2 : lookL m' v = none := Classical.not_not.1 fun hne => by
          rcases km.keys v hne with h | h
          · exact h rfl
          · exact hv h
        rw [c1, c2]
    rw [hval]
  · have hok : ok = false := by
      cases hk : ok with
      | false => rfl
      | true =>
        obtain ⟨σ, s1, s2⟩ := h2.1 hk
        exact absurd s2 (f2 σ s1 (h0 σ))
    subst hok
    simp only [f1, Bool.not_false, ↓reduceIte]
    rw [h4 rfl]
end Go.Proofs.YtdfdjgolijckfaaDoor
/- The law of Match. -/
namespace Go.Proofs.YtdfdjgolijckfaaDoor
attribute [local irreducible] FU
theorem same_loop (l : List Bd) (hl : l.length ≤ 4611686018427387904) (ht : ∀ x ∈ l, x.2.length ≤ 512) (K : Unit → Option Bool) : ∀ (m j n : Nat), j + m = l.length → m < n → m_help_SameTypes_L2 l l K n (j : Int) = K ()
  | 0, j, n, hj, hn => by
    obtain ⟨n, rfl⟩ : ∃ q, n = q + 1 := ⟨n - 1, by omega⟩
    rw [m_help_SameTypes_L2, m_help_SameTypes_B2, if_neg (by omega)]
  | m + 1, j, n, hj, hn => by
    obtain ⟨n, rfl⟩ : ∃ q, n = q + 1 := ⟨n - 1, by omega⟩
    have hjl : j < l.length := by omega
    have hz := ht l[j] (List.getElem_mem hjl)
    rw [m_help_SameTypes_L2, m_help_SameTypes_B2, if_pos (by omega), jn_eq, need_pos (by omega), need_pos (by omega), if_neg (fun h => h rfl), need_pos (by omega), need_pos (by omega), gi_nat hjl, eqNode _ (by omega), bnd1_mk, i64s (by omega)]
    simp only [Bool.not_true, Bool.false_eq_true, ↓reduceIte]
    exact same_loop l hl ht K m (j + 1) n (by omega) (by omega)
theorem vSame (l : List Bd) (hl : l.length ≤ 4611686018427387904) (ht : ∀ x ∈ l, x.2.length ≤ 512) : m_help_SameTypes l l = some true := by
  unfold m_help_SameTypes
  rw [if_neg (fun h => h rfl), jn_eq]
  exact same_loop l hl ht _ l.length 0 FU (by omega) (by have := FU_ge; omega)
theorem r_inv {p q : List Nd} {r m' : List Bd} (hs : SrK r) (k : MOk p q [] m') (hl : ∀ v, lookL r v = lookL m' v) : (∀ x ∈ r, vdB x.2 = true) ∧ r.length ≤ 1073741825 := by
  have h : ∀ x ∈ r, (0 ≤ x.1 ∧ x.1 ≤ 1073741824) ∧ x.2.length ≤ 512 ∧ ∃ e, e ≤ 64 ∧ Tr e x.2 := fun x hx => by
    have h1 := mem_lookL hs.nd (v := x.1) (x := x.2) hx
    rw [hl] at h1
    exact k.inv.2 _ (lookL_mem h1)
  refine ⟨fun x hx => ?_, ?_⟩
  · obtain ⟨_, h2, e, h3, h4⟩ := h x hx
    exact vd_tr.2 ⟨h4.le h3, h2⟩
  · have := srk_len 1073741824 r 0 hs (fun x hx => (h x hx).1)
    omega
/-- Both ways of matching, for whatever nodes. -/
theorem match_all (p q : List Nd) : ∃ r ok, m_types_Match p q = some (r, ok) ∧ m_ref6_Match p q = some (r, ok) ∧ m_help_SameTypes r r = some true := by
  by_cases h : vdB p = true ∧ vdB q = true
  · obtain ⟨r, ok, h1, h2, _, h3, h4⟩ := match_eq h.1 h.2
    refine ⟨r, ok, h1, h2, ?_⟩
    cases hk : ok with
    | false => rw [h4 hk]; exact vSame [] (by simp) (by simp)
    | true =>
      obtain ⟨hs, m', k, hl⟩ := h3 hk
      obtain ⟨a1, a2⟩ := r_inv hs k hl
      exact vSame r (by omega) (fun x hx => vdB_len (a1 x hx))
  · obtain ⟨h1, h2⟩ := match_bad h
    exact ⟨[], false, h1, h2, vSame [] (by simp) (by simp)⟩
theorem sbC_of : ∀ {p : Option Int} {s : List Bd}, SrK s → (∀ x ∈ s, vdB x.2 = true) → (∀ v, p = some v → ∀ x ∈ s, v < x.1) → sbC p s = true
  | p, [], _, _, _ => sbC_nil p
  | p, a :: l, h1, h2, h3 => by
    obtain ⟨p1, p2⟩ := List.pairwise_cons.1 h1
    rw [sbC_cons, h2 a List.mem_cons_self, sbC_of p2 (fun x hx => h2 x (List.mem_cons_of_mem _ hx)) (fun v hv x hx => by cases hv; exact p1 x hx)]
    cases p with
    | none => rfl
    | some v => simp [h3 v rfl a List.mem_cons_self]
theorem fm_congr {f g : Nd → List Nd} : ∀ {l : List Nd}, (∀ n ∈ l, f n = g n) → l.flatMap f = l.flatMap g
  | [], _ => rfl
  | n :: l, h => by rw [List.flatMap_cons, List.flatMap_cons, h n List.mem_cons_self, fm_congr (fun m hm => h m (List.mem_cons_of_mem _ hm))]
/-- Every instance matches, and its bindings make it again. -/
theorem match_inst {p : List Nd} {s : List Bd} (hne : apR s p ≠ []) : ∃ r, m_types_Match p (apR s p) = some (r, true) ∧ r.length ≤ 1073741825 ∧ apR r p = apR s p := by
  have hc : sbB s = true ∧ vdB p = true ∧ vdB (rep s p) = true := Classical.not_not.1 fun h => hne (by unfold apR; rw [if_neg h])
  have hi : apR s p = rep s p := by unfold apR; rw [if_pos hc]
  obtain ⟨hs, hp, hv⟩ := hc
  have hsp := sbC_spec hs
  have hr : rep s p = sbt (fun v => (lookL s v).getD (if 0 ≤ v ∧ v ≤ 1073741824 then [(1, v, 0)] else [(2, 0, 0)])) p := by
    refine fm_congr (fun n hn => ?_)
    unfold subN asg
    by_cases h1 : n.1 = 1
    · rw [if_pos h1, if_pos h1]
      have hk := var_kids (vd_fm hp n hn) h1
      dsimp only
      cases hx : lookL s n.2.1 with
      | some z => rfl
      | none =>
        simp only [Option.getD_none]
        rw [if_pos hk.2]
        exact congrArg (fun z => [z]) (Prod.ext h1 (Prod.ext rfl hk.1))
    · rw [if_neg h1, if_neg h1]
  have hT : TrS (fun v => (lookL s v).getD (if 0 ≤ v ∧ v ≤ 1073741824 then [(1, v, 0)] else [(2, 0, 0)])) := fun v => by
    dsimp only
    cases hx : lookL s v with
    | some z => exact ⟨64, (vd_tr.1 (hsp.2.1 _ (lookL_mem hx))).1⟩
    | none =>
      rw [Option.getD_none]
      split
      · rename_i hv
        exact ⟨1, 1, v, [], rfl, by unfold fmB; rw [if_pos (.inl rfl)]; exact decide_eq_true ⟨rfl, hv⟩, by simp⟩
      · exact ⟨1, 2, 0, [], rfl, rfl, by simp⟩
  rw [hi]
  obtain ⟨r, ok, h1, h2, h3, _⟩ := vMatch hp hv
  have hok : ok = true := h2.2 ⟨_, hT, hr⟩
  subst hok
  obtain ⟨hsr, m', k, hl⟩ := h3 rfl
  obtain ⟨a1, a2⟩ := r_inv hsr k hl
  refine ⟨r, h1, a2, ?_⟩
  have hrep : rep r p = rep s p := by
    have h5 := k.eq (fnB m') (fnB_ex m')
    rw [h5]
    refine fm_congr (fun n hn => ?_)
    unfold subN asg fnB
    by_cases h1 : n.1 = 1
    · rw [if_pos h1, if_pos h1, hl]
      have := k.all n.2.1 (vs_of_mem hn h1)
      cases hx : lookL m' n.2.1 with
      | none => exact absurd hx this
      | some z => rfl
    · rw [if_neg h1, if_neg h1]
  unfold apR
  rw [hrep, if_pos ⟨sbC_of hsr a1 (fun v h => by cases h), hp, hv⟩]
theorem typesMatch_true (s t : List Nd) (a b : List Int) (_ : s.length ≤ maxLen ∧ ∀ x ∈ s, (Lit.int .i64 x.1).wf = true ∧ (Lit.int .i64 x.2.1).wf = true ∧ (Lit.int .i64 x.2.2).wf = true) (_ : t.length ≤ maxLen ∧ ∀ x ∈ t, (Lit.int .i64 x.1).wf = true ∧ (Lit.int .i64 x.2.1).wf = true ∧ (Lit.int .i64 x.2.2).wf = true) (ha : a.length ≤ maxLen ∧ ∀ x ∈ a, (Lit.int .i64 x).wf = true) (hb : b.length ≤ maxLen ∧ ∀ x ∈ b, (Lit.int .i64 x).wf = true) : m_law7_TypesMatch s t a b = some true := by
  obtain ⟨p, i1, h1, _, hp⟩ := vTyp (V := 3) (by omega) (by omega) 2 (by omega) (gs_new ha) 3 (by omega)
  obtain ⟨q, i2, h2, gs0, hq⟩ := vTyp (V := 3) (by omega) (by omega) 2 (by omega) (gs_new hb) 3 (by omega)
  obtain ⟨r1, k1, m1, m2, m3⟩ := match_all s t
  obtain ⟨r2, k2, m4, m5, m6⟩ := match_all p q
  obtain ⟨t1, j1, g1, gs1, _⟩ := vTyp (V := 3) (by omega) (by omega) 1 (by omega) gs0 2 (by omega)
  obtain ⟨t2, j2, g2, gs2, _⟩ := vTyp (V := 3) (by omega) (by omega) 1 (by omega) gs1 2 (by omega)
  unfold m_law7_TypesMatch m_gen_New
  simp only [bnd1_mk, h1, h2, m1, m2, m4, m5, jn_eq, awake7, m3, m6, g1, g2, Bool.not_true, Bool.false_eq_true, ↓reduceIte, not_true_eq_false]
  have hs3 : ([(0, q), (1, t1), (2, t2)] : List Bd).length ≤ maxLen := by unfold maxLen; simp
  rw [wApply hs3, bnd1_mk]
  by_cases hne : apR [(0, q), (1, t1), (2, t2)] p = []
  · rw [hne]; rfl
  · obtain ⟨r, n1, n2, n3⟩ := match_inst hne
    have hlen := apR_len [(0, q), (1, t1), (2, t2)] p
    rw [if_neg (fun h => hne (List.eq_nil_of_length_eq_zero (by omega))), n1, bnd1_mk]
    simp only [↓reduceIte]
    rw [vApply (by unfold maxLen; omega), n3, bnd1_mk, eqNode _ (by omega), bnd1_mk]
end Go.Proofs.YtdfdjgolijckfaaDoor
/- TypesMatch: for every input the call returns true, and the arguments read as before. No condition. -/
namespace Go.Proofs.YtdfdjgolijckfaaDoor
open Go.ChangeShapes Go.WideShapes Go.ChangeAt Go.RowKit

theorem o_int : Opens Tryd.prog 3 1 (fun x : Int => [.exact (.int .i64 x)]) (fun _ => 1) (fun x => (Lit.int .i64 x).wf = true) := fun e0 W fuel cs y h => (opens_int Tryd.underlying3) e0 W fuel cs y h
theorem o_api_TypeNode : Opens Tryd.prog 41 3 c_api_TypeNode (fun x => (fun _ => 1) x.1 + (fun _ => 1) x.2.1 + (fun _ => 1) x.2.2) (fun x => (fun x => (Lit.int .i64 x).wf = true) x.1 ∧ (fun x => (Lit.int .i64 x).wf = true) x.2.1 ∧ (fun x => (Lit.int .i64 x).wf = true) x.2.2) := fun e0 W fuel cs y h => (opens_struct3 Tryd.underlying41 (by kernel_rfl) rfl rfl rfl (by kernel_rfl) (by kernel_rfl) (by kernel_rfl) o_int o_int o_int) e0 W fuel cs y h
theorem o_L_api_TypeNode : Opens Tryd.prog 22 1 (fun xs : List (Int × Int × Int) => [.row 3 c_api_TypeNode xs]) (fun xs => szL (fun x => (fun _ => 1) x.1 + (fun _ => 1) x.2.1 + (fun _ => 1) x.2.2) xs + 1) (fun xs => xs.length ≤ maxLen ∧ ∀ x ∈ xs, (fun x => (fun x => (Lit.int .i64 x).wf = true) x.1 ∧ (fun x => (Lit.int .i64 x).wf = true) x.2.1 ∧ (fun x => (Lit.int .i64 x).wf = true) x.2.2) x) := fun e0 W fuel cs y h => (opens_slice Tryd.underlying22 (by kernel_rfl) (by decide) o_api_TypeNode) e0 W fuel cs y h
theorem o_L_int : Opens Tryd.prog 23 1 (fun xs : List Int => [.row 1 c_int xs]) (fun xs => szL (fun _ => 1) xs + 1) (fun xs => xs.length ≤ maxLen ∧ ∀ x ∈ xs, (fun x => (Lit.int .i64 x).wf = true) x) := fun e0 W fuel cs y h => (opens_slice Tryd.underlying23 (by kernel_rfl) (by decide) o_int) e0 W fuel cs y h
theorem door_met (os : Os) (args : Array Value) : laidMetH Tryd.prog Rows.typesMatchRow.laid ((World.doorLaid Tryd.prog 400 os).forCall (fun _ _ => 0) ⟨#[], args, []⟩).memory :=
  laidMetH_of_parts3 (fuel := 8) (laidMet_of_run' 8 (by kernel_rfl) (by kernel_rfl)) (by kernel_rfl) (by kernel_rfl)
set_option maxRecDepth 100000 in
theorem typesMatch_lifted (os : Os) (started : os.Started) (H : Type) (enc : TypeId × Value → H) :
    ReturnsInHanded {} Tryd.checked os 10 .any (fun w args => (Rows.typesMatchSpec.pre enc Tryd.prog Tryd.f10 Rows.typesMatchRow.domain false w args ∧ laidMetH Tryd.prog Rows.typesMatchRow.laid w) ∧ sizedMet enc Tryd.prog Tryd.f10 (OpenSpec.ofChange Rows.typesMatchSpec) false w args) (Rows.typesMatchSpec.post enc Tryd.prog Tryd.f10 false true false false) := by
  refine returnsInHanded_of_change_and (C := Tryd.checked) (X := fun w _ => laidMetH Tryd.prog Rows.typesMatchRow.laid w) (fun _ _ _ hh h => h.of_heap hh) Tryd.own started (by kernel_rfl) Tryd.func10
    (ChangeSpec.witness_shaped (enc := enc) (C := Tryd.checked) (os := os) (X := fun w _ => laidMetH Tryd.prog Rows.typesMatchRow.laid w) false (World.doorLaid Tryd.prog 400 os) #[.slice none 0 0, .slice none 0 0, .slice none 0 0, .slice none 0 0] 8 rfl (World.shaped_of_RefB (by kernel_rfl) (by kernel_rfl)) (by kernel_rfl) (by kernel_rfl) (by kernel_rfl) (door_met os _)) ?_
  intro W base args ds gs before hval0 hW _ _ hL _
  have hval : ∀ (j : Nat) t v, Tryd.f10.params[j]? = some t → args[j]? = some v → Value.okWide Tryd.prog W .any base t v := hval0
  have hW' := hW
  obtain ⟨p, q, hA0, hV, rfl, hfz, hnd⟩ := hW
  have hA : DataW.TrodAll enc Tryd.prog W 0 (fun _ => true) true Tryd.f10.params.toList args.toList ds p := hA0
  rw [Tryd.params10] at hA hval
  obtain ⟨v0, vs0, d0, ds0, p0, q0, hargs, rfl, rfl, h0, r0⟩ := trodAll_cons hA
  obtain ⟨v1, vs1, d1, ds1, p1, q1, rfl, rfl, rfl, h1, r1⟩ := trodAll_cons r0
  obtain ⟨v2, vs2, d2, ds2, p2, q2, rfl, rfl, rfl, h2, r2⟩ := trodAll_cons r1
  obtain ⟨v3, vs3, d3, ds3, p3, q3, rfl, rfl, rfl, h3, r3⟩ := trodAll_cons r2
  obtain ⟨rfl, rfl, rfl⟩ := trodAll_nil r3
  obtain rfl : args = #[v0, v1, v2, v3] := by cases args; simp_all
  obtain ⟨rfl, rfl⟩ := trodVars_none hV
  clear hA0
  simp only [List.append_nil] at hW'
  have hlt := hW'.lt
  obtain ⟨x0, qq0, g0, s0⟩ := arg_open o_L_api_TypeNode (plain_slice Tryd.underlying22 (hval 0 22 v0 rfl rfl)) h0
  obtain ⟨x1, qq1, g1, s1⟩ := arg_open o_L_api_TypeNode (plain_slice Tryd.underlying22 (hval 1 22 v1 rfl rfl)) h1
  obtain ⟨x2, qq2, g2, s2⟩ := arg_open o_L_int (plain_slice Tryd.underlying23 (hval 2 23 v2 rfl rfl)) h2
  obtain ⟨x3, qq3, g3, s3⟩ := arg_open o_L_int (plain_slice Tryd.underlying23 (hval 3 23 v3 rfl rfl)) h3
  refine (Pure.call (m_law7_TypesMatch_ok x0 x1 x2 x3 true (typesMatch_true x0 x1 x2 x3 qq0 qq1 qq2 qq3)) (vs := [v0, v1, v2, v3]) ⟨g0.1, g1.1, g2.1, g3.1, trivial⟩).mono fun e W' ⟨he, hb⟩ => ?_
  subst he
  exact ⟨_, rfl, post_of_below (pa := p0 ++ (p1 ++ (p2 ++ (p3 ++ [])))) (pv := []) hW' (fun _ _ _ => trodAll_cons_mk (shut_bool Tryd.underlying4 true) trodAll_mk0)
    (fun sp hsp => trodAll_cons_mk (trod_after (by kernel_rfl) (of_decide_eq_true (by kernel_rfl)) h0 hb (fun x hx => hlt x (by simp [hx])) (fun x hx => by simp [hx]) sp hsp) (trodAll_cons_mk (trod_after (by kernel_rfl) (of_decide_eq_true (by kernel_rfl)) h1 hb (fun x hx => hlt x (by simp [hx])) (fun x hx => by simp [hx]) sp hsp) (trodAll_cons_mk (trod_after (by kernel_rfl) (of_decide_eq_true (by kernel_rfl)) h2 hb (fun x hx => hlt x (by simp [hx])) (fun x hx => by simp [hx]) sp hsp) (trodAll_cons_mk (trod_after (by kernel_rfl) (of_decide_eq_true (by kernel_rfl)) h3 hb (fun x hx => hlt x (by simp [hx])) (fun x hx => by simp [hx]) sp hsp) (trodAll_mk0)))))
    (fun _ _ => rfl) (by simp) hb (ok_one (by kernel_rfl) rfl (okWide_bool_mk Tryd.underlying4 true))⟩

theorem typesMatch_holds : Rows.TypesMatchSaid :=
  OpenClaim.holds_of_wide 10 Tryd.f10 rfl rfl rfl rfl rfl rfl rfl ⟨rfl, rfl, rfl, rfl, rfl⟩ rfl rfl rfl rfl rfl (by kernel_rfl) Tryd.func10 (by kernel_rfl)
    (of_decide_eq_true (by kernel_rfl)) (by unfold Func.isWrapper; first | (rw [if_pos (by decide +kernel)]; kernel_rfl) | (rw [if_neg (by decide +kernel)]; exact ⟨rfl, rfl⟩))
    (fun os started H enc _ => typesMatch_lifted os started H enc)

theorem typesMatch_card_holds : Rows.TypesMatchCardSaid :=
  Claim7.holds_tied_plain_at .later [] [.data, .data, .data] true (true, "266afa1125f812094a6acd2f15ec6e17dfc0fe2faf4d68696ad7b3b06d247b04") false
    typesMatch_holds (fun _ h => by cases h) (by kernel_rfl) (fun _ h => by cases h) typesMatch_row_tie rfl ⟨rfl, rfl⟩ (by kernel_rfl) rfl
    (fun f fn hf hfn => by
      obtain rfl : f = 10 := Option.some.inj ((show Tryd.prog.funcNamed "cspcheck/cspchecklaw7.TypesMatch" = some 10 by kernel_rfl).symm.trans hf) |>.symm
      obtain rfl : fn = Tryd.f10 := (Option.some.inj (Tryd.func10.symm.trans hfn)).symm
      exact ⟨by kernel_rfl, fun j t ht => by
        rw [Tryd.params10] at ht
        have hm : t ∈ [22, 22, 23, 23] := by simpa using Array.mem_of_getElem? ht
        have hall : ([22, 22, 23, 23].all fun u => !Tryd.prog.wantsStandIn u) = true := by kernel_rfl
        exact (show Tryd.prog.wantsStandIn t = false by simpa using List.all_eq_true.1 hall t hm)⟩)
    (by kernel_rfl)
end Go.Proofs.YtdfdjgolijckfaaDoor
