/- The law of Needs. -/
import Derived.Test.YtdfdjgolijckfaaDoorQx1
import Derived.Test.YtdfdjgolijckfaaDoorQx3
namespace Go.Proofs.YtdfdjgolijckfaaDoor
attribute [local irreducible] FU
theorem gs_new {c : List Int} (hc : c.length ≤ maxLen ∧ ∀ x ∈ c, (Lit.int .i64 x).wf = true) : GS c 0 := ⟨by omega, by omega, by have := hc.1; unfold maxLen at this; omega⟩
end Go.Proofs.YtdfdjgolijckfaaDoor
/- Apply, both ways. -/
namespace Go.Proofs.YtdfdjgolijckfaaDoor
attribute [local irreducible] FU
/-- What the generator builds is valid. -/
theorem Ty.aft {V : Int} : ∀ {d : Nat} {a : List Nd}, Ty V d a → ∀ (pre post : List Nd) (D : Nat), d ≤ D → aft (pre ++ (a ++ post)) D pre.length = some (pre.length + a.length)
  | _, _, .leaf (k := k) (m := m) h hv, pre, post, D, hD => by
    obtain ⟨D, rfl⟩ : ∃ q, D = q + 1 := ⟨D - 1, by omega⟩
    rw [Go.Proofs.YtdfdjgolijckfaaDoor.aft, List.getElem?_append_right (Nat.le_refl _), Nat.sub_self]
    show (if fmB (k, m, 0) = true then _ else none) = _
    rw [if_pos h]; rfl
  | _, _, .one (a := a) (k := k) h ha, pre, post, D, hD => by
    obtain ⟨D, rfl⟩ : ∃ q, D = q + 1 := ⟨D - 1, by omega⟩
    rw [Go.Proofs.YtdfdjgolijckfaaDoor.aft, List.getElem?_append_right (Nat.le_refl _), Nat.sub_self]
    show (if fmB (k, 0, 1) = true then aftK _ 1 (pre.length + 1) else none) = _
    have h1 := ha.aft (pre ++ [(k, 0, 1)]) post D (by omega)
    rw [List.append_assoc, List.length_append, List.length_singleton] at h1
    rw [if_pos h, aftK, List.cons_append]
    rw [List.singleton_append] at h1
    rw [h1, Option.bind_some, aftK, List.length_cons]
    congr 1; omega
  | _, _, .two (a := a) (b := b) (k := k) h ha hb, pre, post, D, hD => by
    obtain ⟨D, rfl⟩ : ∃ q, D = q + 1 := ⟨D - 1, by omega⟩
    rw [Go.Proofs.YtdfdjgolijckfaaDoor.aft, List.getElem?_append_right (Nat.le_refl _), Nat.sub_self]
    show (if fmB (k, 0, 2) = true then aftK _ 2 (pre.length + 1) else none) = _
    have h1 := ha.aft (pre ++ [(k, 0, 2)]) (b ++ post) D (by omega)
    have h2 := hb.aft (pre ++ [(k, 0, 2)] ++ a) post D (by omega)
    rw [if_pos h, aftK, List.cons_append]
    simp only [List.append_assoc, List.length_append, List.length_cons, List.length_nil, List.singleton_append, List.cons_append, List.nil_append, Nat.zero_add] at h1 h2 ⊢
    rw [h1, Option.bind_some, aftK, show pre.length + 1 + a.length = pre.length + (a.length + 1) by omega, h2, Option.bind_some, aftK]
    congr 1; omega
theorem Ty.vd {V : Int} {d : Nat} {a : List Nd} (h : Ty V d a) (hd : d ≤ 9) : vdB a = true := by
  have h1 := h.aft [] [] 64 (by omega)
  have h2 := h.len
  have : 2 ^ d ≤ 2 ^ 9 := Nat.pow_le_pow_right (by omega) hd
  simp only [List.nil_append, List.append_nil, List.length_nil, Nat.zero_add] at h1
  exact decide_eq_true ⟨h2.2, by omega, h1⟩
abbrev Bd := Int × List Nd
/-- A substitution: its types are valid, its variables grow. -/
def sbC : Option Int → List Bd → Bool
  | _, [] => true
  | p, a :: l => vdB a.2 && (match p with | none => true | some v => decide (v < a.1)) && sbC (some a.1) l
abbrev sbB (s : List Bd) : Bool := sbC none s
theorem sbC_cons (p : Option Int) (a : Bd) (l : List Bd) : sbC p (a :: l) = (vdB a.2 && (match p with | none => true | some v => decide (v < a.1)) && sbC (some a.1) l) := by cases p <;> rfl
theorem sbC_nil (p : Option Int) : sbC p [] = true := by cases p <;> rfl
/-- The variable before index j. -/
def prv (s : List Bd) : Nat → Option Int
  | 0 => none
  | j + 1 => (s[j]?).map (·.1)
theorem prv_succ {s : List Bd} {j : Nat} (h : j < s.length) : prv s (j + 1) = some s[j].1 := by simp [prv, h]
theorem vSubst {s : List Bd} (hl : s.length ≤ maxLen) (K : List Bd → Option (List Bd × Bool)) : ∀ (u : List Bd) (j n : Nat) (m : List Bd), s.drop j = u → j ≤ s.length → u.length < n → (∀ x ∈ s.take j, ∃ v, prv s j = some v ∧ x.1 ≤ v) → (∀ v, lookL m v = lookL (s.take j) v) →
    ∃ m', m_types_substitution_L2 s K n m (j : Int) = (if sbC (prv s j) u = true then K m' else some ([], false)) ∧ (sbC (prv s j) u = true → ∀ v, lookL m' v = lookL s v)
  | [], j, 0, _, _, _, h, _, _ => by simp at h
  | [], j, n + 1, m, hd, hj, _, _, hm => by
    have := congrArg List.length hd
    simp at this
    refine ⟨m, by rw [m_types_substitution_L2, m_types_substitution_B2, if_neg (by omega), sbC_nil, if_pos rfl], fun _ v => ?_⟩
    rw [hm, List.take_of_length_le (by omega)]
  | a :: u, j, 0, _, _, _, h, _, _ => by simp at h
  | a :: u, j, n + 1, m, hd, hj, hn, hp, hm => by
    unfold maxLen at hl
    have hlen := congrArg List.length hd
    simp at hlen
    have hjl : j < s.length := by omega
    have ha : s[j] = a ∧ s.drop (j + 1) = u := by rw [List.drop_eq_getElem_cons hjl] at hd; exact ⟨(List.cons.inj hd).1, (List.cons.inj hd).2⟩
    have htk : s.take (j + 1) = s.take j ++ [a] := by rw [List.take_succ_eq_append_getElem hjl, ha.1]
    rw [m_types_substitution_L2, m_types_substitution_B2, if_pos (by omega), need_pos (by omega), jn_eq, gi_nat hjl, vValid, bnd1_mk, ha.1, sbC_cons, i64s (by omega)]
    cases hv : vdB a.2 with
    | false => exact ⟨m, rfl, fun h => by cases h⟩
    | true =>
      rw [Bool.not_true, if_neg (by simp)]
      by_cases hpr : ∃ v, prv s j = some v ∧ ¬ v < a.1
      · obtain ⟨v, hv1, hv2⟩ := hpr
        match j, hjl, hv1 with
        | 0, _, hv1 => cases hv1
        | j + 1, hjl, hv1 =>
          have e : i64 (((j + 1 : Nat) : Int) - 1) = (j : Int) := by rw [i64_id (by omega)]; omega
          have hvs : v = s[j].1 := by rw [prv_succ (by omega : j < s.length)] at hv1; exact (Option.some.inj hv1).symm
          rw [if_pos (by omega), e, need_pos (by omega), gi_nat (by omega : j < s.length), hv1]
          refine ⟨m, ?_, fun h => ?_⟩
          · simp only [decide_eq_true (show a.1 ≤ s[j].1 by omega), decide_eq_false hv2, ↓reduceIte, Bool.and_false, Bool.false_and, Bool.false_eq_true]
          · simp only [decide_eq_false hv2, Bool.and_false, Bool.false_and, Bool.false_eq_true] at h
      · have hpr' : ∀ v, prv s j = some v → v < a.1 := fun v h => Classical.not_not.1 fun h2 => hpr ⟨v, h, h2⟩
        have hnew : ∀ v, lookL (putL m a.1 a.2) v = lookL (s.take (j + 1)) v := fun v => by
          rw [lookL_put, htk, lookL_app, ← hm, lookL, lookL]
          by_cases e : a.1 = v
          · rw [if_pos e, if_pos e]
            have : lookL m v = none := by
              rw [hm]
              refine lookL_lt (fun x hx he => ?_)
              obtain ⟨w, h1, h2⟩ := hp x hx
              have := hpr' w h1; omega
            rw [this]
          · rw [if_neg e, if_neg e]
            cases lookL m v <;> rfl
        obtain ⟨m', r1, r2⟩ := vSubst (s := s) (by unfold maxLen; omega) K u (j + 1) n (putL m a.1 a.2) ha.2 (by omega) (by simp at hn; omega) (fun x hx => by
          refine ⟨a.1, by rw [prv_succ hjl, ha.1], ?_⟩
          rw [htk, List.mem_append, List.mem_singleton] at hx
          rcases hx with hx | rfl
          · obtain ⟨w, h1, h2⟩ := hp x hx
            have := hpr' w h1; omega
          · omega) hnew
        rw [prv_succ hjl, ha.1] at r1 r2
        have hsb : (true && (match prv s j with | none => true | some v => decide (v < a.1)) && sbC (some a.1) u) = sbC (some a.1) u := by
          cases hq : prv s j with
          | none => simp
          | some v => simp [hpr' v hq]
        rw [hsb]
        refine ⟨m', ?_, r2⟩
        rw [← r1]
        match j, hjl, hpr' with
        | 0, _, _ => rw [if_neg (by simp)]; rfl
        | j + 1, hjl, hpr' =>
          have e : i64 (((j + 1 : Nat) : Int) - 1) = (j : Int) := by rw [i64_id (by omega)]; omega
          have := hpr' s[j].1 (prv_succ (by omega : j < s.length))
          rw [if_pos (by omega), e, need_pos (by omega), gi_nat (by omega : j < s.length), decide_eq_false (by omega)]
          rfl
theorem vSub {s : List Bd} (hl : s.length ≤ maxLen) : ∃ m, m_types_substitution s = some (m, sbB s) ∧ (sbB s = true → ∀ v, lookL m v = lookL s v) := by
  obtain ⟨m', h1, h2⟩ := vSubst hl (fun x => some (x, true)) s 0 FU [] rfl (Nat.zero_le _) (by have := FU_ge; unfold maxLen at hl; omega) (by simp) (by simp)
  unfold m_types_substitution
  rw [jn_eq, show (0 : Int) = ((0 : Nat) : Int) from rfl, h1]
  by_cases h : sbC (prv s 0) s = true
  · rw [if_pos h]; exact ⟨m', by rw [show sbB s = true from h], fun _ => h2 h⟩
  · rw [if_neg h]; exact ⟨[], by rw [show sbB s = false from Bool.eq_false_iff.2 h], fun hh => absurd hh h⟩
theorem sbC_spec : ∀ {p : Option Int} {s : List Bd}, sbC p s = true → SrK s ∧ (∀ x ∈ s, vdB x.2 = true) ∧ (∀ v, p = some v → ∀ x ∈ s, v < x.1)
  | _, [], _ => ⟨List.Pairwise.nil, by simp, by simp⟩
  | p, a :: l, h => by
    rw [sbC_cons, Bool.and_eq_true, Bool.and_eq_true] at h
    obtain ⟨⟨h1, h2⟩, h3⟩ := h
    obtain ⟨i1, i2, i3⟩ := sbC_spec h3
    refine ⟨List.pairwise_cons.2 ⟨fun x hx => i3 _ rfl x hx, i1⟩, fun x hx => ?_, fun v hv x hx => ?_⟩
    · rcases List.mem_cons.1 hx with rfl | hx
      · exact h1
      · exact i2 x hx
    · subst hv
      have h2 : v < a.1 := of_decide_eq_true h2
      rcases List.mem_cons.1 hx with rfl | hx
      · exact h2
      · have := i3 _ rfl x hx; omega
/-- A node, replaced. -/
def subN (s : List Bd) (n : Nd) : List Nd := if n.1 = 1 then (lookL s n.2.1).getD [n] else [n]
abbrev rep (s : List Bd) (t : List Nd) : List Nd := t.flatMap (subN s)
theorem subN_len {s : List Bd} (hs : sbB s = true) (n : Nd) : (subN s n).length ≤ 512 := by
  unfold subN
  split
  · cases h : lookL s n.2.1 with
    | none => simp
    | some t => exact vdB_len ((sbC_spec hs).2.1 _ (lookL_mem h))
  · simp
theorem vApplyL {s m : List Bd} (hs : sbB s = true) (hm : ∀ v, lookL m v = lookL s v) {t : List Nd} (hl : t.length ≤ 512) (ok : Bool) (K : List Nd → Option (List Nd)) : ∀ (u : List Nd) (j n : Nat) (o : List Nd), t.drop j = u → j ≤ t.length → u.length < n → o.length ≤ 512 * j →
    m_types_Apply_L2 t (m, ok) K n o (j : Int) = K (o ++ rep s u)
  | [], j, 0, _, _, _, h, _ => by simp at h
  | [], j, n + 1, o, hd, hj, _, _ => by
    have := congrArg List.length hd
    simp at this
    rw [m_types_Apply_L2, m_types_Apply_B2, if_neg (by omega)]; simp
  | a :: u, j, 0, _, _, _, h, _ => by simp at h
  | a :: u, j, n + 1, o, hd, hj, hn, ho => by
    have hlen := congrArg List.length hd
    simp at hlen
    have hjl : j < t.length := by omega
    have ha : t[j] = a ∧ t.drop (j + 1) = u := by rw [List.drop_eq_getElem_cons hjl] at hd; exact ⟨(List.cons.inj hd).1, (List.cons.inj hd).2⟩
    have hsl := subN_len hs a
    have hr := vApplyL hs hm hl ok K u (j + 1) n (o ++ subN s a) ha.2 (by omega) (by simp at hn; omega) (by rw [List.length_append]; omega)
    rw [m_types_Apply_L2, m_types_Apply_B2, if_pos (by omega), jn_eq, need_pos (by omega), jn_eq, gi_nat hjl, ha.1, hm, i64s (by omega)]
    have hfl : o ++ rep s (a :: u) = o ++ subN s a ++ rep s u := by simp [rep]
    rw [hfl, ← hr]
    unfold subN at hsl ⊢
    cases hx : lookL s a.2.1 with
    | none =>
      rw [hx] at hsl
      simp only [Option.isSome_none, Bool.false_eq_true, ↓reduceIte, Option.getD_none]
      rw [need_pos (by simp; omega)]
      split <;> rfl
    | some z =>
      rw [hx] at hsl
      simp only [Option.isSome_some, ↓reduceIte, Option.getD_some]
      by_cases h1 : a.1 = 1
      · rw [if_pos h1] at hsl
        simp only [h1, decide_true, ↓reduceIte]
        rw [need_pos (by simp only [Option.getD_some] at hsl; omega)]
      · simp only [h1, decide_false, Bool.false_eq_true, ↓reduceIte]
        rw [need_pos (by simp; omega)]
/-- What Apply answers. -/
def apR (s : List Bd) (t : List Nd) : List Nd := if sbB s = true ∧ vdB t = true ∧ vdB (rep s t) = true then rep s t else []
theorem vClipN (t : List Nd) : m_slices_Clip_L_api_TypeNode_api_TypeNode t = some t := by
  unfold m_slices_Clip_L_api_TypeNode_api_TypeNode
  rw [need_pos (by omega), Int.toNat_natCast, List.take_length]
theorem vApply {s : List Bd} (hl : s.length ≤ maxLen) (t : List Nd) : m_types_Apply s t = some (apR s t) := by
  obtain ⟨m, h1, h2⟩ := vSub hl
  unfold m_types_Apply apR
  rw [h1, bnd1_mk]
  simp only [jn_eq]
  cases hs : sbB s with
  | false => simp
  | true =>
    rw [Bool.not_true, if_neg (by simp), vValid, bnd1_mk]
    cases ht : vdB t with
    | false => simp
    | true =>
      have hg := fun K => vApplyL hs (h2 hs) (vdB_len ht) true K t 0 FU [] rfl (Nat.zero_le _) (by have := FU_ge; have := vdB_len ht; omega) (by simp)
      rw [Bool.not_true, if_neg (by simp), show (0 : Int) = ((0 : Nat) : Int) from rfl, hg, List.nil_append, vValid, bnd1_mk]
      cases hr : vdB (rep s t) with
      | false => simp
      | true => rw [Bool.not_true, if_neg (by simp), vClipN, bnd1_mk, if_pos ⟨rfl, rfl, rfl⟩]
end Go.Proofs.YtdfdjgolijckfaaDoor
/- Apply of the reference; exchanging variables; the law of Apply. -/
namespace Go.Proofs.YtdfdjgolijckfaaDoor
attribute [local irreducible] FU
theorem eqNode_loop (l : List Nd) (hl : l.length ≤ 4611686018427387904) (K : Unit → Option Bool) : ∀ (m j n : Nat), j + m = l.length → m < n → m_help_Equal_api_TypeNode_L2 l l K n (j : Int) = K ()
  | 0, j, n, hj, hn => by
    obtain ⟨n, rfl⟩ : ∃ q, n = q + 1 := ⟨n - 1, by omega⟩
    rw [m_help_Equal_api_TypeNode_L2, m_help_Equal_api_TypeNode_B2, if_neg (by omega)]
  | m + 1, j, n, hj, hn => by
    obtain ⟨n, rfl⟩ : ∃ q, n = q + 1 := ⟨n - 1, by omega⟩
    rw [m_help_Equal_api_TypeNode_L2, m_help_Equal_api_TypeNode_B2, if_pos (by omega), need_pos (by omega), need_pos (by omega), if_neg (fun h => h rfl), i64s (by omega)]
    exact eqNode_loop l hl K m (j + 1) n (by omega) (by omega)
theorem eqNode (l : List Nd) (hl : l.length ≤ 4611686018427387904) : m_help_Equal_api_TypeNode l l = some true := by
  unfold m_help_Equal_api_TypeNode
  rw [if_neg (fun h => h rfl), jn_eq]
  exact eqNode_loop l hl _ l.length 0 FU (by omega) (by have := FU_ge; omega)
/-! ### Exchanging two variables -/
/-! ### The law -/
end Go.Proofs.YtdfdjgolijckfaaDoor
/- Types as trees laid out in rows. -/
namespace Go.Proofs.YtdfdjgolijckfaaDoor
attribute [local irreducible] FU
/-- A tree, at most d deep. -/
def Tr : Nat → List Nd → Prop
  | 0, _ => False
  | d + 1, t => ∃ (k m : Int) (ks : List (List Nd)), t = (k, m, (ks.length : Int)) :: ks.flatten ∧ fmB (k, m, (ks.length : Int)) = true ∧ ∀ x ∈ ks, Tr d x
theorem Tr.up : ∀ {d : Nat} {t : List Nd}, Tr d t → Tr (d + 1) t
  | 0, _, h => h.elim
  | d + 1, _, ⟨k, m, ks, h1, h2, h3⟩ => ⟨k, m, ks, h1, h2, fun x hx => (h3 x hx).up⟩
theorem Tr.le {d e : Nat} {t : List Nd} (h : Tr d t) (he : d ≤ e) : Tr e t := by
  induction e with
  | zero =>
    have : d = 0 := by omega
    subst this; exact h
  | succ e ih =>
    rcases Nat.eq_or_lt_of_le he with rfl | h2
    · exact h
    · exact (ih (by omega)).up
theorem Tr.pos {d : Nat} {t : List Nd} (h : Tr d t) : 0 < t.length := by
  match d, h with
  | 0, h => exact h.elim
  | d + 1, ⟨k, m, ks, h1, _, _⟩ => rw [h1]; simp
theorem trs_aft {D : Nat} (hT : ∀ (a pre post : List Nd), Tr D a → aft (pre ++ (a ++ post)) D pre.length = some (pre.length + a.length)) : ∀ (ks : List (List Nd)) (pre post : List Nd), (∀ x ∈ ks, Tr D x) → aftK (aft (pre ++ (ks.flatten ++ post)) D) ks.length pre.length = some (pre.length + ks.flatten.length)
  | [], pre, post, _ => by simp [aftK]
  | x :: ks, pre, post, h => by
    have h1 := hT x pre (ks.flatten ++ post) (h x List.mem_cons_self)
    have h2 := trs_aft hT ks (pre ++ x) post (fun y hy => h y (List.mem_cons_of_mem _ hy))
    rw [List.length_cons, aftK, List.flatten_cons, List.append_assoc, h1, Option.bind_some]
    rw [List.append_assoc, List.length_append] at h2
    rw [h2, List.length_append]
    congr 1; omega
theorem Tr.aft : ∀ {d : Nat} {a : List Nd} (pre post : List Nd), Tr d a → Go.Proofs.YtdfdjgolijckfaaDoor.aft (pre ++ (a ++ post)) d pre.length = some (pre.length + a.length)
  | 0, _, _, _, h => h.elim
  | d + 1, _, pre, post, ⟨k, m, ks, h1, h2, h3⟩ => by
    subst h1
    rw [Go.Proofs.YtdfdjgolijckfaaDoor.aft, List.getElem?_append_right (Nat.le_refl _), Nat.sub_self]
    show (if fmB (k, m, (ks.length : Int)) = true then aftK _ (ks.length : Int).toNat (pre.length + 1) else none) = _
    have h4 := trs_aft (D := d) (fun a pre post h => h.aft pre post) ks (pre ++ [(k, m, (ks.length : Int))]) post h3
    rw [if_pos h2, Int.toNat_natCast, List.cons_append]
    rw [List.append_assoc, List.singleton_append, List.length_append, List.length_singleton] at h4
    rw [h4, List.length_cons]
    congr 1; omega
theorem aftK_tr {t : List Nd} {D : Nat} (hT : ∀ i k, aft t D i = some k → ∃ a, Tr D a ∧ t.drop i = a ++ t.drop k) : ∀ (m i k : Nat), aftK (aft t D) m i = some k → ∃ ks : List (List Nd), ks.length = m ∧ (∀ x ∈ ks, Tr D x) ∧ t.drop i = ks.flatten ++ t.drop k
  | 0, i, k, h => by simp only [aftK, Option.some.injEq] at h; subst h; exact ⟨[], rfl, by simp, by simp⟩
  | m + 1, i, k, h => by
    rw [aftK] at h
    cases hx : aft t D i with
    | none => rw [hx] at h; cases h
    | some j =>
      rw [hx] at h
      obtain ⟨a, h1, h2⟩ := hT i j hx
      obtain ⟨ks, h3, h4, h5⟩ := aftK_tr hT m j k h
      refine ⟨a :: ks, by simp [h3], fun x hx => ?_, by rw [h2, h5]; simp⟩
      rcases List.mem_cons.1 hx with rfl | hx
      · exact h1
      · exact h4 x hx
theorem aft_tr (t : List Nd) : ∀ (D i k : Nat), aft t D i = some k → ∃ a, Tr D a ∧ t.drop i = a ++ t.drop k
  | 0, i, k, h => by simp [aft] at h
  | D + 1, i, k, h => by
    rw [aft] at h
    cases hx : t[i]? with
    | none => rw [hx] at h; cases h
    | some n =>
      rw [hx] at h
      obtain ⟨hi, he⟩ := List.getElem?_eq_some_iff.1 hx
      dsimp only at h
      split at h
      · rename_i hf
        obtain ⟨ks, h1, h2, h3⟩ := aftK_tr (aft_tr t D) _ _ _ h
        have hk := fm_kids hf
        have hn : n = (n.1, n.2.1, (ks.length : Int)) := by
          rw [h1]; exact Prod.ext rfl (Prod.ext rfl (by dsimp only; omega))
        refine ⟨n :: ks.flatten, ⟨n.1, n.2.1, ks, by rw [← hn], by rw [← hn]; exact hf, h2⟩, ?_⟩
        rw [List.drop_eq_getElem_cons hi, he, h3]; rfl
      · cases h
theorem vd_tr {t : List Nd} : vdB t = true ↔ Tr 64 t ∧ t.length ≤ 512 := by
  constructor
  · intro h
    obtain ⟨h1, h2, h3⟩ := of_decide_eq_true h
    obtain ⟨a, ha, hd⟩ := aft_tr t 64 0 _ h3
    rw [List.drop_zero, List.drop_length, List.append_nil] at hd
    exact ⟨hd ▸ ha, h2⟩
  · rintro ⟨h1, h2⟩
    have h3 := h1.aft [] []
    rw [List.append_nil, List.nil_append, List.length_nil, Nat.zero_add] at h3
    exact decide_eq_true ⟨h1.pos, h2, h3⟩
/-- No tree begins another. -/
theorem Tr.uniq {d e : Nat} {a b r s : List Nd} (ha : Tr d a) (hb : Tr e b) (h : a ++ r = b ++ s) : a = b ∧ r = s := by
  have h1 := (ha.le (Nat.le_max_left d e)).aft [] r
  have h2 := (hb.le (Nat.le_max_right d e)).aft [] s
  simp only [List.nil_append, List.length_nil, Nat.zero_add] at h1 h2
  rw [h, h2] at h1
  exact List.append_inj h (Option.some.inj h1).symm
theorem Ty.tr {V : Int} : ∀ {d : Nat} {t : List Nd}, Ty V d t → Tr d t
  | _, _, .leaf (k := k) (m := m) h _ => ⟨k, m, [], rfl, h, by simp⟩
  | _, _, .one (k := k) (a := a) h ha => ⟨k, 0, [a], by simp, h, by simpa using ha.tr⟩
  | _, _, .two (k := k) (a := a) (b := b) h ha hb => ⟨k, 0, [a, b], by simp, h, by simpa using ⟨ha.tr, hb.tr⟩⟩
/-- A row, its variables replaced. -/
def asg (σ : Int → List Nd) (n : Nd) : List Nd := if n.1 = 1 then σ n.2.1 else [n]
abbrev sbt (σ : Int → List Nd) (t : List Nd) : List Nd := t.flatMap (asg σ)
def TrS (σ : Int → List Nd) : Prop := ∀ v, ∃ e, Tr e (σ v)
theorem trs_depth : ∀ (ks : List (List Nd)), (∀ x ∈ ks, ∃ e, Tr e x) → ∃ e, ∀ x ∈ ks, Tr e x
  | [], _ => ⟨0, by simp⟩
  | x :: ks, h => by
    obtain ⟨e1, h1⟩ := h x List.mem_cons_self
    obtain ⟨e2, h2⟩ := trs_depth ks (fun y hy => h y (List.mem_cons_of_mem _ hy))
    refine ⟨max e1 e2, fun y hy => ?_⟩
    rcases List.mem_cons.1 hy with rfl | hy
    · exact h1.le (Nat.le_max_left _ _)
    · exact (h2 y hy).le (Nat.le_max_right _ _)
theorem sbt_flatten (σ : Int → List Nd) (ks : List (List Nd)) : sbt σ ks.flatten = (ks.map (sbt σ)).flatten := by
  induction ks with
  | nil => rfl
  | cons x ks ih => rw [List.flatten_cons, sbt, List.flatMap_append, List.map_cons, List.flatten_cons, ← ih]
theorem sbt_cons (σ : Int → List Nd) (n : Nd) (t : List Nd) : sbt σ (n :: t) = asg σ n ++ sbt σ t := List.flatMap_cons
theorem Tr.sbt {σ : Int → List Nd} (hσ : TrS σ) : ∀ {d : Nat} {a : List Nd}, Tr d a → ∃ e, Tr e (sbt σ a)
  | 0, _, h => h.elim
  | d + 1, _, ⟨k, m, ks, h1, h2, h3⟩ => by
    subst h1
    rw [sbt_cons, asg, sbt_flatten]
    by_cases hk : k = 1
    · subst hk
      have hl : ks.length = 0 := by
        have h4 := h2
        unfold fmB at h4
        rw [if_pos (.inl rfl)] at h4
        have := (of_decide_eq_true h4).1
        dsimp only at this; omega
      obtain rfl := List.eq_nil_of_length_eq_zero hl
      obtain ⟨e, he⟩ := hσ m
      exact ⟨e, by simpa using he⟩
    · obtain ⟨e, he⟩ := trs_depth (ks.map (Go.Proofs.YtdfdjgolijckfaaDoor.sbt σ)) (fun x hx => by
        obtain ⟨y, hy, rfl⟩ := List.mem_map.1 hx
        exact (h3 y hy).sbt hσ)
      refine ⟨e + 1, k, m, ks.map (Go.Proofs.YtdfdjgolijckfaaDoor.sbt σ), ?_, ?_, he⟩
      · rw [if_neg hk, List.length_map]; rfl
      · rw [List.length_map]; exact h2
end Go.Proofs.YtdfdjgolijckfaaDoor
/- Match: what it answers for trees. -/
namespace Go.Proofs.YtdfdjgolijckfaaDoor
attribute [local irreducible] FU
/-- What holds of the bindings so far. -/
def MInv (m : List Bd) : Prop := NdK m ∧ ∀ x ∈ m, (0 ≤ x.1 ∧ x.1 ≤ 1073741824) ∧ x.2.length ≤ 512 ∧ ∃ e, e ≤ 64 ∧ Tr e x.2
theorem vsN_app (a b : List Nd) : vsN (a ++ b) = vsN a ++ vsN b := by
  induction a with
  | nil => rfl
  | cons n a ih => rw [List.cons_append, vsN, vsN, ih]; split <;> rfl
theorem MInv.put {m : List Bd} (h : MInv m) {v : Int} (hv : 0 ≤ v ∧ v ≤ 1073741824) {B : List Nd} {e : Nat} (hB : Tr e B) (he : e ≤ 64) (hl : B.length ≤ 512) : MInv (putL m v B) := by
  refine ⟨putL_nd h.1 _ _, fun x hx => ?_⟩
  have h1 := mem_lookL (putL_nd h.1 v B) (v := x.1) (x := x.2) hx
  rw [lookL_put] at h1
  split at h1
  · rename_i e1
    rw [← e1, ← Option.some.inj h1]
    exact ⟨hv, hl, e, he, hB⟩
  · exact h.2 x (lookL_mem h1)
end Go.Proofs.YtdfdjgolijckfaaDoor
/- Match of valid types; Canon; the law of Canon. -/
namespace Go.Proofs.YtdfdjgolijckfaaDoor
attribute [local irreducible] FU
theorem vClipB (t : List Bd) : m_slices_Clip_L_api_Binding_api_Binding t = some t := by
  unfold m_slices_Clip_L_api_Binding_api_Binding
  rw [need_pos (by omega), Int.toNat_natCast, List.take_length]
/-! ### Canon -/
/-- The variables, each once, in order. -/
def vgo : List Int → List Nd → List Int
  | out, [] => out
  | out, n :: t => if n.1 = 1 ∧ n.2.1 ∉ out then vgo (out ++ [n.2.1]) t else vgo out t
abbrev vrs (t : List Nd) : List Int := vgo [] t
theorem vgo_mem : ∀ {t : List Nd} {out : List Int} {v : Int}, v ∈ vgo out t ↔ v ∈ out ∨ v ∈ vsN t
  | [], out, v => by simp [vgo, vsN]
  | n :: t, out, v => by
    rw [vgo, vsN]
    by_cases h1 : n.1 = 1
    · rw [if_pos h1]
      by_cases h2 : n.2.1 ∈ out
      · rw [if_neg (fun h => h.2 h2), vgo_mem, List.mem_cons]
        constructor
        · rintro (h | h)
          · exact .inl h
          · exact .inr (.inr h)
        · rintro (h | rfl | h)
          · exact .inl h
          · exact .inl h2
          · exact .inr h
      · rw [if_pos ⟨h1, h2⟩, vgo_mem, List.mem_append, List.mem_singleton, List.mem_cons, or_assoc]
    · rw [if_neg (fun h => h1 h.1), if_neg h1, vgo_mem]
theorem vgo_len : ∀ (t : List Nd) (out : List Int), (vgo out t).length ≤ out.length + t.length
  | [], out => by simp [vgo]
  | n :: t, out => by
    rw [vgo]
    split
    · have := vgo_len t (out ++ [n.2.1]); simp at *; omega
    · have := vgo_len t out; simp; omega
end Go.Proofs.YtdfdjgolijckfaaDoor
/- The law of Canon. -/
namespace Go.Proofs.YtdfdjgolijckfaaDoor
attribute [local irreducible] FU
theorem vs_of_mem : ∀ {t : List Nd} {n : Nd}, n ∈ t → n.1 = 1 → n.2.1 ∈ vsN t
  | a :: t, n, h, h1 => by
    rw [vsN]
    rcases List.mem_cons.1 h with rfl | h
    · rw [if_pos h1]; exact List.mem_cons_self
    · have := vs_of_mem h h1
      split
      · exact List.mem_cons_of_mem _ this
      · exact this
theorem vrs_mem {t : List Nd} {v : Int} : v ∈ vrs t ↔ v ∈ vsN t := by rw [vrs, vgo_mem]; simp
theorem asg_not (σ : Int → List Nd) {n : Nd} (h : ¬ n.1 = 1) : asg σ n = [n] := by unfold asg; rw [if_neg h]
theorem var_kids {n : Nd} (h : fmB n = true) (h1 : n.1 = 1) : n.2.2 = 0 ∧ 0 ≤ n.2.1 ∧ n.2.1 ≤ 1073741824 := by
  unfold fmB at h
  rw [if_pos (.inl h1)] at h
  exact of_decide_eq_true h
end Go.Proofs.YtdfdjgolijckfaaDoor
/- Match of the reference. -/
namespace Go.Proofs.YtdfdjgolijckfaaDoor
attribute [local irreducible] FU
theorem flat_ge {d : Nat} : ∀ {ks : List (List Nd)}, (∀ x ∈ ks, Tr d x) → ks.length ≤ ks.flatten.length
  | [], _ => by simp
  | x :: ks, h => by
    have h1 := (h x List.mem_cons_self).pos
    have h2 := flat_ge (ks := ks) (fun y hy => h y (List.mem_cons_of_mem _ hy))
    rw [List.flatten_cons, List.length_append, List.length_cons]; omega
theorem endF {d : Nat} (hT : ∀ (A pre post : List Nd) (r n : Nat) (K : Int → Option Int), Tr d A → (pre ++ (A ++ post)).length ≤ 512 → r + A.length ≤ 1000000 → m_ref6_end_L2 (pre ++ (A ++ post)) K (n + A.length) (pre.length : Int) ((r + 1 : Nat) : Int) = m_ref6_end_L2 (pre ++ (A ++ post)) K n ((pre.length + A.length : Nat) : Int) (r : Int)) :
    ∀ (ks : List (List Nd)) (pre post : List Nd) (r n : Nat) (K : Int → Option Int), (∀ x ∈ ks, Tr d x) → (pre ++ (ks.flatten ++ post)).length ≤ 512 → r + ks.flatten.length ≤ 1000000 → m_ref6_end_L2 (pre ++ (ks.flatten ++ post)) K (n + ks.flatten.length) (pre.length : Int) ((r + ks.length : Nat) : Int) = m_ref6_end_L2 (pre ++ (ks.flatten ++ post)) K n ((pre.length + ks.flatten.length : Nat) : Int) (r : Int)
  | [], pre, post, r, n, K, _, _, _ => by simp
  | x :: ks, pre, post, r, n, K, h, hl, hr => by
    have hx := h x List.mem_cons_self
    have hks := fun y hy => h y (List.mem_cons_of_mem _ hy)
    have hg := flat_ge hks
    rw [List.flatten_cons, List.length_append] at hr
    have h1 := hT x pre (ks.flatten ++ post) (r + ks.length) (n + ks.flatten.length) K hx (by simpa using hl) (by omega)
    have h2 := endF hT ks (pre ++ x) post r n K hks (by simpa using hl) (by omega)
    simp only [List.append_assoc, List.length_append] at h2
    simp only [List.flatten_cons, List.append_assoc, List.length_append, List.length_cons]
    rw [show n + (x.length + ks.flatten.length) = n + ks.flatten.length + x.length by omega, show r + (ks.length + 1) = r + ks.length + 1 by omega, h1, h2]
    congr 1; omega
theorem endT : ∀ (d : Nat) (A pre post : List Nd) (r n : Nat) (K : Int → Option Int), Tr d A → (pre ++ (A ++ post)).length ≤ 512 → r + A.length ≤ 1000000 → m_ref6_end_L2 (pre ++ (A ++ post)) K (n + A.length) (pre.length : Int) ((r + 1 : Nat) : Int) = m_ref6_end_L2 (pre ++ (A ++ post)) K n ((pre.length + A.length : Nat) : Int) (r : Int)
  | 0, _, _, _, _, _, _, h, _, _ => h.elim
  | d + 1, A, pre, post, r, n, K, ⟨k, m, ks, hA, hf, hks⟩, hl, hr => by
    subst hA
    have hg := flat_ge hks
    have hk := fm_kids hf
    dsimp only at hk
    have h2 := endF (endT d) ks (pre ++ [(k, m, (ks.length : Int))]) post r n K hks (by simpa using hl) (by rw [List.length_cons] at hr; omega)
    simp only [List.append_assoc, List.length_append, List.length_cons, List.length_nil, List.singleton_append, Nat.zero_add] at h2
    simp only [List.length_append, List.length_cons] at hl hr
    rw [List.length_cons, show n + (ks.flatten.length + 1) = n + ks.flatten.length + 1 by omega, m_ref6_end_L2, m_ref6_end_B2, if_pos (by omega), need_pos (by simp; omega)]
    have hgi : gi (pre ++ ((k, m, (ks.length : Int)) :: ks.flatten ++ post)) (pre.length : Int) = (k, m, (ks.length : Int)) := by
      rw [gi_nat (by simp)]
      simp
    rw [hgi]
    dsimp only
    rw [i64_id (x := (ks.length : Int) - 1) (by omega), i64s (by omega), i64_id (by omega), show (((r + 1 : Nat) : Int) + ((ks.length : Int) - 1)) = ((r + ks.length : Nat) : Int) by omega]
    rw [List.cons_append, h2]
    congr 1; omega
theorem wEnd {d : Nat} {A : List Nd} (pre post : List Nd) (h : Tr d A) (hl : (pre ++ (A ++ post)).length ≤ 512) : m_ref6_end (pre ++ (A ++ post)) (pre.length : Int) = some ((pre.length + A.length : Nat) : Int) := by
  have hl' := hl
  simp only [List.length_append] at hl'
  obtain ⟨n, hn⟩ := fuk (A.length + 1) (by omega)
  have := endT d A pre post 0 (n + 1) (fun x => some x) h hl (by omega)
  unfold m_ref6_end
  rw [jn_eq, hn, show n + (A.length + 1) = n + 1 + A.length by omega]
  rw [show ((0 + 1 : Nat) : Int) = 1 from rfl] at this
  rw [this, m_ref6_end_L2, m_ref6_end_B2, if_neg (by omega)]
theorem wPartsL {d : Nat} {t : List Nd} (ht : t.length ≤ 512) {c : Nat} (hc : (gi t 0).2.2 = (c : Int)) (K : List (List Nd) → Option (List (List Nd))) : ∀ (ks : List (List Nd)) (pre : List Nd) (acc : List (List Nd)) (j n : Nat), t = pre ++ ks.flatten → (∀ x ∈ ks, Tr d x) → j + ks.length = c → ks.length < n → 0 < t.length → acc.length ≤ j → c ≤ 9 → m_ref6_parts_L2 t K n acc (pre.length : Int) (j : Int) = K (acc ++ ks)
  | [], pre, acc, j, n, he, _, hj, hn, h0, _, _ => by
    obtain ⟨n, rfl⟩ : ∃ q, n = q + 1 := ⟨n - 1, by omega⟩
    simp only [List.length_nil] at hj
    rw [m_ref6_parts_L2, m_ref6_parts_B2, need_pos (by omega), hc, if_neg (by omega), List.append_nil]
  | x :: ks, pre, acc, j, n, he, hks, hj, hn, h0, ha, hc9 => by
    obtain ⟨n, rfl⟩ : ∃ q, n = q + 1 := ⟨n - 1, by omega⟩
    simp only [List.length_cons] at hj hn
    have hx := hks x List.mem_cons_self
    have he' : t = pre ++ (x ++ ks.flatten) := by rw [he, List.flatten_cons]
    have hE : m_ref6_end t (pre.length : Int) = some ((pre.length + x.length : Nat) : Int) := by
      rw [he']; exact wEnd pre ks.flatten hx (by rw [← he']; exact ht)
    have hlt : t.length = pre.length + (x.length + ks.flatten.length) := by rw [he']; simp
    have hcut : List.take (Int.toNat ((pre.length + x.length : Nat) : Int) - Int.toNat (pre.length : Int)) (List.drop (Int.toNat (pre.length : Int)) t) = x := by
      rw [Int.toNat_natCast, Int.toNat_natCast, he', List.drop_left' rfl, Nat.add_sub_cancel_left, List.take_left' rfl]
    rw [m_ref6_parts_L2, m_ref6_parts_B2, need_pos (by omega), hc, if_pos (by omega), hE, bnd1_mk, need_pos (by omega), hcut, need_pos (by simp; omega), i64s (by omega)]
    have ih := wPartsL ht hc K ks (pre ++ x) (acc ++ [x]) (j + 1) n (by rw [he']; simp) (fun y hy => hks y (List.mem_cons_of_mem _ hy)) (by omega) (by omega) h0 (by simp; omega) hc9
    rw [List.length_append] at ih
    rw [ih]; simp
theorem wParts {d : Nat} {k m : Int} {ks : List (List Nd)} (hks : ∀ x ∈ ks, Tr d x) (hf : fmB (k, m, (ks.length : Int)) = true) (hl : ((k, m, (ks.length : Int)) :: ks.flatten).length ≤ 512) : m_ref6_parts ((k, m, (ks.length : Int)) :: ks.flatten) = some ks := by
  have hk := fm_kids hf
  dsimp only at hk
  have := wPartsL (d := d) hl (c := ks.length) rfl (fun x => some x) ks [(k, m, (ks.length : Int))] [] 0 FU rfl hks (by omega) (by have := FU_ge; omega) (by simp) (by simp) (by omega)
  unfold m_ref6_parts
  rw [jn_eq]
  exact this
end Go.Proofs.YtdfdjgolijckfaaDoor
/- Match, both ways; the law of Match. -/
namespace Go.Proofs.YtdfdjgolijckfaaDoor
attribute [local irreducible] FU
end Go.Proofs.YtdfdjgolijckfaaDoor
/- The law of Match. -/
namespace Go.Proofs.YtdfdjgolijckfaaDoor
attribute [local irreducible] FU
theorem same_loop (l : List Bd) (hl : l.length ≤ 4611686018427387904) (ht : ∀ x ∈ l, x.2.length ≤ 512) (K : Unit → Option Bool) : ∀ (m j n : Nat), j + m = l.length → m < n → m_help_SameTypes_L2 l l K n (j : Int) = K ()
  | 0, j, n, hj, hn => by
    obtain ⟨n, rfl⟩ : ∃ q, n = q + 1 := ⟨n - 1, by omega⟩
    rw [m_help_SameTypes_L2, m_help_SameTypes_B2, if_neg (by omega)]
  | m + 1, j, n, hj, hn => by
    obtain ⟨n, rfl⟩ : ∃ q, n = q + 1 := ⟨n - 1, by omega⟩
    have hjl : j < l.length := by omega
    have hz := ht l[j] (List.getElem_mem hjl)
    rw [m_help_SameTypes_L2, m_help_SameTypes_B2, if_pos (by omega), jn_eq, need_pos (by omega), need_pos (by omega), if_neg (fun h => h rfl), need_pos (by omega), need_pos (by omega), gi_nat hjl, eqNode _ (by omega), bnd1_mk, i64s (by omega)]
    simp only [Bool.not_true, Bool.false_eq_true, ↓reduceIte]
    exact same_loop l hl ht K m (j + 1) n (by omega) (by omega)
theorem vSame (l : List Bd) (hl : l.length ≤ 4611686018427387904) (ht : ∀ x ∈ l, x.2.length ≤ 512) : m_help_SameTypes l l = some true := by
  unfold m_help_SameTypes
  rw [if_neg (fun h => h rfl), jn_eq]
  exact same_loop l hl ht _ l.length 0 FU (by omega) (by have := FU_ge; omega)
theorem sbC_of : ∀ {p : Option Int} {s : List Bd}, SrK s → (∀ x ∈ s, vdB x.2 = true) → (∀ v, p = some v → ∀ x ∈ s, v < x.1) → sbC p s = true
  | p, [], _, _, _ => sbC_nil p
  | p, a :: l, h1, h2, h3 => by
    obtain ⟨p1, p2⟩ := List.pairwise_cons.1 h1
    rw [sbC_cons, h2 a List.mem_cons_self, sbC_of p2 (fun x hx => h2 x (List.mem_cons_of_mem _ hx)) (fun v hv x hx => by cases hv; exact p1 x hx)]
    cases p with
    | none => rfl
    | some v => simp [h3 v rfl a List.mem_cons_self]
theorem fm_congr {f g : Nd → List Nd} : ∀ {l : List Nd}, (∀ n ∈ l, f n = g n) → l.flatMap f = l.flatMap g
  | [], _ => rfl
  | n :: l, h => by rw [List.flatMap_cons, List.flatMap_cons, h n List.mem_cons_self, fm_congr (fun m hm => h m (List.mem_cons_of_mem _ hm))]
end Go.Proofs.YtdfdjgolijckfaaDoor
/- The heap of a type: what Read makes. -/
namespace Go.Proofs.YtdfdjgolijckfaaDoor
attribute [local irreducible] FU
abbrev Hn := Int × Int × (List Int) × Int
/-- A heap as Read makes it: no node is bound, children come first, each variable is one node. -/
structure RInv (H : List Hn) (m : List (Int × Int)) : Prop where
  free : ∀ i (h : i < H.length), H[i].2.2.2 = -1
  kids : ∀ i (h : i < H.length), ∀ k ∈ H[i].2.2.1, 0 ≤ k ∧ k < (i : Int)
  form : ∀ i (h : i < H.length), fmB (H[i].1, H[i].2.1, (H[i].2.2.1.length : Int)) = true
  vars : ∀ i (h : i < H.length), H[i].1 = 1 → lookL m H[i].2.1 = some (i : Int)
  look : ∀ v k, lookL m v = some k → ∃ i : Nat, k = (i : Int) ∧ ∃ h : i < H.length, H[i] = (1, v, [], -1)
  nd : NdK m
/-- The trees that stand for the nodes of a heap. -/
def Sol (H : List Hn) (val : Int → List Nd) : Prop := ∀ i (h : i < H.length),
  if H[i].2.2.2 ≠ -1 then val (i : Int) = val H[i].2.2.2
  else if H[i].1 = 1 then ∃ e, Tr e (val (i : Int))
  else val (i : Int) = (H[i].1, H[i].2.1, (H[i].2.2.1.length : Int)) :: (H[i].2.2.1.map val).flatten
abbrev RR := Int × List Nd × List (Int × Int) × List Hn
/-- The heap has grown; k stands for the type A. -/
structure ROk (A : List Nd) (m m' : List (Int × Int)) (H H' : List Hn) (k : Int) : Prop where
  inv : RInv H' m'
  ext : ∃ T, H' = H ++ T
  keep : ∀ v x, lookL m v = some x → lookL m' v = some x
  idx : 0 ≤ k ∧ k < (H'.length : Int)
  all : ∀ v ∈ vsN A, lookL m' v ≠ none
  keys : ∀ v, lookL m' v ≠ none → lookL m v ≠ none ∨ v ∈ vsN A
  val : ∀ val, Sol H' val → val k = sbt (fun v => val ((lookL m' v).getD (-1))) A
  len : H'.length ≤ H.length + A.length
theorem Sol.pre {H T : List Hn} {val : Int → List Nd} (h : Sol (H ++ T) val) : Sol H val := fun i hi => by
  have := h i (by rw [List.length_append]; omega)
  rw [List.getElem_append_left hi] at this
  exact this
theorem RInv.var {H : List Hn} {m : List (Int × Int)} (h : RInv H m) {v : Int} (hv : fmB (1, v, 0) = true) (hl : lookL m v = none) : RInv (H ++ [(1, v, [], -1)]) (putL m v (H.length : Int)) := by
  have hg : ∀ i (hi : i < (H ++ [((1, v, [], -1) : Hn)]).length), (∃ h' : i < H.length, (H ++ [((1, v, [], -1) : Hn)])[i] = H[i]) ∨ (i = H.length ∧ (H ++ [((1, v, [], -1) : Hn)])[i] = (1, v, [], -1)) := fun i hi => by
    rw [List.length_append, List.length_singleton] at hi
    rcases Nat.lt_or_ge i H.length with h1 | h1
    · exact .inl ⟨h1, List.getElem_append_left h1⟩
    · have : i = H.length := by omega
      subst this
      exact .inr ⟨rfl, by rw [List.getElem_append_right (Nat.le_refl _)]; simp⟩
  refine ⟨fun i hi => ?_, fun i hi => ?_, fun i hi => ?_, fun i hi => ?_, fun w k hk => ?_, putL_nd h.nd _ _⟩
  · rcases hg i hi with ⟨h1, e⟩ | ⟨_, e⟩ <;> rw [e]
    exact h.free i h1
  · rcases hg i hi with ⟨h1, e⟩ | ⟨_, e⟩ <;> rw [e]
    · exact h.kids i h1
    · simp
  · rcases hg i hi with ⟨h1, e⟩ | ⟨_, e⟩ <;> rw [e]
    · exact h.form i h1
    · exact hv
  · rcases hg i hi with ⟨h1, e⟩ | ⟨h1, e⟩ <;> rw [e]
    · intro h2
      have h3 := h.vars i h1 h2
      rw [lookL_put, if_neg (fun e2 => by rw [← e2, hl] at h3; cases h3)]; exact h3
    · intro _
      rw [lookL_put, if_pos rfl, h1]
  · rw [lookL_put] at hk
    by_cases e : v = w
    · rw [if_pos e] at hk
      subst e
      exact ⟨H.length, (Option.some.inj hk).symm, by simp, by simp⟩
    · rw [if_neg e] at hk
      obtain ⟨i, h1, h2, h3⟩ := h.look w k hk
      exact ⟨i, h1, by rw [List.length_append]; omega, by rw [List.getElem_append_left h2]; exact h3⟩
theorem RInv.node {H : List Hn} {m : List (Int × Int)} (h : RInv H m) {k mm : Int} {ks : List Int} (hf : fmB (k, mm, (ks.length : Int)) = true) (hk : ¬ k = 1) (hks : ∀ x ∈ ks, 0 ≤ x ∧ x < (H.length : Int)) : RInv (H ++ [(k, mm, ks, -1)]) m := by
  have hg : ∀ i (hi : i < (H ++ [((k, mm, ks, -1) : Hn)]).length), (∃ h' : i < H.length, (H ++ [((k, mm, ks, -1) : Hn)])[i] = H[i]) ∨ (i = H.length ∧ (H ++ [((k, mm, ks, -1) : Hn)])[i] = (k, mm, ks, -1)) := fun i hi => by
    rw [List.length_append, List.length_singleton] at hi
    rcases Nat.lt_or_ge i H.length with h1 | h1
    · exact .inl ⟨h1, List.getElem_append_left h1⟩
    · have : i = H.length := by omega
      subst this
      exact .inr ⟨rfl, by rw [List.getElem_append_right (Nat.le_refl _)]; simp⟩
  refine ⟨fun i hi => ?_, fun i hi => ?_, fun i hi => ?_, fun i hi => ?_, fun w j hj => ?_, h.nd⟩
  · rcases hg i hi with ⟨h1, e⟩ | ⟨_, e⟩ <;> rw [e]
    exact h.free i h1
  · rcases hg i hi with ⟨h1, e⟩ | ⟨h1, e⟩ <;> rw [e]
    · exact h.kids i h1
    · rw [h1]; exact hks
  · rcases hg i hi with ⟨h1, e⟩ | ⟨_, e⟩ <;> rw [e]
    · exact h.form i h1
    · exact hf
  · rcases hg i hi with ⟨h1, e⟩ | ⟨h1, e⟩ <;> rw [e]
    · exact h.vars i h1
    · intro h2; exact absurd h2 hk
  · obtain ⟨i, h1, h2, h3⟩ := h.look w j hj
    exact ⟨i, h1, by rw [List.length_append]; omega, by rw [List.getElem_append_left h2]; exact h3⟩
theorem sbt_look {val : Int → List Nd} {m m' : List (Int × Int)} (hk : ∀ v x, lookL m v = some x → lookL m' v = some x) {A : List Nd} (ha : ∀ v ∈ vsN A, lookL m v ≠ none) : sbt (fun v => val ((lookL m v).getD (-1))) A = sbt (fun v => val ((lookL m' v).getD (-1))) A := by
  refine fm_congr (fun n hn => ?_)
  unfold asg
  by_cases h1 : n.1 = 1
  · rw [if_pos h1, if_pos h1]
    dsimp only
    cases hx : lookL m n.2.1 with
    | none => exact absurd hx (ha _ (vs_of_mem hn h1))
    | some x => rw [hk _ _ hx]
  · rw [if_neg h1, if_neg h1]
/-- The children, read one by one. -/
structure RsOk (As : List (List Nd)) (m m' : List (Int × Int)) (H H' : List Hn) (ks : List Int) : Prop where
  inv : RInv H' m'
  ext : ∃ T, H' = H ++ T
  keep : ∀ v x, lookL m v = some x → lookL m' v = some x
  idx : ∀ k ∈ ks, 0 ≤ k ∧ k < (H'.length : Int)
  cnt : ks.length = As.length
  all : ∀ v ∈ vsN As.flatten, lookL m' v ≠ none
  keys : ∀ v, lookL m' v ≠ none → lookL m v ≠ none ∨ v ∈ vsN As.flatten
  val : ∀ val, Sol H' val → (ks.map val).flatten = sbt (fun v => val ((lookL m' v).getD (-1))) As.flatten
  len : H'.length ≤ H.length + As.flatten.length
theorem readL {self : List (Int × Int) → List Nd → List Hn → Option RR} {d : Nat} {a1 : List Nd} {c : Nat} (hc : (gi a1 0).2.2 = (c : Int)) (hc9 : c ≤ 9)
    (hself : ∀ (A ra : List Nd) (m : List (Int × Int)) (H : List Hn), Tr d A → RInv H m → ∃ k m' H', self m (A ++ ra) H = some (k, ra, m', H') ∧ ROk A m m' H H' k) (K : List Hn → List (Int × Int) → List Nd → List Int → Option RR) :
    ∀ (As : List (List Nd)) (j n : Nat) (ra : List Nd) (m : List (Int × Int)) (H : List Hn) (acc : List Int), (∀ x ∈ As, Tr d x) → j + As.length = c → As.length < n → acc.length ≤ j → RInv H m →
      ∃ ks m' H', m_terms_Reader_Read_L2 self a1 K n H m (As.flatten ++ ra) acc (j : Int) = K H' m' ra (acc ++ ks) ∧ RsOk As m m' H H' ks
  | [], j, n, ra, m, H, acc, _, hj, hn, _, hm => by
    obtain ⟨n, rfl⟩ : ∃ q, n = q + 1 := ⟨n - 1, by omega⟩
    simp only [List.length_nil] at hj
    refine ⟨[], m, H, by rw [m_terms_Reader_Read_L2, m_terms_Reader_Read_B2, hc, if_neg (by omega)]; simp, ⟨hm, ⟨[], by simp⟩, fun _ _ h => h, by simp, rfl, (fun _ h => by cases h), (fun _ h => .inl h), (fun _ _ => rfl), by simp⟩⟩
  | A :: As, j, n, ra, m, H, acc, hAs, hj, hn, ha, hm => by
    obtain ⟨n, rfl⟩ : ∃ q, n = q + 1 := ⟨n - 1, by omega⟩
    simp only [List.length_cons] at hj hn
    obtain ⟨k, m1, H1, e1, r1⟩ := hself A (As.flatten ++ ra) m H (hAs A List.mem_cons_self) hm
    obtain ⟨ks, m2, H2, e2, r2⟩ := readL hc hc9 hself K As (j + 1) n ra m1 H1 (acc ++ [k]) (fun x hx => hAs x (List.mem_cons_of_mem _ hx)) (by omega) (by omega) (by simp; omega) r1.inv
    rw [List.flatten_cons, List.append_assoc, m_terms_Reader_Read_L2, m_terms_Reader_Read_B2, hc, if_pos (by omega), e1, bnd1_mk, need_pos (by simp; omega), i64s (by omega), e2]
    obtain ⟨T1, t1⟩ := r1.ext
    obtain ⟨T2, t2⟩ := r2.ext
    have hle : H1.length ≤ H2.length := by rw [t2, List.length_append]; omega
    refine ⟨k :: ks, m2, H2, by rw [List.append_assoc]; rfl, ⟨r2.inv, ⟨T1 ++ T2, by rw [t2, t1, List.append_assoc]⟩, fun v x h => r2.keep v x (r1.keep v x h), fun x hx => ?_, by simp [r2.cnt], fun v hv => ?_, fun v hv => ?_, fun val hS => ?_, ?_⟩⟩
    · rcases List.mem_cons.1 hx with rfl | hx
      · have := r1.idx; omega
      · exact r2.idx x hx
    · rw [List.flatten_cons, vsN_app, List.mem_append] at hv
      rcases hv with hv | hv
      · have := r1.all v hv
        cases hz : lookL m1 v with
        | none => exact absurd hz this
        | some z => rw [r2.keep v z hz]; simp
      · exact r2.all v hv
    · rw [List.flatten_cons, vsN_app, List.mem_append]
      rcases r2.keys v hv with h | h
      · rcases r1.keys v h with h | h
        · exact .inl h
        · exact .inr (.inl h)
      · exact .inr (.inr h)
    · have hS1 : Sol H1 val := by rw [t2] at hS; exact hS.pre
      rw [List.map_cons, List.flatten_cons, r2.val val hS, r1.val val hS1, sbt_look r2.keep r1.all, List.flatten_cons]
      exact List.flatMap_append.symm
    · have := r1.len; have := r2.len; rw [List.flatten_cons, List.length_append]; omega
theorem vReadT : ∀ (d n : Nat), d < n → ∀ (A ra : List Nd) (m : List (Int × Int)) (H : List Hn), Tr d A → RInv H m → ∃ k m' H', m_terms_Reader_Read_S n m (A ++ ra) H = some (k, ra, m', H') ∧ ROk A m m' H H' k
  | _, 0, h, _, _, _, _, _, _ => by omega
  | 0, n + 1, _, _, _, _, _, h, _ => h.elim
  | d + 1, n + 1, hn, A, ra, m, H, ⟨k, mm, As, hA, hf, hAs⟩, hm => by
    subst hA
    have g0 : gi ((k, mm, (As.length : Int)) :: As.flatten ++ ra) 0 = (k, mm, (As.length : Int)) := rfl
    have hd1 : List.drop (Int.toNat 1) ((k, mm, (As.length : Int)) :: As.flatten ++ ra) = As.flatten ++ ra := rfl
    have hk9 := fm_kids hf
    dsimp only at hk9
    rw [m_terms_Reader_Read_S, m_terms_Reader_Read_F, need_pos (by simp; omega), need_pos (by simp; omega), g0, hd1]
    dsimp only
    by_cases hk : k = 1
    · subst hk
      have hl0 := (var_kids hf rfl).1
      dsimp only at hl0
      obtain rfl := List.eq_nil_of_length_eq_zero (show As.length = 0 by omega)
      rw [if_pos rfl, jn_eq]
      have hsb : ∀ σ : Int → List Nd, sbt σ (((1 : Int), mm, ((([] : List (List Nd)).length : Nat) : Int)) :: ([] : List (List Nd)).flatten) = σ mm := fun σ => by simp [sbt, asg]
      have hvs : vsN (((1 : Int), mm, ((([] : List (List Nd)).length : Nat) : Int)) :: ([] : List (List Nd)).flatten) = [mm] := by simp [vsN]
      cases hx : lookL m mm with
      | none =>
        have hl : lookL (putL m mm (H.length : Int)) mm = some (H.length : Int) := by rw [lookL_put, if_pos rfl]
        rw [Option.getD_none, if_pos rfl]
        dsimp only
        rw [hl]
        refine ⟨_, _, _, rfl, ⟨hm.var hf hx, ⟨_, rfl⟩, fun v x h => ?_, ⟨by simp, by simp; omega⟩, fun v hv => ?_, fun v hv => ?_, fun val _ => ?_, by simp⟩⟩
        · rw [lookL_put]
          by_cases e : mm = v
          · subst e; rw [hx] at h; cases h
          · rw [if_neg e]; exact h
        · rw [hvs, List.mem_singleton] at hv
          rw [hv, hl]; simp
        · rw [lookL_put] at hv
          by_cases e : mm = v
          · right; rw [hvs, e]; exact List.mem_singleton.2 rfl
          · rw [if_neg e] at hv; exact .inl hv
        · rw [hsb, hl]
          try rfl
      | some x =>
        obtain ⟨i, h1, h2, h3⟩ := hm.look mm x hx
        rw [Option.getD_some, if_neg (by omega)]
        dsimp only
        rw [hx]
        refine ⟨_, _, _, rfl, ⟨hm, ⟨[], by simp⟩, fun _ _ h => h, ⟨by simp; omega, by simp; omega⟩, fun v hv => ?_, fun v hv => .inl hv, fun val _ => ?_, by omega⟩⟩
        · rw [hvs, List.mem_singleton] at hv
          rw [hv, hx]; simp
        · rw [hsb, hx]
    · rw [if_neg hk, jn_eq, show (0 : Int) = ((0 : Nat) : Int) from rfl]
      obtain ⟨ks, m2, H2, e2, r2⟩ := readL (self := m_terms_Reader_Read_S n) (d := d) (a1 := (k, mm, (As.length : Int)) :: As.flatten ++ ra) (c := As.length) rfl (by omega)
        (fun A ra m H hA hm => vReadT d n (by omega) A ra m H hA hm) (fun xH x0 x1 x7 => some ((List.length xH : Int), x1, x0, (xH ++ [(k, mm, x7, -1)]))) As 0 FU ra m H [] hAs (by omega) (by have := FU_ge; omega) (by simp) hm
      rw [e2, List.nil_append]
      obtain ⟨T, hT⟩ := r2.ext
      have hvs : vsN ((k, mm, (As.length : Int)) :: As.flatten) = vsN As.flatten := by rw [vsN, if_neg hk]
      refine ⟨_, _, _, rfl, ⟨r2.inv.node (by rw [r2.cnt]; exact hf) hk r2.idx, ⟨T ++ [(k, mm, ks, -1)], by rw [hT, List.append_assoc]⟩, r2.keep, ⟨by omega, by simp; omega⟩, fun v hv => ?_, fun v hv => ?_, fun val hS => ?_, ?_⟩⟩
      · rw [hvs] at hv; exact r2.all v hv
      · rw [hvs]; exact r2.keys v hv
      · have h5 := hS H2.length (by simp)
        rw [List.getElem_append_right (Nat.le_refl _)] at h5
        simp only [Nat.sub_self, List.getElem_cons_zero, ne_eq, not_true_eq_false, ↓reduceIte, if_neg hk] at h5
        rw [h5, r2.val val hS.pre, r2.cnt, sbt_cons, asg_not _ hk]; rfl
      · have := r2.len; simp only [List.length_append, List.length_cons, List.length_nil]; omega
theorem rinv_nil : RInv [] [] := ⟨by simp, by simp, by simp, by simp, (fun _ _ h => by cases h), by simp [NdK]⟩
end Go.Proofs.YtdfdjgolijckfaaDoor
/- Heaps with bound variables: Find. -/
namespace Go.Proofs.YtdfdjgolijckfaaDoor
attribute [local irreducible] FU
/-- An order of the nodes: what a node leads to comes lower. -/
def Rk (H : List Hn) (rk : Int → Nat) : Prop := ∀ i (h : i < H.length), (H[i].2.2.2 ≠ -1 → rk H[i].2.2.2 < rk (i : Int)) ∧ (H[i].2.2.2 = -1 → ∀ k ∈ H[i].2.2.1, rk k < rk (i : Int))
structure HInv (H : List Hn) : Prop where
  bnd : ∀ i (h : i < H.length), H[i].2.2.2 = -1 ∨ (0 ≤ H[i].2.2.2 ∧ H[i].2.2.2 < (H.length : Int) ∧ (H[i].1 = 1 ∨ (gi H H[i].2.2.2).1 ≠ 1))
  kids : ∀ i (h : i < H.length), ∀ k ∈ H[i].2.2.1, 0 ≤ k ∧ k < (H.length : Int)
  form : ∀ i (h : i < H.length), fmB (H[i].1, H[i].2.1, (H[i].2.2.1.length : Int)) = true
  acyc : ∃ rk, Rk H rk
theorem RInv.hinv {H : List Hn} {m : List (Int × Int)} (h : RInv H m) : HInv H :=
  ⟨fun i hi => .inl (h.free i hi), fun i hi k hk => by have := h.kids i hi k hk; omega, h.form, ⟨fun i => i.toNat, fun i hi => ⟨fun hn => absurd (h.free i hi) hn, fun _ k hk => by have := h.kids i hi k hk; dsimp only; omega⟩⟩⟩
/-- A rank that is at most the number of nodes. -/
theorem rank_small {H : List Hn} (h : HInv H) : ∃ rk, Rk H rk ∧ ∀ x, rk x ≤ H.length := by
  obtain ⟨rk, hr⟩ := h.acyc
  have hlt : ∀ x y : Int, (0 ≤ y ∧ y < (H.length : Int)) → rk y < rk x → (List.range H.length).countP (fun j : Nat => decide (rk (j : Int) < rk y)) < (List.range H.length).countP (fun j : Nat => decide (rk (j : Int) < rk x)) := fun x y hy hxy => by
    have hmem : y.toNat ∈ List.range H.length := by rw [List.mem_range]; omega
    obtain ⟨a, b, hab⟩ := List.append_of_mem hmem
    rw [hab, List.countP_append, List.countP_append, List.countP_cons, List.countP_cons]
    have e : ((y.toNat : Nat) : Int) = y := by omega
    have h1 : ∀ l : List Nat, l.countP (fun j : Nat => decide (rk (j : Int) < rk y)) ≤ l.countP (fun j : Nat => decide (rk (j : Int) < rk x)) := fun l => List.countP_mono_left (fun j _ hj => by
      have := of_decide_eq_true hj
      exact decide_eq_true (by omega))
    have := h1 a
    have := h1 b
    rw [e, if_neg (by simp), if_pos (decide_eq_true hxy)]
    omega
  refine ⟨fun x => (List.range H.length).countP (fun j : Nat => decide (rk (j : Int) < rk x)), fun i hi => ⟨fun hn => ?_, fun hu k hk => ?_⟩, fun x => ?_⟩
  · rcases h.bnd i hi with h1 | h1
    · exact absurd h1 hn
    · exact hlt _ _ ⟨h1.1, h1.2.1⟩ ((hr i hi).1 hn)
  · exact hlt _ _ (h.kids i hi k hk) ((hr i hi).2 hu k hk)
  · have := List.countP_le_length (p := fun j => decide (rk ((j : Nat) : Int) < rk x)) (l := List.range H.length)
    rw [List.length_range] at this
    exact this
theorem findL {H : List Hn} (hi : HInv H) {rk : Int → Nat} (hr : Rk H rk) (K : Int → Option (Int × List Hn)) : ∀ (n : Nat) (x : Int), rk x < n → 0 ≤ x → x < (H.length : Int) →
    ∃ y : Nat, m_terms_Term_Find_L2 H K n x = K (y : Int) ∧ ∃ hy : y < H.length, H[y].2.2.2 = -1 ∧ (∀ val, Sol H val → val x = val (y : Int)) ∧ rk (y : Int) ≤ rk x
  | 0, x, h, _, _ => by omega
  | n + 1, x, hn, h0, h1 => by
    obtain ⟨i, rfl⟩ : ∃ i : Nat, x = (i : Int) := ⟨x.toNat, by omega⟩
    have hil : i < H.length := by omega
    rw [m_terms_Term_Find_L2, m_terms_Term_Find_B2, need_pos (by omega), gi_nat hil]
    by_cases hb : H[i].2.2.2 = -1
    · rw [if_neg (fun h => h hb)]
      exact ⟨i, rfl, hil, hb, fun _ _ => rfl, Nat.le_refl _⟩
    · rw [if_pos hb, need_pos (by omega)]
      rcases hi.bnd i hil with h2 | ⟨h2, h3, _⟩
      · exact absurd h2 hb
      · have hlt := (hr i hil).1 hb
        obtain ⟨y, e1, hy, e2, e3, e4⟩ := findL hi hr K n H[i].2.2.2 (by omega) h2 h3
        refine ⟨y, e1, hy, e2, fun val hS => ?_, by omega⟩
        have h5 := hS i hil
        rw [if_pos hb] at h5
        rw [h5, e3 val hS]
/-- What Find answers. -/
theorem vFind {H : List Hn} (hi : HInv H) (hl : H.length ≤ 1000000) {rk : Int → Nat} (hr : Rk H rk) (hb : ∀ x, rk x ≤ H.length) {x : Int} (h0 : 0 ≤ x) (h1 : x < (H.length : Int)) :
    ∃ y : Nat, m_terms_Term_Find x H = some ((y : Int), H) ∧ ∃ hy : y < H.length, H[y].2.2.2 = -1 ∧ (∀ val, Sol H val → val x = val (y : Int)) ∧ rk (y : Int) ≤ rk x := by
  obtain ⟨y, e1, h⟩ := findL hi hr (fun z => some (z, H)) FU x (by have := hb x; have := FU_ge; omega) h0 h1
  exact ⟨y, by unfold m_terms_Term_Find; rw [jn_eq]; exact e1, h⟩
/-- Every assignment of trees to the variables solves a heap as Read makes it. -/
theorem sol_ex {σ : Int → List Nd} (hσ : TrS σ) : ∀ (n : Nat) (H : List Hn), H.length = n → (∀ i (h : i < H.length), H[i].2.2.2 = -1) → (∀ i (h : i < H.length), ∀ k ∈ H[i].2.2.1, 0 ≤ k ∧ k < (i : Int)) → ∃ val, Sol H val ∧ ∀ i (h : i < H.length), H[i].1 = 1 → val (i : Int) = σ H[i].2.1
  | 0, H, hl, _, _ => by
    obtain rfl := List.eq_nil_of_length_eq_zero hl
    exact ⟨fun _ => [], fun i hi => by simp at hi, fun i hi => by simp at hi⟩
  | n + 1, H, hl, hf, hk => by
    obtain ⟨G, x, rfl⟩ : ∃ G x, H = G ++ [x] := by
      rcases List.eq_nil_or_concat H with rfl | ⟨G, x, h⟩
      · simp at hl
      · exact ⟨G, x, by rw [h, List.concat_eq_append]⟩
    have hG : G.length = n := by simpa using hl
    have hgi : ∀ i (h : i < G.length), (G ++ [x])[i]'(by rw [List.length_append]; omega) = G[i] := fun i h => List.getElem_append_left h
    have hgx : (G ++ [x])[G.length]'(by simp) = x := by rw [List.getElem_append_right (Nat.le_refl _)]; simp
    obtain ⟨val, h1, h2⟩ := sol_ex hσ n G hG (fun i h => by rw [← hgi i h]; exact hf i _) (fun i h k hkk => hk i (by rw [List.length_append]; omega) k (by rw [hgi i h]; exact hkk))
    have hx0 : x.2.2.2 = -1 := by rw [← hgx]; exact hf _ _
    have hxk : ∀ k ∈ x.2.2.1, 0 ≤ k ∧ k < (G.length : Int) := fun k hkk => hk G.length (by simp) k (by rw [hgx]; exact hkk)
    let w : List Nd := if x.1 = 1 then σ x.2.1 else (x.1, x.2.1, (x.2.2.1.length : Int)) :: (x.2.2.1.map val).flatten
    have hold : ∀ k : Int, k ≠ (G.length : Int) → (fun k : Int => if k = (G.length : Int) then w else val k) k = val k := fun k hne => if_neg hne
    have hmap : ∀ l : List Int, (∀ k ∈ l, k ≠ (G.length : Int)) → l.map (fun k : Int => if k = (G.length : Int) then w else val k) = l.map val := fun l hl => List.map_congr_left (fun k hkk => hold k (hl k hkk))
    refine ⟨fun k => if k = (G.length : Int) then w else val k, fun i hi => ?_, fun i hi hv => ?_⟩
    · rw [hf i hi, if_neg (by simp)]
      rcases Nat.lt_or_ge i G.length with h3 | h3
      · have h4 := h1 i h3
        have h5 : G[i].2.2.2 = -1 := by rw [← hgi i h3]; exact hf i hi
        rw [h5, if_neg (by simp)] at h4
        rw [hgi i h3, hold _ (by omega), hmap _ (fun k hkk => by have := hk i hi k (by rw [hgi i h3]; exact hkk); omega)]
        exact h4
      · obtain rfl : i = G.length := by rw [List.length_append, List.length_singleton] at hi; omega
        rw [hgx, hmap _ (fun k hkk => by have := hxk k hkk; omega)]
        dsimp only
        rw [if_pos rfl]
        by_cases hx1 : x.1 = 1
        · rw [if_pos hx1]
          show ∃ e, Tr e (if x.1 = 1 then σ x.2.1 else _)
          rw [if_pos hx1]; exact hσ _
        · rw [if_neg hx1]
          show (if x.1 = 1 then σ x.2.1 else _) = _
          rw [if_neg hx1]
    · rcases Nat.lt_or_ge i G.length with h3 | h3
      · rw [hgi i h3] at hv ⊢
        dsimp only
        rw [if_neg (by omega)]
        exact h2 i h3 hv
      · obtain rfl : i = G.length := by rw [List.length_append, List.length_singleton] at hi; omega
        rw [hgx] at hv ⊢
        dsimp only
        rw [if_pos rfl]
        show (if x.1 = 1 then σ x.2.1 else _) = _
        rw [if_pos hv]
end Go.Proofs.YtdfdjgolijckfaaDoor
/- Occurs: what it answers. -/
namespace Go.Proofs.YtdfdjgolijckfaaDoor
attribute [local irreducible] FU
/-- y is the unbound node to which x leads. -/
def Root (H : List Hn) (x : Int) (y : Nat) : Prop := m_terms_Term_Find x H = some ((y : Int), H)
/-- v is met below x. -/
inductive Reach (H : List Hn) (v : Nat) : Int → Prop
  | here {x : Int} (h : Root H x v) : Reach H v x
  | step {x : Int} {y : Nat} {k : Int} (h : Root H x y) (hy : y < H.length) (hk : k ∈ (gi H (y : Int)).2.2.1) (hr : Reach H v k) : Reach H v x
theorem Root.det {H : List Hn} {x : Int} {y z : Nat} (h : Root H x y) (h' : Root H x z) : y = z := by
  unfold Root at h h'
  rw [h] at h'
  have := congrArg Prod.fst (Option.some.inj h')
  dsimp only at this; omega
theorem flat_mem_len {val : Int → List Nd} : ∀ {ks : List Int} {k : Int}, k ∈ ks → (val k).length ≤ (ks.map val).flatten.length
  | a :: ks, k, h => by
    rw [List.map_cons, List.flatten_cons, List.length_append]
    rcases List.mem_cons.1 h with rfl | h
    · omega
    · have := flat_mem_len (val := val) h; omega
/-- What is met below is shorter. -/
theorem reach_len {H : List Hn} (hi : HInv H) (hl : H.length ≤ 1000000) {rk : Int → Nat} (hr : Rk H rk) (hb : ∀ x, rk x ≤ H.length) {v : Nat} {val : Int → List Nd} (hS : Sol H val) {x : Int} (h : Reach H v x) :
    0 ≤ x → x < (H.length : Int) → (val (v : Int)).length ≤ (val x).length ∧ (¬ Root H x v → (val (v : Int)).length < (val x).length) := by
  induction h with
  | here h =>
    intro h0 h1
    obtain ⟨y, e, hy, _, e3, _⟩ := vFind hi hl hr hb h0 h1
    have := Root.det h e
    subst this
    rw [e3 val hS]
    exact ⟨Nat.le_refl _, fun hn => absurd h hn⟩
  | @step x y k h hy hk _ ih =>
    intro h0 h1
    obtain ⟨y', e, hy', e2, e3, _⟩ := vFind hi hl hr hb h0 h1
    have := Root.det h e
    subst this
    rw [gi_nat hy] at hk
    have hkr := hi.kids y hy k hk
    have h2 := (ih hkr.1 hkr.2).1
    have h3 := hS y hy
    rw [e2, if_neg (by simp)] at h3
    have hne : ¬ H[y].1 = 1 := fun hv => by
      have hf := hi.form y hy
      have h4 := (var_kids hf hv).1
      dsimp only at h4
      rw [List.eq_nil_of_length_eq_zero (by omega : H[y].2.2.1.length = 0)] at hk
      cases hk
    rw [if_neg hne] at h3
    have h5 := flat_mem_len (val := val) hk
    have h6 : (val x).length = (H[y].2.2.1.map val).flatten.length + 1 := by rw [e3 val hS, h3, List.length_cons]
    exact ⟨by omega, fun _ => by omega⟩
end Go.Proofs.YtdfdjgolijckfaaDoor
/- Occurs: the search. -/
namespace Go.Proofs.YtdfdjgolijckfaaDoor
attribute [local irreducible] FU
def Mk (s : List (Int × Bool)) (y : Nat) : Prop := Option.getD (lookL s (y : Int)) false = true
/-- The search below t has met nothing: what it has marked is closed. -/
structure Cl (H : List Hn) (v : Nat) (s s' : List (Int × Bool)) : Prop where
  mono : ∀ y, Mk s y → Mk s' y
  clo : ∀ y, Mk s' y → Mk s y ∨ (y ≠ v ∧ y < H.length ∧ ∀ k ∈ (gi H (y : Int)).2.2.1, ∃ z, Root H k z ∧ Mk s' z)
def OccA (H : List Hn) (v : Nat) (t : Int) (s : List (Int × Bool)) (o : Option (Bool × List (Int × Bool) × List Hn)) : Prop :=
  ∃ b s', o = some (b, s', H) ∧ (b = true → Reach H v t) ∧ (b = false → Cl H v s s' ∧ ∃ z, Root H t z ∧ Mk s' z)
theorem Cl.trans {H : List Hn} {v : Nat} {a b c : List (Int × Bool)} (h : Cl H v a b) (k : Cl H v b c) : Cl H v a c :=
  ⟨fun y hy => k.mono y (h.mono y hy), fun y hy => by
    rcases k.clo y hy with h1 | h1
    · rcases h.clo y h1 with h2 | ⟨h2, h3, h4⟩
      · exact .inl h2
      · exact .inr ⟨h2, h3, fun x hx => by obtain ⟨z, z1, z2⟩ := h4 x hx; exact ⟨z, z1, k.mono z z2⟩⟩
    · exact .inr h1⟩
theorem occK_ok {H : List Hn} {v : Nat} {self : Int → Int → List (Int × Bool) → List Hn → Option (Bool × List (Int × Bool) × List Hn)} : ∀ (ks : List Int) (s : List (Int × Bool)), (∀ k ∈ ks, ∀ s, OccA H v k s (self (v : Int) k s H)) →
    ∃ b s', m_occK self (v : Int) ks s H = some (b, s', H) ∧ (b = true → ∃ k ∈ ks, Reach H v k) ∧ (b = false → Cl H v s s' ∧ ∀ k ∈ ks, ∃ z, Root H k z ∧ Mk s' z)
  | [], s, _ => ⟨false, s, rfl, (fun h => by cases h), fun _ => ⟨⟨fun _ h => h, fun _ h => .inl h⟩, by simp⟩⟩
  | k :: ks, s, h => by
    obtain ⟨b, s1, e1, h1, h2⟩ := h k List.mem_cons_self s
    rw [m_occK, e1, bnd1_mk]
    cases b with
    | true => exact ⟨true, s1, by rw [if_pos rfl], fun _ => ⟨k, List.mem_cons_self, h1 rfl⟩, (fun h => by cases h)⟩
    | false =>
      obtain ⟨c1, z, z1, z2⟩ := h2 rfl
      obtain ⟨b, s2, e2, g1, g2⟩ := occK_ok ks s1 (fun x hx => h x (List.mem_cons_of_mem _ hx))
      refine ⟨b, s2, by rw [if_neg (by simp)]; exact e2, fun hb => ?_, fun hb => ?_⟩
      · obtain ⟨x, x1, x2⟩ := g1 hb
        exact ⟨x, List.mem_cons_of_mem _ x1, x2⟩
      · obtain ⟨c2, hall⟩ := g2 hb
        refine ⟨c1.trans c2, fun x hx => ?_⟩
        rcases List.mem_cons.1 hx with rfl | hx
        · exact ⟨z, z1, c2.mono z z2⟩
        · exact hall x hx
theorem mk_put {s : List (Int × Bool)} {y z : Nat} : Mk (putL s (y : Int) true) z ↔ z = y ∨ Mk s z := by
  unfold Mk
  rw [lookL_put]
  by_cases e : y = z
  · subst e; simp
  · rw [if_neg (by omega)]
    constructor
    · exact .inr
    · rintro (h | h)
      · exact absurd h.symm e
      · exact h
theorem occ_ok {H : List Hn} (hi : HInv H) (hl : H.length ≤ 1000000) {rk : Int → Nat} (hr : Rk H rk) (hb : ∀ x, rk x ≤ H.length) {v : Nat} : ∀ (n : Nat) (t : Int) (s : List (Int × Bool)), rk t < n → 0 ≤ t → t < (H.length : Int) → OccA H v t s (m_occS m_terms_Term_Find n (v : Int) t s H)
  | 0, _, _, h, _, _ => by omega
  | n + 1, t, s, hn, h0, h1 => by
    obtain ⟨y, e1, hy, e2, e3, e4⟩ := vFind hi hl hr hb h0 h1
    rw [m_occS, m_occF, e1, bnd1_mk]
    dsimp only
    by_cases hv : (y : Int) = (v : Int)
    · rw [if_pos hv]
      obtain rfl : y = v := by omega
      exact ⟨true, s, rfl, fun _ => .here e1, (fun h => by cases h)⟩
    · rw [if_neg hv, need_pos (by omega)]
      by_cases hm : Option.getD (lookL s (y : Int)) false = true
      · rw [if_pos hm]
        exact ⟨false, s, rfl, (fun h => by cases h), fun _ => ⟨⟨fun _ h => h, fun _ h => .inl h⟩, y, e1, hm⟩⟩
      · rw [if_neg hm]
        have hkl := fm_kids (hi.form y hy)
        dsimp only at hkl
        have hg : gi H (y : Int) = H[y] := gi_nat hy
        rw [hg, need_pos (by omega)]
        obtain ⟨b, s', f1, f2, f3⟩ := occK_ok (v := v) (self := m_occS m_terms_Term_Find n) H[y].2.2.1 (putL s (y : Int) true) (fun k hk s => by
          have h5 := hi.kids y hy k hk
          have h6 := (hr y hy).2 e2 k hk
          exact occ_ok hi hl hr hb n k s (by omega) h5.1 h5.2)
        refine ⟨b, s', f1, fun h => ?_, fun h => ?_⟩
        · obtain ⟨k, k1, k2⟩ := f2 h
          exact .step e1 hy (by rw [hg]; exact k1) k2
        · obtain ⟨c, hall⟩ := f3 h
          refine ⟨⟨fun z hz => c.mono z (mk_put.2 (.inr hz)), fun z hz => ?_⟩, y, e1, c.mono y (mk_put.2 (.inl rfl))⟩
          rcases c.clo z hz with h7 | h7
          · rcases mk_put.1 h7 with rfl | h8
            · exact .inr ⟨by omega, hy, by rw [hg]; exact hall⟩
            · exact .inl h8
          · exact .inr h7
end Go.Proofs.YtdfdjgolijckfaaDoor
/- After a search that has met nothing: a variable may be bound. -/
namespace Go.Proofs.YtdfdjgolijckfaaDoor
attribute [local irreducible] FU
/-- From a closed set that lacks v nothing leads to v. -/
theorem cl_noreach {H : List Hn} {v : Nat} {s : List (Int × Bool)} (h : ∀ y, Mk s y → y ≠ v ∧ y < H.length ∧ ∀ k ∈ (gi H (y : Int)).2.2.1, ∃ z, Root H k z ∧ Mk s z) {t : Int} (hr : Reach H v t) : ∀ z, Root H t z → ¬ Mk s z := by
  induction hr with
  | here h1 =>
    intro z hz hm
    exact (h z hm).1 (Root.det hz h1)
  | step h1 hy hk _ ih =>
    intro z hz hm
    have := Root.det hz h1
    subst this
    obtain ⟨w, w1, w2⟩ := (h _ hm).2.2 _ hk
    exact ih w w1 w2
theorem occ_top {H : List Hn} (hi : HInv H) (hl : H.length ≤ 1000000) {rk : Int → Nat} (hr : Rk H rk) (hb : ∀ x, rk x ≤ H.length) {v : Nat} {t : Int} (h0 : 0 ≤ t) (h1 : t < (H.length : Int)) :
    ∃ b s', m_occ m_terms_Term_Find (v : Int) t [] H = some (b, s', H) ∧ (b = true ↔ Reach H v t) := by
  obtain ⟨b, s', e, h2, h3⟩ := occ_ok hi hl hr hb (v := v) FU t [] (by have := hb t; have := FU_ge; omega) h0 h1
  refine ⟨b, s', e, h2, fun hR => ?_⟩
  cases hbb : b with
  | true => rfl
  | false =>
    obtain ⟨c, z, z1, z2⟩ := h3 hbb
    exact absurd z2 (cl_noreach (fun y hy => (c.clo y hy).resolve_left (fun h => by simp [Mk, lookL] at h)) hR z z1)
end Go.Proofs.YtdfdjgolijckfaaDoor
/- Binding a variable. -/
namespace Go.Proofs.YtdfdjgolijckfaaDoor
attribute [local irreducible] FU
/-- The heap with node a bound to b. -/
def bdH (H : List Hn) (a : Nat) (b : Int) : List Hn := H.set a ((gi H (a : Int)).1, (gi H (a : Int)).2.1, (gi H (a : Int)).2.2.1, b)
theorem bnd_len (H : List Hn) (a : Nat) (b : Int) : (bdH H a b).length = H.length := by unfold bdH; rw [List.length_set]
theorem bnd_get {H : List Hn} {a : Nat} {b : Int} {i : Nat} (h : i < H.length) : (bdH H a b)[i]'(by rw [bnd_len]; exact h) = if i = a then (H[i].1, H[i].2.1, H[i].2.2.1, b) else H[i] := by
  unfold bdH
  rw [List.getElem_set]
  by_cases e : a = i
  · subst e; rw [if_pos rfl, if_pos rfl, gi_nat h]
  · rw [if_neg e, if_neg (fun h => e h.symm)]
/-- What stands for a node is a tree. -/
theorem sol_tr {H : List Hn} (hi : HInv H) {rk : Int → Nat} (hr : Rk H rk) {val : Int → List Nd} (hS : Sol H val) : ∀ (n : Nat) (i : Nat), rk (i : Int) < n → i < H.length → ∃ e, Tr e (val (i : Int))
  | 0, _, h, _ => by omega
  | n + 1, i, hn, hil => by
    have h1 := hS i hil
    by_cases hb : H[i].2.2.2 = -1
    · rw [if_neg (fun h => h hb)] at h1
      by_cases hv : H[i].1 = 1
      · rw [if_pos hv] at h1; exact h1
      · rw [if_neg hv] at h1
        obtain ⟨e, he⟩ := trs_depth (H[i].2.2.1.map val) (fun x hx => by
          obtain ⟨k, hk, rfl⟩ := List.mem_map.1 hx
          have h2 := hi.kids i hil k hk
          have h3 := (hr i hil).2 hb k hk
          obtain ⟨j, rfl⟩ : ∃ j : Nat, k = (j : Int) := ⟨k.toNat, by omega⟩
          exact sol_tr hi hr hS n j (by omega) (by omega))
        refine ⟨e + 1, H[i].1, H[i].2.1, H[i].2.2.1.map val, ?_, ?_, he⟩
        · rw [h1, List.length_map]
        · rw [List.length_map]; exact hi.form i hil
    · rw [if_pos hb] at h1
      rcases hi.bnd i hil with h2 | ⟨h2, h3, _⟩
      · exact absurd h2 hb
      · have h4 := (hr i hil).1 hb
        obtain ⟨j, hj⟩ : ∃ j : Nat, H[i].2.2.2 = (j : Int) := ⟨H[i].2.2.2.toNat, by omega⟩
        rw [hj] at h1 h3 h4
        rw [h1]
        exact sol_tr hi hr hS n j (by omega) (by omega)
/-- Solutions of the heap after a binding. -/
theorem bnd_sol {H : List Hn} (hi : HInv H) {a : Nat} (ha : a < H.length) (hf : H[a].2.2.2 = -1) (hv : H[a].1 = 1) {b : Nat} (hb : b < H.length) {val : Int → List Nd} (hT : ∃ e, Tr e (val (b : Int))) : Sol (bdH H a (b : Int)) val ↔ Sol H val ∧ val (a : Int) = val (b : Int) := by
  constructor
  · intro h
    have hab : val (a : Int) = val (b : Int) := by
      have := h a (by rw [bnd_len]; exact ha)
      rw [bnd_get ha, if_pos rfl] at this
      dsimp only at this
      rw [if_pos (by omega)] at this
      exact this
    refine ⟨fun i hil => ?_, hab⟩
    have h1 := h i (by rw [bnd_len]; exact hil)
    rw [bnd_get hil] at h1
    by_cases e : i = a
    · subst e
      rw [hf, if_neg (by simp), if_pos hv, hab]; exact hT
    · rw [if_neg e] at h1; exact h1
  · rintro ⟨h, hab⟩ i hil
    rw [bnd_len] at hil
    rw [bnd_get hil]
    by_cases e : i = a
    · subst e
      rw [if_pos rfl]
      dsimp only
      rw [if_pos (by omega)]; exact hab
    · rw [if_neg e]; exact h i hil
end Go.Proofs.YtdfdjgolijckfaaDoor
/- After a binding the heap is as it must be. -/
namespace Go.Proofs.YtdfdjgolijckfaaDoor
attribute [local irreducible] FU
theorem root_self {H : List Hn} {i : Nat} (hil : i < H.length) (hb : H[i].2.2.2 = -1) : Root H (i : Int) i := by
  obtain ⟨n, hn⟩ := fuk 1 (by omega)
  unfold Root m_terms_Term_Find
  rw [jn_eq, hn, m_terms_Term_Find_L2, m_terms_Term_Find_B2, need_pos (by omega), gi_nat hil, if_neg (fun h => h hb)]
theorem find_fuel {H : List Hn} (hi : HInv H) {rk : Int → Nat} (hr : Rk H rk) (K : Int → Option (Int × List Hn)) : ∀ (n n' : Nat) (x : Int), rk x < n → rk x < n' → 0 ≤ x → x < (H.length : Int) → m_terms_Term_Find_L2 H K n x = m_terms_Term_Find_L2 H K n' x
  | 0, _, _, h, _, _, _ => by omega
  | n + 1, 0, _, _, h, _, _ => by omega
  | n + 1, n' + 1, x, h, h', h0, h1 => by
    obtain ⟨i, rfl⟩ : ∃ i : Nat, x = (i : Int) := ⟨x.toNat, by omega⟩
    have hil : i < H.length := by omega
    rw [m_terms_Term_Find_L2, m_terms_Term_Find_B2, m_terms_Term_Find_L2, m_terms_Term_Find_B2, gi_nat hil]
    by_cases hb : H[i].2.2.2 = -1
    · rw [if_neg (fun h => h hb), if_neg (fun h => h hb)]
    · rw [if_pos hb, if_pos hb]
      rcases hi.bnd i hil with h2 | ⟨h2, h3, _⟩
      · exact absurd h2 hb
      · have hlt := (hr i hil).1 hb
        rw [find_fuel hi hr K n n' H[i].2.2.2 (by omega) (by omega) h2 h3]
theorem root_bound {H : List Hn} (hi : HInv H) (hl : H.length ≤ 1000000) {i : Nat} (hil : i < H.length) (hb : H[i].2.2.2 ≠ -1) {z : Nat} (h : Root H H[i].2.2.2 z) : Root H (i : Int) z := by
  obtain ⟨rk, hr, hrb⟩ := rank_small hi
  rcases hi.bnd i hil with h2 | ⟨h2, h3, _⟩
  · exact absurd h2 hb
  · obtain ⟨n, hn⟩ := fuk 2000000 (by omega)
    unfold Root m_terms_Term_Find at h ⊢
    rw [jn_eq] at h ⊢
    have e : m_terms_Term_Find_L2 H (fun z => some (z, H)) FU (i : Int) = m_terms_Term_Find_L2 H (fun z => some (z, H)) FU H[i].2.2.2 := by
      have h4 := hrb H[i].2.2.2
      have h5 := find_fuel hi hr (fun z => some (z, H)) (n + 1999999) (n + 1999999 + 1) H[i].2.2.2 (by omega) (by omega) h2 h3
      rw [hn, show n + 2000000 = n + 1999999 + 1 by omega, ← h5, m_terms_Term_Find_L2, m_terms_Term_Find_B2, need_pos (by omega), gi_nat hil, if_pos hb, need_pos (by omega)]
    exact e.trans h
theorem bnd_kind {H : List Hn} {a : Nat} {b : Int} {x : Int} (h0 : 0 ≤ x) (h1 : x < (H.length : Int)) : (gi (bdH H a b) x).1 = (gi H x).1 := by
  obtain ⟨i, rfl⟩ : ∃ i : Nat, x = (i : Int) := ⟨x.toNat, by omega⟩
  have hil : i < H.length := by omega
  rw [gi_nat hil, gi_nat (by rw [bnd_len]; exact hil), bnd_get hil]
  split <;> rfl
theorem bnd_inv {H : List Hn} (hi : HInv H) (hl : H.length ≤ 1000000) {a b : Nat} (ha : a < H.length) (hf : H[a].2.2.2 = -1) (hv : H[a].1 = 1 ∨ (gi H (b : Int)).1 ≠ 1) (hb : b < H.length) (hbf : H[b].2.2.2 = -1) (hn : ¬ Reach H a (b : Int)) : HInv (bdH H a (b : Int)) := by
  obtain ⟨rk, hr, hrb⟩ := rank_small hi
  refine ⟨fun i hil => ?_, fun i hil k hk => ?_, fun i hil => ?_, ?_⟩
  · rw [bnd_len] at hil ⊢
    rw [bnd_get hil]
    by_cases e : i = a
    · subst e; rw [if_pos rfl]; exact .inr ⟨by dsimp only; omega, by dsimp only; omega, hv.imp id (fun h => by dsimp only; rw [bnd_kind (by omega) (by omega)]; exact h)⟩
    · rw [if_neg e]
      rcases hi.bnd i hil with h | ⟨h1, h2, h3⟩
      · exact .inl h
      · exact .inr ⟨h1, h2, h3.imp id (fun h => by rw [bnd_kind h1 h2]; exact h)⟩
  · have hil' : i < H.length := by rw [bnd_len] at hil; exact hil
    rw [bnd_len]
    rw [bnd_get hil'] at hk
    by_cases e : i = a
    · subst e; rw [if_pos rfl] at hk; exact hi.kids i hil' k hk
    · rw [if_neg e] at hk; exact hi.kids i hil' k hk
  · have hil' : i < H.length := by rw [bnd_len] at hil; exact hil
    simp only [bnd_get hil']
    by_cases e : i = a
    · subst e; simp only [↓reduceIte]; exact hi.form i hil'
    · simp only [e, ↓reduceIte]; exact hi.form i hil'
  · classical
    have hra : Reach H a (a : Int) := .here (root_self ha hf)
    refine ⟨fun x => if Reach H a x then rk x + rk (b : Int) + 1 else rk x, fun i hil => ?_⟩
    rw [bnd_len] at hil
    rw [bnd_get hil]
    by_cases e : i = a
    · subst e
      rw [if_pos rfl]
      dsimp only
      refine ⟨fun _ => ?_, fun hu => by omega⟩
      rw [if_pos hra, if_neg hn]; omega
    · rw [if_neg e]
      refine ⟨fun hne => ?_, fun hub k hk => ?_⟩
      · have h1 := (hr i hil).1 hne
        have h2 : Reach H a H[i].2.2.2 → Reach H a (i : Int) := fun h => by
          rcases hi.bnd i hil with h3 | ⟨h3, h4, _⟩
          · exact absurd h3 hne
          · cases h with
            | here h => exact .here (root_bound hi hl hil hne h)
            | step h hy hk hh => exact .step (root_bound hi hl hil hne h) hy hk hh
        dsimp only
        by_cases h3 : Reach H a H[i].2.2.2
        · rw [if_pos h3, if_pos (h2 h3)]; omega
        · rw [if_neg h3]; split <;> omega
      · have h1 := (hr i hil).2 hub k hk
        have h2 : Reach H a k → Reach H a (i : Int) := fun h => .step (root_self hil hub) hil (by rw [gi_nat hil]; exact hk) h
        dsimp only
        by_cases h3 : Reach H a k
        · rw [if_pos h3, if_pos (h2 h3)]; omega
        · rw [if_neg h3]; split <;> omega
end Go.Proofs.YtdfdjgolijckfaaDoor
/- Replacing in trees: what it tells of the parts; most general unifiers. -/
namespace Go.Proofs.YtdfdjgolijckfaaDoor
attribute [local irreducible] FU
theorem flat_inj : ∀ {ks ls : List (List Nd)}, ks.length = ls.length → (∀ x ∈ ks, ∃ e, Tr e x) → (∀ x ∈ ls, ∃ e, Tr e x) → ks.flatten = ls.flatten → ks = ls
  | [], [], _, _, _, _ => rfl
  | [], _ :: _, h, _, _, _ => by simp at h
  | _ :: _, [], h, _, _, _ => by simp at h
  | x :: ks, y :: ls, h, hk, hl, he => by
    obtain ⟨d, hx⟩ := hk x List.mem_cons_self
    obtain ⟨e, hy⟩ := hl y List.mem_cons_self
    rw [List.flatten_cons, List.flatten_cons] at he
    obtain ⟨h1, h2⟩ := hx.uniq hy he
    rw [h1, flat_inj (by simpa using h) (fun z hz => hk z (List.mem_cons_of_mem _ hz)) (fun z hz => hl z (List.mem_cons_of_mem _ hz)) h2]
theorem vsN_flat {v : Int} : ∀ {ks : List (List Nd)}, v ∈ vsN ks.flatten ↔ ∃ x ∈ ks, v ∈ vsN x
  | [] => by simp [vsN]
  | x :: ks => by
    rw [List.flatten_cons, vsN_app, List.mem_append, vsN_flat]
    simp
theorem vsN_node {k m : Int} {c : Int} {l : List Nd} (h : ¬ k = 1) : vsN ((k, m, c) :: l) = vsN l := by rw [vsN, if_neg h]
theorem sbt_node {τ : Int → List Nd} {k m : Int} {ks : List (List Nd)} (h : ¬ k = 1) : sbt τ ((k, m, (ks.length : Int)) :: ks.flatten) = (k, m, (ks.length : Int)) :: (ks.map (sbt τ)).flatten := by
  rw [sbt_cons, asg, if_neg h, sbt_flatten]; rfl
theorem tr_var {d : Nat} {m : Int} (h : fmB (1, m, 0) = true) : Tr (d + 1) [(1, m, 0)] := ⟨1, m, [], rfl, h, by simp⟩
theorem sbt_var {τ : Int → List Nd} {m c : Int} : sbt τ [(1, m, c)] = τ m := by simp [sbt, asg]
theorem tr_parts {τ : Int → List Nd} (hτ : TrS τ) : ∀ {e : Nat} {A : List Nd} {d : Nat}, Tr e A → Tr d (sbt τ A) → Tr d A ∧ ∀ v ∈ vsN A, Tr d (τ v)
  | 0, _, _, h, _ => h.elim
  | _ + 1, _, 0, _, h => h.elim
  | e + 1, A, d + 1, ⟨k, m, ks, h1, h2, h3⟩, h => by
    subst h1
    by_cases hk : k = 1
    · subst hk
      obtain rfl := List.eq_nil_of_length_eq_zero (by have := (var_kids h2 rfl).1; dsimp only at this; omega : ks.length = 0)
      rw [List.flatten_nil, sbt_var] at h
      refine ⟨tr_var h2, fun v hv => ?_⟩
      have : v = m := by simpa [vsN] using hv
      rw [this]; exact h
    · rw [sbt_node hk] at h
      obtain ⟨k', m', ls, g1, g2, g3⟩ := h
      obtain ⟨e1, e2⟩ := List.cons.inj g1
      have hl : ks.length = ls.length := by have := congrArg (fun z : Nd => z.2.2) e1; dsimp only at this; omega
      have hkl : ks.map (sbt τ) = ls := flat_inj (by rw [List.length_map]; exact hl) (fun x hx => by
        obtain ⟨y, hy, rfl⟩ := List.mem_map.1 hx
        exact (h3 y hy).sbt hτ) (fun x hx => ⟨d, g3 x hx⟩) e2
      have hin : ∀ x ∈ ks, Tr d x ∧ ∀ v ∈ vsN x, Tr d (τ v) := fun x hx => tr_parts hτ (h3 x hx) (g3 _ (by rw [← hkl]; exact List.mem_map_of_mem hx))
      refine ⟨⟨k, m, ks, rfl, h2, fun x hx => (hin x hx).1⟩, fun v hv => ?_⟩
      rw [vsN_node hk, vsN_flat] at hv
      obtain ⟨x, hx, hv⟩ := hv
      exact ((hin x hx).2 v hv).up
theorem sbt_lens {τ : Int → List Nd} (hτ : TrS τ) : ∀ (A : List Nd), A.length ≤ (sbt τ A).length ∧ ∀ v ∈ vsN A, (τ v).length ≤ (sbt τ A).length
  | [] => ⟨by simp, by simp [vsN]⟩
  | n :: A => by
    obtain ⟨h1, h2⟩ := sbt_lens hτ A
    rw [sbt_cons, List.length_append, List.length_cons, vsN]
    unfold asg
    by_cases hk : n.1 = 1
    · rw [if_pos hk, if_pos hk]
      obtain ⟨e, he⟩ := hτ n.2.1
      have := he.pos
      refine ⟨by omega, fun v hv => ?_⟩
      rcases List.mem_cons.1 hv with rfl | hv
      · omega
      · have := h2 v hv; omega
    · rw [if_neg hk, if_neg hk]
      exact ⟨by rw [List.length_singleton]; omega, fun v hv => by have := h2 v hv; omega⟩
theorem Tr.fm : ∀ {d : Nat} {A : List Nd}, Tr d A → ∀ n ∈ A, fmB n = true
  | 0, _, h, _, _ => h.elim
  | d + 1, _, ⟨k, m, ks, h1, h2, h3⟩, n, hn => by
    subst h1
    rcases List.mem_cons.1 hn with rfl | hn
    · exact h2
    · obtain ⟨x, hx, hn⟩ := List.mem_flatten.1 hn
      exact (h3 x hx).fm n hn
theorem sbt_id {τ : Int → List Nd} : ∀ {A : List Nd}, (∀ n ∈ A, fmB n = true) → (∀ w ∈ vsN A, τ w = [(1, w, 0)]) → sbt τ A = A
  | [], _, _ => rfl
  | n :: A, hf, hw => by
    rw [sbt_cons, sbt_id (fun x hx => hf x (List.mem_cons_of_mem _ hx)) (fun w h => hw w (by rw [vsN]; split; exact List.mem_cons_of_mem _ h; exact h))]
    unfold asg
    by_cases hk : n.1 = 1
    · have h1 := hw n.2.1 (by rw [vsN, if_pos hk]; exact List.mem_cons_self)
      have h2 := (var_kids (hf n List.mem_cons_self) hk).1
      rw [if_pos hk, h1, show n = (1, n.2.1, 0) from Prod.ext hk (Prod.ext rfl h2)]; rfl
    · rw [if_neg hk]; rfl
theorem sbt_sbt {τ σ : Int → List Nd} : ∀ (A : List Nd), sbt τ (sbt σ A) = sbt (fun v => sbt τ (σ v)) A
  | [] => rfl
  | n :: A => by
    rw [sbt_cons, show sbt τ (asg σ n ++ sbt σ A) = sbt τ (asg σ n) ++ sbt τ (sbt σ A) from List.flatMap_append, sbt_sbt A, sbt_cons]
    congr 1
    unfold asg
    by_cases hk : n.1 = 1
    · rw [if_pos hk, if_pos hk]
    · rw [if_neg hk, if_neg hk]
      simp [sbt, asg, hk]
theorem sbt_congr {τ σ : Int → List Nd} {A : List Nd} (h : ∀ v ∈ vsN A, τ v = σ v) : sbt τ A = sbt σ A := fm_congr (fun n hn => by
  unfold asg
  by_cases hk : n.1 = 1
  · rw [if_pos hk, if_pos hk, h _ (vs_of_mem hn hk)]
  · rw [if_neg hk, if_neg hk])
/-- A most general unifier; what it leaves is the least variable of those that are made equal. -/
structure Mgu (p q : List Nd) (σ : Int → List Nd) : Prop where
  tr : TrS σ
  eq : sbt σ p = sbt σ q
  gen : ∀ τ, TrS τ → sbt τ p = sbt τ q → ∀ v, v ∈ vsN p ∨ v ∈ vsN q → τ v = sbt τ (σ v)
  idem : ∀ v, v ∈ vsN p ∨ v ∈ vsN q → ∀ w ∈ vsN (σ v), (w ∈ vsN p ∨ w ∈ vsN q) ∧ σ w = [(1, w, 0)]
  least : ∀ v w, v ∈ vsN p ∨ v ∈ vsN q → w ∈ vsN p ∨ w ∈ vsN q → σ v = [(1, w, 0)] → w ≤ v
theorem Mgu.uniq {p q : List Nd} {σ ρ : Int → List Nd} (h : Mgu p q σ) (k : Mgu q p ρ) : ∀ v, v ∈ vsN p ∨ v ∈ vsN q → σ v = ρ v := by
  have hroot : ∀ w, w ∈ vsN p ∨ w ∈ vsN q → σ w = [(1, w, 0)] → ρ w = [(1, w, 0)] := fun w hw hs => by
    have h1 := k.gen σ h.tr h.eq.symm w hw.symm
    obtain ⟨e, he⟩ := k.tr w
    match e, he with
    | 0, he => exact he.elim
    | e + 1, ⟨kk, m, ks, g1, g2, g3⟩ =>
      rw [hs, g1] at h1
      by_cases hk : kk = 1
      · subst hk
        obtain rfl := List.eq_nil_of_length_eq_zero (by have := (var_kids g2 rfl).1; dsimp only at this; omega : ks.length = 0)
        rw [List.flatten_nil, sbt_var] at h1
        have hr : ρ w = [(1, m, 0)] := g1
        have hm := (k.idem w hw.symm m (by rw [hr]; simp [vsN])).1
        have l1 := h.least m w hm.symm hw h1.symm
        have l2 := k.least w m hw.symm hm hr
        rw [hr, show m = w by omega]
      · rw [sbt_node hk] at h1
        have := congrArg (fun z : Nd => z.1) (List.cons.inj h1).1
        exact absurd this.symm hk
  intro v hv
  have h1 := h.gen ρ k.tr k.eq.symm v hv
  obtain ⟨e, he⟩ := h.tr v
  rw [h1, sbt_id he.fm (fun w hw => by obtain ⟨h2, h3⟩ := h.idem v hv w hw; exact hroot w h2 h3)]
theorem Mgu.apply_eq {p q : List Nd} {σ ρ : Int → List Nd} (h : Mgu p q σ) (k : Mgu q p ρ) : sbt σ p = sbt ρ p := sbt_congr (fun v hv => h.uniq k v (.inl hv))
end Go.Proofs.YtdfdjgolijckfaaDoor
/- The most general solution of a heap. -/
namespace Go.Proofs.YtdfdjgolijckfaaDoor
attribute [local irreducible] FU
/-- The tree of a node; what is not bound stays a variable. -/
def wrF (H : List Hn) : Nat → Int → List Nd
  | 0, _ => []
  | n + 1, x => if (gi H x).2.2.2 ≠ -1 then wrF H n (gi H x).2.2.2 else ((gi H x).1, (gi H x).2.1, ((gi H x).2.2.1.length : Int)) :: ((gi H x).2.2.1.map (wrF H n)).flatten
theorem wr_stable {H : List Hn} (hi : HInv H) {rk : Int → Nat} (hr : Rk H rk) : ∀ (n m : Nat) (x : Int), rk x < n → rk x < m → 0 ≤ x → x < (H.length : Int) → wrF H n x = wrF H m x
  | 0, _, _, h, _, _, _ => by omega
  | n + 1, 0, _, _, h, _, _ => by omega
  | n + 1, m + 1, x, h, h', h0, h1 => by
    obtain ⟨i, rfl⟩ : ∃ i : Nat, x = (i : Int) := ⟨x.toNat, by omega⟩
    have hil : i < H.length := by omega
    rw [wrF, wrF, gi_nat hil]
    by_cases hb : H[i].2.2.2 = -1
    · rw [if_neg (fun h => h hb), if_neg (fun h => h hb)]
      congr 2
      refine List.map_congr_left (fun k hk => ?_)
      have h2 := hi.kids i hil k hk
      have h3 := (hr i hil).2 hb k hk
      exact wr_stable hi hr n m k (by omega) (by omega) h2.1 h2.2
    · rw [if_pos hb, if_pos hb]
      rcases hi.bnd i hil with h2 | ⟨h2, h3, _⟩
      · exact absurd h2 hb
      · have h4 := (hr i hil).1 hb
        exact wr_stable hi hr n m _ (by omega) (by omega) h2 h3
def val0 (H : List Hn) (x : Int) : List Nd := wrF H (H.length + 1) x
theorem wr_val0 {H : List Hn} (hi : HInv H) {rk : Int → Nat} (hr : Rk H rk) {n : Nat} {x : Int} (h : rk x < n) (h0 : 0 ≤ x) (h1 : x < (H.length : Int)) : wrF H n x = val0 H x := by
  obtain ⟨rk', hr', hb⟩ := rank_small hi
  have e1 := wr_stable hi hr n (max n (max (rk' x + 1) (rk x + 1))) x h (by omega) h0 h1
  have e2 := wr_stable hi hr' (H.length + 1) (max n (max (rk' x + 1) (rk x + 1))) x (by have := hb x; omega) (by omega) h0 h1
  exact e1.trans e2.symm
theorem val0_bnd {H : List Hn} (hi : HInv H) {i : Nat} (hil : i < H.length) (hb : H[i].2.2.2 ≠ -1) : val0 H (i : Int) = val0 H H[i].2.2.2 := by
  obtain ⟨rk, hr, hrb⟩ := rank_small hi
  rcases hi.bnd i hil with h2 | ⟨h2, h3, _⟩
  · exact absurd h2 hb
  · have h4 := (hr i hil).1 hb
    have h5 := hrb (i : Int)
    rw [← wr_val0 hi hr (n := H.length) (by omega) h2 h3, val0, wrF, gi_nat hil, if_pos hb]
theorem val0_free {H : List Hn} (hi : HInv H) {i : Nat} (hil : i < H.length) (hb : H[i].2.2.2 = -1) : val0 H (i : Int) = (H[i].1, H[i].2.1, (H[i].2.2.1.length : Int)) :: (H[i].2.2.1.map (val0 H)).flatten := by
  obtain ⟨rk, hr, hrb⟩ := rank_small hi
  rw [val0, wrF, gi_nat hil, if_neg (fun h => h hb)]
  congr 2
  refine List.map_congr_left (fun k hk => ?_)
  have h2 := hi.kids i hil k hk
  have h3 := (hr i hil).2 hb k hk
  have h5 := hrb (i : Int)
  exact wr_val0 hi hr (n := H.length) (by omega) h2.1 h2.2
theorem HInv.vkids {H : List Hn} (hi : HInv H) {i : Nat} (hil : i < H.length) (hv : H[i].1 = 1) : H[i].2.2.1 = [] :=
  List.eq_nil_of_length_eq_zero (by have := (var_kids (hi.form i hil) hv).1; dsimp only at this; omega)
theorem val0_var {H : List Hn} (hi : HInv H) {i : Nat} (hil : i < H.length) (hb : H[i].2.2.2 = -1) (hv : H[i].1 = 1) : val0 H (i : Int) = [(1, H[i].2.1, 0)] := by
  rw [val0_free hi hil hb, hi.vkids hil hv, hv]; rfl
theorem val0_sol {H : List Hn} (hi : HInv H) : Sol H (val0 H) := fun i hil => by
  by_cases hb : H[i].2.2.2 = -1
  · rw [if_neg (fun h => h hb)]
    by_cases hv : H[i].1 = 1
    · rw [if_pos hv, val0_var hi hil hb hv]
      have := hi.form i hil
      rw [hv, hi.vkids hil hv] at this
      exact ⟨1, tr_var this⟩
    · rw [if_neg hv]; exact val0_free hi hil hb
  · rw [if_pos hb]; exact val0_bnd hi hil hb
/-- Every solution is an instance of it. -/
theorem val0_gen {H : List Hn} (hi : HInv H) {rk : Int → Nat} (hr : Rk H rk) {val : Int → List Nd} (hS : Sol H val) {τ : Int → List Nd} (hτ : ∀ i (h : i < H.length), H[i].1 = 1 → H[i].2.2.2 = -1 → val (i : Int) = τ H[i].2.1) :
    ∀ (n : Nat) (i : Nat), rk (i : Int) < n → i < H.length → val (i : Int) = sbt τ (val0 H (i : Int))
  | 0, _, h, _ => by omega
  | n + 1, i, hn, hil => by
    have h1 := hS i hil
    by_cases hb : H[i].2.2.2 = -1
    · rw [if_neg (fun h => h hb)] at h1
      by_cases hv : H[i].1 = 1
      · rw [val0_var hi hil hb hv, sbt_var]; exact hτ i hil hv hb
      · rw [if_neg hv] at h1
        rw [val0_free hi hil hb, h1, sbt_cons, asg, if_neg hv, sbt_flatten, List.map_map, List.singleton_append]
        congr 2
        refine List.map_congr_left (fun k hk => ?_)
        have h2 := hi.kids i hil k hk
        have h3 := (hr i hil).2 hb k hk
        obtain ⟨j, rfl⟩ : ∃ j : Nat, k = (j : Int) := ⟨k.toNat, by omega⟩
        exact val0_gen hi hr hS hτ n j (by omega) (by omega)
    · rw [if_pos hb] at h1
      rcases hi.bnd i hil with h2 | ⟨h2, h3, _⟩
      · exact absurd h2 hb
      · have h4 := (hr i hil).1 hb
        obtain ⟨j, hj⟩ : ∃ j : Nat, H[i].2.2.2 = (j : Int) := ⟨H[i].2.2.2.toNat, by omega⟩
        rw [val0_bnd hi hil hb]
        rw [hj] at h1 h3 h4 ⊢
        rw [h1]
        exact val0_gen hi hr hS hτ n j (by omega) (by omega)
/-- Its variables are those that are not bound. -/
theorem val0_vars {H : List Hn} (hi : HInv H) {rk : Int → Nat} (hr : Rk H rk) : ∀ (n : Nat) (i : Nat), rk (i : Int) < n → i < H.length → ∀ w ∈ vsN (val0 H (i : Int)), ∃ j, ∃ h : j < H.length, H[j].1 = 1 ∧ H[j].2.2.2 = -1 ∧ H[j].2.1 = w
  | 0, _, h, _, _, _ => by omega
  | n + 1, i, hn, hil, w, hw => by
    by_cases hb : H[i].2.2.2 = -1
    · by_cases hv : H[i].1 = 1
      · rw [val0_var hi hil hb hv] at hw
        have : w = H[i].2.1 := by simpa [vsN] using hw
        exact ⟨i, hil, hv, hb, this.symm⟩
      · rw [val0_free hi hil hb, vsN_node hv, vsN_flat] at hw
        obtain ⟨x, hx, hw⟩ := hw
        obtain ⟨k, hk, rfl⟩ := List.mem_map.1 hx
        have h2 := hi.kids i hil k hk
        have h3 := (hr i hil).2 hb k hk
        obtain ⟨j, rfl⟩ : ∃ j : Nat, k = (j : Int) := ⟨k.toNat, by omega⟩
        exact val0_vars hi hr n j (by omega) (by omega) w hw
    · rcases hi.bnd i hil with h2 | ⟨h2, h3, _⟩
      · exact absurd h2 hb
      · have h4 := (hr i hil).1 hb
        obtain ⟨j, hj⟩ : ∃ j : Nat, H[i].2.2.2 = (j : Int) := ⟨H[i].2.2.2.toNat, by omega⟩
        rw [val0_bnd hi hil hb] at hw
        rw [hj] at hw h3 h4
        exact val0_vars hi hr n j (by omega) (by omega) w hw
/-- A variable that is bound to a variable is bound to a lesser one. -/
def Ls (H : List Hn) : Prop := ∀ i (_ : i < H.length) j (_ : j < H.length), H[i].2.2.2 = (j : Int) → H[j].1 = 1 → H[j].2.1 < H[i].2.1
/-- What stands for a variable is one. -/
theorem val0_kind {H : List Hn} (hi : HInv H) {rk : Int → Nat} (hr : Rk H rk) : ∀ (n : Nat) (j : Nat), rk (j : Int) < n → ∀ hjl : j < H.length, ∀ w, val0 H (j : Int) = [(1, w, 0)] → H[j].1 = 1
  | 0, _, h, _, _, _ => by omega
  | n + 1, j, hn, hjl, w, hw => by
    by_cases h5 : H[j].2.2.2 = -1
    · rw [val0_free hi hjl h5] at hw
      exact congrArg (fun z : Nd => z.1) (List.cons.inj hw).1
    · rcases hi.bnd j hjl with h6 | ⟨h6, h7, h8⟩
      · exact absurd h6 h5
      · rcases h8 with h8 | h8
        · exact h8
        · have h9 := (hr j hjl).1 h5
          obtain ⟨q, hq⟩ : ∃ q : Nat, H[j].2.2.2 = (q : Int) := ⟨H[j].2.2.2.toNat, by omega⟩
          rw [val0_bnd hi hjl h5] at hw
          rw [hq] at hw h7 h8 h9
          rw [gi_nat (by omega)] at h8
          exact absurd (val0_kind hi hr n q (by omega) (by omega) w hw) h8
theorem val0_least {H : List Hn} (hi : HInv H) (hs : Ls H) {rk : Int → Nat} (hr : Rk H rk) : ∀ (n : Nat) (i : Nat), rk (i : Int) < n → ∀ hil : i < H.length, H[i].1 = 1 → ∀ w, val0 H (i : Int) = [(1, w, 0)] → w ≤ H[i].2.1
  | 0, _, h, _, _, _, _ => by omega
  | n + 1, i, hn, hil, hv, w, hw => by
    by_cases hb : H[i].2.2.2 = -1
    · rw [val0_var hi hil hb hv] at hw
      have := congrArg (fun z : Nd => z.2.1) (List.cons.inj hw).1
      dsimp only at this; omega
    · rcases hi.bnd i hil with h2 | ⟨h2, h3, _⟩
      · exact absurd h2 hb
      · have h4 := (hr i hil).1 hb
        obtain ⟨j, hj⟩ : ∃ j : Nat, H[i].2.2.2 = (j : Int) := ⟨H[i].2.2.2.toNat, by omega⟩
        rw [val0_bnd hi hil hb] at hw
        rw [hj] at hw h3 h4
        have hjl : j < H.length := by omega
        have hjv : H[j].1 = 1 := val0_kind hi hr (rk (j : Int) + 1) j (by omega) hjl w hw
        have := hs i hil j hjl hj hjv
        have := val0_least hi hs hr n j (by omega) hjl hjv w hw
        omega
end Go.Proofs.YtdfdjgolijckfaaDoor
/- Making two nodes equal: what a step keeps. -/
namespace Go.Proofs.YtdfdjgolijckfaaDoor
attribute [local irreducible] FU
theorem look2_put {κ β : Type} [DecidableEq κ] (l : List (κ × β)) (k : κ) (x : β) (v : κ) : lookL (putL l k x) v = if k = v then some x else lookL l v := by
  induction l with
  | nil => simp [putL, lookL]
  | cons a l ih =>
    rw [putL]
    by_cases h : a.1 = k
    · rw [if_pos h, lookL, lookL]
      by_cases h2 : k = v
      · rw [if_pos h2, if_pos h2]
      · rw [if_neg h2, if_neg h2, if_neg (fun e => h2 (h.symm.trans e))]
    · rw [if_neg h, lookL, ih, lookL]
      by_cases h2 : a.1 = v
      · rw [if_pos h2, if_neg (fun e => h (h2.trans e.symm)), if_pos h2]
      · rw [if_neg h2, if_neg h2]
/-- How many nodes are not bound. -/
def nv (H : List Hn) : Nat := H.countP (fun h => decide (h.2.2.2 = -1))
theorem nv_le (H : List Hn) : nv H ≤ H.length := List.countP_le_length
theorem nv_bd {H : List Hn} {a : Nat} (ha : a < H.length) (hf : H[a].2.2.2 = -1) {b : Int} (hb : b ≠ -1) : nv (bdH H a b) < nv H := by
  have hp : 0 < nv H := List.countP_pos_iff.2 ⟨H[a], List.getElem_mem ha, decide_eq_true hf⟩
  unfold nv at hp ⊢
  unfold bdH
  rw [List.countP_set ha, if_pos (decide_eq_true hf), if_neg (by simp [hb])]
  omega
/-- Both lead to one node. -/
def Same (H : List Hn) (x y : Int) : Prop := ∃ z, Root H x z ∧ Root H y z
theorem bnd_root {H : List Hn} (hi : HInv H) (hl : H.length ≤ 1000000) {a b : Nat} (ha : a < H.length) (hf : H[a].2.2.2 = -1) (hb : b < H.length) (hbf : H[b].2.2.2 = -1) (hab : a ≠ b) (hi' : HInv (bdH H a (b : Int))) {rk : Int → Nat} (hr : Rk H rk) :
    ∀ (n : Nat) (i : Nat) (z : Nat), rk (i : Int) < n → i < H.length → Root H (i : Int) z → Root (bdH H a (b : Int)) (i : Int) (if z = a then b else z)
  | 0, _, _, h, _, _ => by omega
  | n + 1, i, z, hn, hil, hz => by
    have hl' : (bdH H a (b : Int)).length ≤ 1000000 := by rw [bnd_len]; exact hl
    have hil' : i < (bdH H a (b : Int)).length := by rw [bnd_len]; exact hil
    have hbl' : b < (bdH H a (b : Int)).length := by rw [bnd_len]; exact hb
    by_cases hu : H[i].2.2.2 = -1
    · obtain rfl := Root.det hz (root_self hil hu)
      by_cases e : z = a
      · subst e
        rw [if_pos rfl]
        have hg : (bdH H z (b : Int))[z].2.2.2 = (b : Int) := by rw [bnd_get hil, if_pos rfl]
        refine root_bound hi' hl' hil' (by rw [hg]; omega) ?_
        rw [hg]
        exact root_self hbl' (by rw [bnd_get hb, if_neg (fun h => hab h.symm)]; exact hbf)
      · rw [if_neg e]
        exact root_self hil' (by rw [bnd_get hil, if_neg e]; exact hu)
    · have hia : i ≠ a := fun e => by subst e; exact hu hf
      rcases hi.bnd i hil with h1 | ⟨h1, h2, _⟩
      · exact absurd h1 hu
      · have h3 := (hr i hil).1 hu
        obtain ⟨j, hj⟩ : ∃ j : Nat, H[i].2.2.2 = (j : Int) := ⟨H[i].2.2.2.toNat, by omega⟩
        obtain ⟨rk', hr', hb'⟩ := rank_small hi
        obtain ⟨y, e1, hy, _⟩ := vFind hi hl hr' hb' h1 h2
        have hy2 : Root H (i : Int) y := root_bound hi hl hil hu e1
        obtain rfl := Root.det hz hy2
        rw [hj] at e1 h2 h3
        have ih := bnd_root hi hl ha hf hb hbf hab hi' hr n j z (by omega) (by omega) e1
        have hg : (bdH H a (b : Int))[i].2.2.2 = (j : Int) := by rw [bnd_get hil, if_neg hia, hj]
        refine root_bound hi' hl' hil' (by rw [hg]; omega) ?_
        rw [hg]; exact ih
theorem bnd_same {H : List Hn} (hi : HInv H) (hl : H.length ≤ 1000000) {a b : Nat} (ha : a < H.length) (hf : H[a].2.2.2 = -1) (hb : b < H.length) (hbf : H[b].2.2.2 = -1) (hab : a ≠ b) (hi' : HInv (bdH H a (b : Int))) {x y : Int} (x0 : 0 ≤ x) (x1 : x < (H.length : Int)) (y0 : 0 ≤ y) (y1 : y < (H.length : Int)) (h : Same H x y) : Same (bdH H a (b : Int)) x y := by
  obtain ⟨rk, hr, _⟩ := rank_small hi
  obtain ⟨z, h1, h2⟩ := h
  obtain ⟨i, rfl⟩ : ∃ i : Nat, x = (i : Int) := ⟨x.toNat, by omega⟩
  obtain ⟨j, rfl⟩ : ∃ j : Nat, y = (j : Int) := ⟨y.toNat, by omega⟩
  exact ⟨_, bnd_root hi hl ha hf hb hbf hab hi' hr (rk (i : Int) + 1) i z (by omega) (by omega) h1, bnd_root hi hl ha hf hb hbf hab hi' hr (rk (j : Int) + 1) j z (by omega) (by omega) h2⟩
/-- What stands before and after: the nodes but for what they are bound to, the solutions. -/
structure UOk (H H' : List Hn) (E : (Int → List Nd) → Prop) : Prop where
  inv : HInv H'
  ls : Ls H'
  len : H'.length = H.length
  same : ∀ i (h : i < H.length) (h' : i < H'.length), H'[i].1 = H[i].1 ∧ H'[i].2.1 = H[i].2.1 ∧ H'[i].2.2.1 = H[i].2.2.1
  sol : ∀ val, Sol H' val ↔ Sol H val ∧ E val
  prog : H' = H ∨ nv H' < nv H
  keepS : ∀ x y : Int, 0 ≤ x → x < (H.length : Int) → 0 ≤ y → y < (H.length : Int) → Same H x y → Same H' x y
theorem UOk.refl {H : List Hn} (hi : HInv H) (hs : Ls H) {E : (Int → List Nd) → Prop} (hE : ∀ val, Sol H val → E val) : UOk H H E :=
  ⟨hi, hs, rfl, fun _ _ _ => ⟨rfl, rfl, rfl⟩, fun val => ⟨fun h => ⟨h, hE val h⟩, fun h => h.1⟩, .inl rfl, fun _ _ _ _ _ _ h => h⟩
theorem UOk.trans {H H1 H2 : List Hn} {E F G : (Int → List Nd) → Prop} (h : UOk H H1 E) (k : UOk H1 H2 F) (hG : ∀ val, Sol H val → (G val ↔ E val ∧ F val)) : UOk H H2 G :=
  ⟨k.inv, k.ls, k.len.trans h.len, fun i h1 h2 => by
    have h3 : i < H1.length := by rw [h.len]; exact h1
    obtain ⟨a1, a2, a3⟩ := h.same i h1 h3
    obtain ⟨b1, b2, b3⟩ := k.same i h3 h2
    exact ⟨b1.trans a1, b2.trans a2, b3.trans a3⟩, fun val => by
    rw [k.sol, h.sol]
    constructor
    · rintro ⟨⟨h1, h2⟩, h3⟩; exact ⟨h1, (hG val h1).2 ⟨h2, h3⟩⟩
    · rintro ⟨h1, h2⟩; obtain ⟨h3, h4⟩ := (hG val h1).1 h2; exact ⟨⟨h1, h3⟩, h4⟩, by
    rcases h.prog with h1 | h1
    · subst h1; exact k.prog
    · rcases k.prog with h2 | h2
      · subst h2; exact .inr h1
      · exact .inr (by omega), fun x y x0 x1 y0 y1 hs => k.keepS x y x0 (by rw [h.len]; exact x1) y0 (by rw [h.len]; exact y1) (h.keepS x y x0 x1 y0 y1 hs)⟩
theorem UOk.iff {H H' : List Hn} {E F : (Int → List Nd) → Prop} (h : UOk H H' E) (hE : ∀ val, Sol H val → (E val ↔ F val)) : UOk H H' F :=
  ⟨h.inv, h.ls, h.len, h.same, fun val => by
    rw [h.sol]
    exact ⟨fun ⟨a, b⟩ => ⟨a, (hE val a).1 b⟩, fun ⟨a, b⟩ => ⟨a, (hE val a).2 b⟩⟩, h.prog, h.keepS⟩
/-- A variable is bound. -/
theorem UOk.bind {H : List Hn} (hi : HInv H) (hs : Ls H) (hl : H.length ≤ 1000000) {a b : Nat} (ha : a < H.length) (hf : H[a].2.2.2 = -1) (hv : H[a].1 = 1) (hb : b < H.length) (hbf : H[b].2.2.2 = -1) (hn : ¬ Reach H a (b : Int)) (hlt : H[b].1 = 1 → H[b].2.1 < H[a].2.1) :
    UOk H (bdH H a (b : Int)) (fun val => val (a : Int) = val (b : Int)) := by
  obtain ⟨rk, hr, hrb⟩ := rank_small hi
  refine ⟨bnd_inv hi hl ha hf (.inl hv) hb hbf hn, fun i hil j hjl e hj => ?_, bnd_len H a b, fun i h1 h2 => ?_, fun val => ?_, .inr (nv_bd ha hf (by omega)), fun x y x0 x1 y0 y1 h => bnd_same hi hl ha hf hb hbf (fun e => hn (by subst e; exact .here (root_self ha hf))) (bnd_inv hi hl ha hf (.inl hv) hb hbf hn) x0 x1 y0 y1 h⟩
  · rw [bnd_len] at hil hjl
    rw [bnd_get hil] at e ⊢
    rw [bnd_get hjl] at hj ⊢
    have hj1 : H[j].1 = 1 := by
      by_cases h : j = a
      · subst h; exact hv
      · rw [if_neg h] at hj; exact hj
    have hjn : (if j = a then (H[j].1, H[j].2.1, H[j].2.2.1, (b : Int)) else H[j]).2.1 = H[j].2.1 := by split <;> rfl
    rw [hjn]
    by_cases h : i = a
    · subst h
      rw [if_pos rfl] at e ⊢
      dsimp only at e ⊢
      obtain rfl : b = j := by omega
      exact hlt hj1
    · rw [if_neg h] at e ⊢
      exact hs i hil j hjl e hj1
  · rw [bnd_get h1]; split <;> exact ⟨rfl, rfl, rfl⟩
  · constructor
    · intro h
      have hT := sol_tr (bnd_inv hi hl ha hf (.inl hv) hb hbf hn) (Classical.choose_spec (rank_small (bnd_inv hi hl ha hf (.inl hv) hb hbf hn))).1 h (Classical.choose (rank_small (bnd_inv hi hl ha hf (.inl hv) hb hbf hn)) (b : Int) + 1) b (by omega) (by rw [bnd_len]; exact hb)
      exact (bnd_sol hi ha hf hv hb hT).1 h
    · rintro ⟨h1, h2⟩
      have hT := sol_tr hi hr h1 (rk (b : Int) + 1) b (by omega) hb
      exact (bnd_sol hi ha hf hv hb hT).2 ⟨h1, h2⟩
/-- The pairs that are remembered are equal in every solution. -/
def PrOk (H : List Hn) (u : List ((Int × Int) × Bool)) : Prop := ∀ x y, Option.getD (lookL u (x, y)) false = true → ∀ val, Sol H val → val x = val y
theorem PrOk.mono {H H' : List Hn} {u : List ((Int × Int) × Bool)} (h : PrOk H u) {E : (Int → List Nd) → Prop} (k : UOk H H' E) : PrOk H' u := fun x y hu val hS => h x y hu val ((k.sol val).1 hS).1
theorem PrOk.put {H : List Hn} {u : List ((Int × Int) × Bool)} (h : PrOk H u) {a b : Int} (hE : ∀ val, Sol H val → val a = val b) : PrOk H (putL u (a, b) true) := fun x y hu val hS => by
  rw [look2_put] at hu
  by_cases e : (a, b) = (x, y)
  · have h1 : a = x := congrArg Prod.fst e
    have h2 : b = y := congrArg Prod.snd e
    rw [← h1, ← h2]; exact hE val hS
  · rw [if_neg e] at hu; exact h x y hu val hS
end Go.Proofs.YtdfdjgolijckfaaDoor
/- Which error: it is told by the solutions alone. -/
namespace Go.Proofs.YtdfdjgolijckfaaDoor
attribute [local irreducible] FU
abbrev Vl := Int → List Nd
/-- The first node. -/
def hd (l : List Nd) : Nd := l.headD (0, 0, 0)
/-- The error of making the rows of x and y equal, where S are the solutions. -/
inductive EC : (Vl → Prop) → Int → Int → Int → Prop
  | inf {S : Vl → Prop} {x y : Int} (hx : ∃ val, S val ∧ ((hd (val x)).1 = 1 ∨ (hd (val y)).1 = 1)) (hno : ∀ val, S val → val x ≠ val y) : EC S x y 8
  | typ {S : Vl → Prop} {x y : Int} (hs : ∃ val, S val) (h : ∀ val, S val → (hd (val x)).1 ≠ 1 ∧ (hd (val y)).1 ≠ 1 ∧ hd (val x) ≠ hd (val y)) : EC S x y 6
  | kid {S : Vl → Prop} {x y e : Int} (xs ys : List Int) (hl : xs.length = ys.length)
      (hh : ∀ val, S val → ∃ h : Nd, h.1 ≠ 1 ∧ h.2.2 = (xs.length : Int) ∧ val x = h :: (xs.map val).flatten ∧ val y = h :: (ys.map val).flatten)
      (ht : ∀ val, S val → (∀ k ∈ xs, ∃ d, Tr d (val k)) ∧ ∀ k ∈ ys, ∃ d, Tr d (val k))
      (j : Nat) (h1 : j < xs.length) (h2 : j < ys.length) (hex : ∃ val, S val ∧ (xs.take j).map val = (ys.take j).map val)
      (hk : EC (fun val => S val ∧ (xs.take j).map val = (ys.take j).map val) xs[j] ys[j] e) : EC S x y e
theorem map_take_get {val : Vl} {xs ys : List Int} (h : xs.map val = ys.map val) {j : Nat} (h1 : j < xs.length) (h2 : j < ys.length) : val xs[j] = val ys[j] := by
  have h3 : (xs.map val)[j]'(by rw [List.length_map]; exact h1) = (ys.map val)[j]'(by rw [List.length_map]; exact h2) := by simp only [h]
  rwa [List.getElem_map, List.getElem_map] at h3
theorem kids_eq {val : Vl} {x : Int} {xs ys : List Int} {h g : Nd} (hl : h.2.2 = (xs.length : Int)) (gl : g.2.2 = (ys.length : Int)) (h1 : val x = h :: (xs.map val).flatten) (h2 : val x = g :: (ys.map val).flatten) (t1 : ∀ k ∈ xs, ∃ d, Tr d (val k)) (t2 : ∀ k ∈ ys, ∃ d, Tr d (val k)) : h = g ∧ xs.length = ys.length ∧ xs.map val = ys.map val := by
  rw [h1] at h2
  obtain ⟨e1, e2⟩ := List.cons.inj h2
  have hlen : xs.length = ys.length := by rw [e1] at hl; omega
  refine ⟨e1, hlen, flat_inj (by rw [List.length_map, List.length_map]; exact hlen) (fun z hz => ?_) (fun z hz => ?_) e2⟩
  · obtain ⟨k, hk, rfl⟩ := List.mem_map.1 hz; exact t1 k hk
  · obtain ⟨k, hk, rfl⟩ := List.mem_map.1 hz; exact t2 k hk
theorem EC.no {S : Vl → Prop} {x y e : Int} (h : EC S x y e) : ∀ val, S val → val x ≠ val y := by
  induction h with
  | inf _ hno => exact hno
  | typ _ h => exact fun val hS e => (h val hS).2.2 (by rw [e])
  | @kid S x y e xs ys hl hh ht j h1 h2 _ _ ih =>
    intro val hS he
    obtain ⟨g, g1, g2, g3, g4⟩ := hh val hS
    obtain ⟨_, _, k3⟩ := kids_eq (h := g) (g := g) (x := x) g2 (by rw [g2, hl]) g3 (by rw [he]; exact g4) (ht val hS).1 (ht val hS).2
    refine ih val ⟨hS, ?_⟩ (map_take_get k3 h1 h2)
    rw [List.map_take, List.map_take, k3]
theorem EC.ex {S : Vl → Prop} {x y e : Int} (h : EC S x y e) : ∃ val, S val := by
  cases h with
  | inf hx _ => obtain ⟨v, h, _⟩ := hx; exact ⟨v, h⟩
  | typ hs _ => exact hs
  | kid _ _ _ _ _ _ _ _ hex _ => obtain ⟨v, h, _⟩ := hex; exact ⟨v, h⟩
theorem EC.cong {S : Vl → Prop} {x y x' y' e : Int} (h : EC S x y e) (hx : ∀ val, S val → val x = val x' ∧ val y = val y') : EC S x' y' e := by
  cases h with
  | inf h1 h2 =>
    refine .inf ?_ (fun val hS => by rw [← (hx val hS).1, ← (hx val hS).2]; exact h2 val hS)
    obtain ⟨v, a, b⟩ := h1
    exact ⟨v, a, by rw [← (hx v a).1, ← (hx v a).2]; exact b⟩
  | typ hs h => exact .typ hs (fun val hS => by rw [← (hx val hS).1, ← (hx val hS).2]; exact h val hS)
  | kid xs ys hl hh ht j h1 h2 hex hk =>
    exact .kid xs ys hl (fun val hS => by rw [← (hx val hS).1, ← (hx val hS).2]; exact hh val hS) ht j h1 h2 hex hk
theorem EC.set {S T : Vl → Prop} {x y e : Int} (h : EC S x y e) (hST : ∀ val, S val ↔ T val) : EC T x y e := by
  have : S = T := funext fun v => propext (hST v)
  rw [← this]; exact h
theorem EC.symm {S : Vl → Prop} {x y e : Int} (h : EC S x y e) : EC S y x e := by
  induction h with
  | inf h1 h2 =>
    obtain ⟨v, a, b⟩ := h1
    exact .inf ⟨v, a, b.symm⟩ (fun val hS e => h2 val hS e.symm)
  | typ hs h => exact .typ hs (fun val hS => ⟨(h val hS).2.1, (h val hS).1, fun e => (h val hS).2.2 e.symm⟩)
  | kid xs ys hl hh ht j h1 h2 hex _ ih =>
    refine .kid ys xs hl.symm (fun val hS => ?_) (fun val hS => (ht val hS).symm) j h2 h1 ?_ (ih.set (fun val => and_congr_right fun _ => eq_comm))
    · obtain ⟨g, g1, g2, g3, g4⟩ := hh val hS
      exact ⟨g, g1, by rw [g2, hl], g4, g3⟩
    · obtain ⟨v, a, b⟩ := hex
      exact ⟨v, a, b.symm⟩
/-- One error alone. -/
theorem EC.det {S : Vl → Prop} {x y e : Int} (h : EC S x y e) : ∀ {x' y' e' : Int}, (∀ val, S val → val x = val x' ∧ val y = val y') → EC S x' y' e' → e = e' := by
  induction h with
  | @inf S x y hx hno =>
    intro x' y' e' hxy h'
    obtain ⟨v, a, b⟩ := hx
    rw [(hxy v a).1, (hxy v a).2] at b
    cases h' with
    | inf _ _ => rfl
    | typ _ h => exact absurd b (fun h2 => h2.elim (h v a).1 (h v a).2.1)
    | kid xs ys hl hh ht j h1 h2 hex hk =>
      obtain ⟨g, g1, _, g3, g4⟩ := hh v a
      rw [g3, g4] at b
      exact absurd b (fun h2 => h2.elim g1 g1)
  | @typ S x y hs h =>
    intro x' y' e' hxy h'
    cases h' with
    | inf hx _ =>
      obtain ⟨v, a, b⟩ := hx
      rw [← (hxy v a).1, ← (hxy v a).2] at b
      exact absurd b (fun h2 => h2.elim (h v a).1 (h v a).2.1)
    | typ _ _ => rfl
    | kid xs ys hl hh ht j h1 h2 hex hk =>
      obtain ⟨v, a, _⟩ := hex
      obtain ⟨g, _, _, g3, g4⟩ := hh v a
      have := (h v a).2.2
      rw [(hxy v a).1, (hxy v a).2, g3, g4] at this
      exact absurd rfl this
  | @kid S x y e xs ys hl hh ht j h1 h2 hex hk ih =>
    intro x' y' e' hxy h'
    cases h' with
    | inf hx _ =>
      obtain ⟨v, a, b⟩ := hx
      obtain ⟨g, g1, _, g3, g4⟩ := hh v a
      rw [← (hxy v a).1, ← (hxy v a).2, g3, g4] at b
      exact absurd b (fun h2 => h2.elim g1 g1)
    | typ _ h =>
      obtain ⟨v, a, _⟩ := hex
      obtain ⟨g, _, _, g3, g4⟩ := hh v a
      have := (h v a).2.2
      rw [← (hxy v a).1, ← (hxy v a).2, g3, g4] at this
      exact absurd rfl this
    | kid xs' ys' hl' hh' ht' j' h1' h2' hex' hk' =>
      have hall : ∀ val, S val → xs.length = xs'.length ∧ xs.map val = xs'.map val ∧ ys.map val = ys'.map val := fun val hS => by
        obtain ⟨g, g1, g2, g3, g4⟩ := hh val hS
        obtain ⟨f, f1, f2, f3, f4⟩ := hh' val hS
        rw [← (hxy val hS).1] at f3
        rw [← (hxy val hS).2] at f4
        obtain ⟨_, a2, a3⟩ := kids_eq g2 f2 g3 f3 (ht val hS).1 (ht' val hS).1
        obtain ⟨_, _, b3⟩ := kids_eq (by rw [g2, hl]) (by rw [f2, hl']) g4 f4 (ht val hS).2 (ht' val hS).2
        exact ⟨a2, a3, b3⟩
      have hpre : ∀ (q : Nat) val, S val → ((xs.take q).map val = (ys.take q).map val ↔ (xs'.take q).map val = (ys'.take q).map val) := fun q val hS => by
        obtain ⟨_, a2, a3⟩ := hall val hS
        rw [List.map_take, List.map_take, List.map_take, List.map_take, a2, a3]
      have hlt : ∀ {us ws : List Int} {q r : Nat} {val : Vl}, q < r → (us.take r).map val = (ws.take r).map val → ∀ (g1 : q < us.length) (g2 : q < ws.length), (us.take q).map val = (ws.take q).map val ∧ val us[q] = val ws[q] := fun {us ws q r val} hqr h g1 g2 => by
        refine ⟨?_, ?_⟩
        · have := congrArg (List.take q) h
          rwa [← List.map_take, ← List.map_take, List.take_take, List.take_take, Nat.min_eq_left (by omega)] at this
        · have := map_take_get h (j := q) (by rw [List.length_take]; omega) (by rw [List.length_take]; omega)
          rwa [List.getElem_take, List.getElem_take] at this
      have hjj : j = j' := by
        rcases Nat.lt_trichotomy j j' with hlt1 | rfl | hlt1
        · obtain ⟨v, a, b⟩ := hex'
          have b' := (hpre j' v a).2 b
          obtain ⟨c1, c2⟩ := hlt hlt1 b' h1 h2
          exact absurd c2 (hk.no v ⟨a, c1⟩)
        · rfl
        · obtain ⟨v, a, b⟩ := hex
          have b' := (hpre j v a).1 b
          obtain ⟨c1, c2⟩ := hlt hlt1 b' h1' h2'
          exact absurd c2 (hk'.no v ⟨a, c1⟩)
      subst hjj
      refine ih (fun val hS => ?_) (hk'.set (fun val => and_congr_right fun hS => (hpre j val hS).symm))
      obtain ⟨_, a2, a3⟩ := hall val hS.1
      exact ⟨map_take_get a2 h1 h1', map_take_get a3 h2 h2'⟩
/-- The first pair of two lists that cannot be made equal. -/
def ECs (S : Vl → Prop) (xs ys : List Int) (e : Int) : Prop := ∃ (j : Nat) (h1 : j < xs.length) (h2 : j < ys.length), (∃ val, S val ∧ (xs.take j).map val = (ys.take j).map val) ∧ EC (fun val => S val ∧ (xs.take j).map val = (ys.take j).map val) xs[j] ys[j] e
theorem ECs.head {S : Vl → Prop} {x y e : Int} {xs ys : List Int} (h : EC S x y e) : ECs S (x :: xs) (y :: ys) e := by
  obtain ⟨v, hv⟩ := h.ex
  exact ⟨0, by simp, by simp, ⟨v, hv, rfl⟩, h.set (fun val => by simp)⟩
theorem ECs.tail {S T : Vl → Prop} {x y e : Int} {xs ys : List Int} (h : ECs T xs ys e) (hT : ∀ val, T val ↔ S val ∧ val x = val y) : ECs S (x :: xs) (y :: ys) e := by
  obtain ⟨j, h1, h2, ⟨v, a, b⟩, hk⟩ := h
  refine ⟨j + 1, by simpa using h1, by simpa using h2, ⟨v, ((hT v).1 a).1, ?_⟩, ?_⟩
  · rw [List.take_succ_cons, List.take_succ_cons, List.map_cons, List.map_cons, b, ((hT v).1 a).2]
  · rw [List.getElem_cons_succ, List.getElem_cons_succ]
    refine hk.set (fun val => ?_)
    rw [List.take_succ_cons, List.take_succ_cons, List.map_cons, List.map_cons, List.cons.injEq, hT, and_assoc]
end Go.Proofs.YtdfdjgolijckfaaDoor
/- Making two terms equal. -/
namespace Go.Proofs.YtdfdjgolijckfaaDoor
attribute [local irreducible] FU
abbrev Pm := List ((Int × Int) × Bool)
abbrev UR := Int × Pm × List Hn
/-- Each variable is one node. -/
def VarU (H : List Hn) : Prop := ∀ i (h : i < H.length) j (h' : j < H.length), H[i].1 = 1 → H[j].1 = 1 → H[i].2.1 = H[j].2.1 → i = j
theorem UOk.varU {H H' : List Hn} {E : (Int → List Nd) → Prop} (k : UOk H H' E) (h : VarU H) : VarU H' := fun i h1 j h2 a b c => by
  have h3 : i < H.length := by rw [← k.len]; exact h1
  have h4 : j < H.length := by rw [← k.len]; exact h2
  have s1 := k.same i h3 h1
  have s2 := k.same j h4 h2
  exact h i h3 j h4 (by rw [← s1.1]; exact a) (by rw [← s2.1]; exact b) (by rw [← s1.2.1, ← s2.2.1]; exact c)
theorem UOk.gkids {H H' : List Hn} {E : (Int → List Nd) → Prop} (k : UOk H H' E) {a : Int} (h0 : 0 ≤ a) (h1 : a < (H.length : Int)) : (gi H' a).2.2.1 = (gi H a).2.2.1 := by
  obtain ⟨i, rfl⟩ : ∃ i : Nat, a = (i : Int) := ⟨a.toNat, by omega⟩
  have h2 : i < H.length := by omega
  have h3 : i < H'.length := by rw [k.len]; exact h2
  rw [gi_nat h2, gi_nat h3]
  exact (k.same i h2 h3).2.2
def UA (H : List Hn) (a b : Int) (o : Option UR) : Prop :=
  ∃ e u' H', o = some (e, u', H') ∧ (e = 0 → UOk H H' (fun val => val a = val b) ∧ PrOk H' u') ∧ (e ≠ 0 → EC (Sol H) a b e)
theorem UA.iff {H : List Hn} {a b a' b' : Int} {o : Option UR} (h : UA H a b o) (hE : ∀ val, Sol H val → val a = val a' ∧ val b = val b') : UA H a' b' o := by
  obtain ⟨e, u, H', h1, h2, h3⟩ := h
  exact ⟨e, u, H', h1, fun he => ⟨(h2 he).1.iff (fun val hS => by rw [(hE val hS).1, (hE val hS).2]), (h2 he).2⟩, fun he => (h3 he).cong hE⟩
theorem UA.symm {H : List Hn} {a b : Int} {o : Option UR} (h : UA H a b o) : UA H b a o := by
  obtain ⟨e, u, H', h1, h2, h3⟩ := h
  exact ⟨e, u, H', h1, fun he => ⟨(h2 he).1.iff (fun val hS => eq_comm), (h2 he).2⟩, fun he => (h3 he).symm⟩
theorem node_val {H : List Hn} {a : Nat} (ha : a < H.length) (haf : H[a].2.2.2 = -1) (hav : ¬ H[a].1 = 1) {val : Int → List Nd} (hS : Sol H val) : val (a : Int) = (H[a].1, H[a].2.1, (H[a].2.2.1.length : Int)) :: (H[a].2.2.1.map val).flatten := by
  have h1 := hS a ha
  rwa [haf, if_neg (by simp), if_neg hav] at h1
theorem kids_tr {H : List Hn} (hi : HInv H) {i : Nat} (h : i < H.length) {val : Int → List Nd} (hS : Sol H val) : ∀ k ∈ H[i].2.2.1, ∃ e, Tr e (val k) := fun k hk => by
  obtain ⟨rk, hr, hrb⟩ := rank_small hi
  have h3 := hi.kids i h k hk
  obtain ⟨j, rfl⟩ : ∃ j : Nat, k = (j : Int) := ⟨k.toNat, by omega⟩
  exact sol_tr hi hr hS (rk (j : Int) + 1) j (by omega) (by omega)
/-- The error of two nodes is that of their children. -/
theorem EC.node {H : List Hn} (hi : HInv H) {a b : Nat} (ha : a < H.length) (hb : b < H.length) (haf : H[a].2.2.2 = -1) (hbf : H[b].2.2.2 = -1) (hav : ¬ H[a].1 = 1) (hbv : ¬ H[b].1 = 1) (h1 : H[a].1 = H[b].1) (h2 : H[a].2.1 = H[b].2.1) (h3 : H[a].2.2.1.length = H[b].2.2.1.length) {e : Int} (h : ECs (Sol H) H[a].2.2.1 H[b].2.2.1 e) : EC (Sol H) (a : Int) (b : Int) e := by
  obtain ⟨j, j1, j2, hex, hk⟩ := h
  refine .kid _ _ h3 (fun val hS => ⟨(H[a].1, H[a].2.1, (H[a].2.2.1.length : Int)), hav, rfl, node_val ha haf hav hS, ?_⟩) (fun val hS => ⟨kids_tr hi ha hS, kids_tr hi hb hS⟩) j j1 j2 hex hk
  rw [node_val hb hbf hbv hS, h1, h2, h3]
theorem uniL {self : Pm → Int → Int → List Hn → Option UR} {N L : Nat} {y2 : Int × List Hn} {a b : Int} {ka kb : List Int} (hka : (gi y2.2 a).2.2.1 = ka) (ha0 : 0 ≤ a) (ha1 : a < (L : Int)) (hb0 : 0 ≤ b) (hb1 : b < (L : Int)) (hlen : ka.length = kb.length) (hk9 : ka.length ≤ 9)
    (hself : ∀ (H : List Hn) (u : Pm) (x y : Int), HInv H → Ls H → VarU H → H.length = L → PrOk H u → 0 ≤ x → x < (L : Int) → 0 ≤ y → y < (L : Int) → (∃ rk, Rk H rk ∧ (∀ z, rk z ≤ L) ∧ nv H * (L + 1) + rk x < N) → UA H x y (self u x y H))
    (K : List Hn → Pm → Option UR) :
    ∀ (pa pb : List Int) (j n : Nat) (H : List Hn) (u : Pm), ka.drop j = pa → kb.drop j = pb → j + pa.length = ka.length → pa.length < n → HInv H → Ls H → VarU H → H.length = L → PrOk H u → (gi H a).2.2.1 = ka → (gi H b).2.2.1 = kb →
      (∀ k ∈ pa, 0 ≤ k ∧ k < (L : Int)) → (∀ k ∈ pb, 0 ≤ k ∧ k < (L : Int)) → (∃ rk, Rk H rk ∧ (∀ z, rk z ≤ L) ∧ ∀ k ∈ pa, nv H * (L + 1) + rk k < N) →
      (∃ H' u', m_terms_Unifier_Unify_L2 self y2 a b K n H u (j : Int) = K H' u' ∧ UOk H H' (fun val => pa.map val = pb.map val) ∧ PrOk H' u') ∨
      (∃ e u' H', m_terms_Unifier_Unify_L2 self y2 a b K n H u (j : Int) = some (e, u', H') ∧ ¬ e = 0 ∧ ECs (Sol H) pa pb e)
  | [], pb, j, n, H, u, hda, hdb, hj, hn, hi, hs, hvu, hL, hp, _, _, _, _, _ => by
    obtain ⟨n, rfl⟩ : ∃ q, n = q + 1 := ⟨n - 1, by omega⟩
    have hlb := congrArg List.length hdb
    simp only [List.length_drop, List.length_nil] at hlb hj
    obtain rfl := List.eq_nil_of_length_eq_zero (show pb.length = 0 by omega)
    exact .inl ⟨H, u, by rw [m_terms_Unifier_Unify_L2, m_terms_Unifier_Unify_B2, hka, if_neg (by omega)], UOk.refl hi hs (fun _ _ => rfl), hp⟩
  | x :: pa, [], j, n, H, u, hda, hdb, hj, hn, hi, hs, hvu, hL, hp, _, _, _, _, _ => by
    have hlb := congrArg List.length hdb
    simp only [List.length_drop, List.length_nil, List.length_cons] at hlb hj
    omega
  | x :: pa, y :: pb, j, n, H, u, hda, hdb, hj, hn, hi, hs, hvu, hL, hp, hga, hgb, hra, hrb, ⟨rk, hr, hrl, hN⟩ => by
    obtain ⟨n, rfl⟩ : ∃ q, n = q + 1 := ⟨n - 1, by omega⟩
    simp only [List.length_cons] at hj hn
    have hja : j < ka.length := by omega
    have hjb : j < kb.length := by omega
    have hxa : ka[j] = x ∧ ka.drop (j + 1) = pa := by rw [List.drop_eq_getElem_cons hja] at hda; exact ⟨(List.cons.inj hda).1, (List.cons.inj hda).2⟩
    have hyb : kb[j] = y ∧ kb.drop (j + 1) = pb := by rw [List.drop_eq_getElem_cons hjb] at hdb; exact ⟨(List.cons.inj hdb).1, (List.cons.inj hdb).2⟩
    have hx := hra x List.mem_cons_self
    have hy := hrb y List.mem_cons_self
    have hNx := hN x List.mem_cons_self
    obtain ⟨e, u1, H1, e1, h0, hne⟩ := hself H u x y hi hs hvu hL hp hx.1 hx.2 hy.1 hy.2 ⟨rk, hr, hrl, hNx⟩
    rw [m_terms_Unifier_Unify_L2, m_terms_Unifier_Unify_B2, hka, if_pos (by omega), need_pos (by omega), need_pos (by omega), hga, hgb, need_pos (by omega), need_pos (by omega), gi_nat hja, gi_nat hjb, hxa.1, hyb.1, e1, bnd1_mk]
    dsimp only
    by_cases he : e = 0
    · subst he
      rw [if_neg (by simp), i64s (by omega)]
      obtain ⟨k1, p1⟩ := h0 rfl
      have hf1 : ∃ rk, Rk H1 rk ∧ (∀ z, rk z ≤ L) ∧ ∀ k ∈ pa, nv H1 * (L + 1) + rk k < N := by
        rcases k1.prog with h | h
        · subst h; exact ⟨rk, hr, hrl, fun k hk => hN k (List.mem_cons_of_mem _ hk)⟩
        · obtain ⟨rk1, r1, r2⟩ := rank_small k1.inv
          rw [k1.len, hL] at r2
          refine ⟨rk1, r1, r2, fun k _ => ?_⟩
          have h3 := r2 k
          have h4 : (nv H1 + 1) * (L + 1) ≤ nv H * (L + 1) := Nat.mul_le_mul_right _ h
          rw [Nat.add_mul, Nat.one_mul] at h4
          omega
      have ih := uniL hka ha0 ha1 hb0 hb1 hlen hk9 hself K pa pb (j + 1) n H1 u1 hxa.2 hyb.2 (by omega) (by omega) k1.inv k1.ls (k1.varU hvu) (by rw [k1.len, hL]) p1 (by rw [k1.gkids ha0 (by omega), hga]) (by rw [k1.gkids hb0 (by omega), hgb]) (fun k hk => hra k (List.mem_cons_of_mem _ hk)) (fun k hk => hrb k (List.mem_cons_of_mem _ hk)) hf1
      rcases ih with ⟨H2, u2, e2, k2, p2⟩ | ⟨e, u2, H2, e2, k2, k3⟩
      · refine .inl ⟨H2, u2, e2, k1.trans k2 (fun val _ => ?_), p2⟩
        rw [List.map_cons, List.map_cons, List.cons.injEq]
      · exact .inr ⟨e, u2, H2, e2, k2, k3.tail k1.sol⟩
    · rw [if_pos he]
      exact .inr ⟨e, u1, H1, rfl, he, .head (hne he)⟩
theorem var_noreach {H : List Hn} (hi : HInv H) {a b : Nat} (hb : b < H.length) (hbf : H[b].2.2.2 = -1) (hv : H[b].1 = 1) (hab : b ≠ a) : ¬ Reach H a (b : Int) := fun h => by
  cases h with
  | here h => exact hab (Root.det (root_self hb hbf) h)
  | step h hy hk _ =>
    have := Root.det (root_self hb hbf) h
    subst this
    rw [gi_nat hb, hi.vkids hb hv] at hk
    cases hk
theorem occ_bind {H : List Hn} (hi : HInv H) (hs : Ls H) (hl : H.length ≤ 1000000) {u : Pm} (hp : PrOk H u) {v t : Nat} (hvl : v < H.length) (hvf : H[v].2.2.2 = -1) (hv : H[v].1 = 1) (htl : t < H.length) (htf : H[t].2.2.2 = -1) (ht : ¬ H[t].1 = 1) :
    UA H (v : Int) (t : Int) (bnd1 (m_occ m_terms_Term_Find (v : Int) (t : Int) ([] : List (Int × Bool)) H) (fun y38 => if y38.1 then (some (8, u, y38.2.2)) else (need (¬ (v : Int) = -1) (some (0, u, (List.set y38.2.2 (Int.toNat (v : Int)) ((gi y38.2.2 (v : Int)).1, (gi y38.2.2 (v : Int)).2.1, (gi y38.2.2 (v : Int)).2.2.1, (t : Int)))))))) := by
  obtain ⟨rk, hr, hb⟩ := rank_small hi
  obtain ⟨b, s', e, h1⟩ := occ_top hi hl hr hb (v := v) (t := (t : Int)) (by omega) (by omega)
  have hvt : v ≠ t := fun e => by subst e; exact ht hv
  rw [e, bnd1_mk]
  dsimp only
  cases hbb : b with
  | true =>
    refine ⟨8, u, H, by simp, (fun h => by simp at h), fun _ => .inf ⟨val0 H, val0_sol hi, .inl (by rw [val0_var hi hvl hvf hv]; rfl)⟩ (fun val hS hE => ?_)⟩
    have := (reach_len hi hl hr hb hS (h1.1 hbb) (by omega) (by omega)).2 (fun h => hvt (Root.det h (root_self htl htf)))
    rw [hE] at this
    omega
  | false =>
    have hn : ¬ Reach H v (t : Int) := fun h => by rw [h1.2 h] at hbb; cases hbb
    have k := UOk.bind hi hs hl hvl hvf hv htl htf hn (fun h => absurd h ht)
    refine ⟨0, u, bdH H v (t : Int), ?_, fun _ => ⟨k, hp.mono k⟩, (fun h => absurd rfl h)⟩
    rw [if_neg (by simp), need_pos (by omega), Int.toNat_natCast]; rfl
theorem node_eq {H : List Hn} (hi : HInv H) {a b : Nat} (ha : a < H.length) (hb : b < H.length) (haf : H[a].2.2.2 = -1) (hbf : H[b].2.2.2 = -1) (hav : ¬ H[a].1 = 1) (hbv : ¬ H[b].1 = 1) {val : Int → List Nd} (hS : Sol H val) :
    val (a : Int) = val (b : Int) ↔ H[a].1 = H[b].1 ∧ H[a].2.1 = H[b].2.1 ∧ H[a].2.2.1.length = H[b].2.2.1.length ∧ H[a].2.2.1.map val = H[b].2.2.1.map val := by
  obtain ⟨rk, hr, hrb⟩ := rank_small hi
  have h1 := hS a ha
  have h2 := hS b hb
  rw [haf, if_neg (by simp), if_neg hav] at h1
  rw [hbf, if_neg (by simp), if_neg hbv] at h2
  have ht : ∀ i (h : i < H.length), ∀ x ∈ H[i].2.2.1.map val, ∃ e, Tr e x := fun i h x hx => by
    obtain ⟨k, hk, rfl⟩ := List.mem_map.1 hx
    have h3 := hi.kids i h k hk
    obtain ⟨j, rfl⟩ : ∃ j : Nat, k = (j : Int) := ⟨k.toNat, by omega⟩
    exact sol_tr hi hr hS (rk (j : Int) + 1) j (by omega) (by omega)
  rw [h1, h2]
  constructor
  · intro h
    obtain ⟨g1, g2⟩ := List.cons.inj h
    have l1 : H[a].1 = H[b].1 := congrArg (fun z : Nd => z.1) g1
    have l2 : H[a].2.1 = H[b].2.1 := congrArg (fun z : Nd => z.2.1) g1
    have l3 := congrArg (fun z : Nd => z.2.2) g1
    dsimp only at l3
    exact ⟨l1, l2, by omega, flat_inj (by rw [List.length_map, List.length_map]; omega) (ht a ha) (ht b hb) g2⟩
  · rintro ⟨l1, l2, l3, l4⟩
    rw [l1, l2, l3, l4]
theorem uni_ok {L : Nat} (hl : L ≤ 1000000) : ∀ (n : Nat) (H : List Hn) (u : Pm) (a b : Int), HInv H → Ls H → VarU H → H.length = L → PrOk H u → 0 ≤ a → a < (L : Int) → 0 ≤ b → b < (L : Int) → (∃ rk, Rk H rk ∧ (∀ z, rk z ≤ L) ∧ nv H * (L + 1) + rk a < n) → UA H a b (m_terms_Unifier_Unify_S n u a b H)
  | 0, _, _, _, _, _, _, _, _, _, _, _, _, _, ⟨_, _, _, h⟩ => by omega
  | n + 1, H, u, a, b, hi, hs, hvu, hL, hp, a0, a1, b0, b1, ⟨rk, hr, hrb, hn⟩ => by
    subst hL
    obtain ⟨ya, e1, hya, fa, va, ra⟩ := vFind hi hl hr hrb a0 a1
    obtain ⟨yb, e2, hyb, fb, vb, _⟩ := vFind hi hl hr hrb b0 b1
    refine UA.iff (a := (ya : Int)) (b := (yb : Int)) ?_ (fun val hS => ⟨(va val hS).symm, (vb val hS).symm⟩)
    rw [m_terms_Unifier_Unify_S, m_terms_Unifier_Unify_F, e1, bnd1_mk]
    dsimp only
    rw [e2, bnd1_mk]
    dsimp only
    simp only [jn_eq]
    by_cases hab : (ya : Int) = (yb : Int)
    · rw [if_pos hab, if_pos trivial]
      exact ⟨0, u, H, rfl, fun _ => ⟨UOk.refl hi hs (fun val _ => by rw [hab]), hp⟩, (fun h => absurd rfl h)⟩
    · have hne : ya ≠ yb := fun h => hab (by rw [h])
      rw [if_neg hab, need_pos (by omega)]
      by_cases hm : Option.getD (lookL u ((ya : Int), (yb : Int))) false = true
      · rw [if_pos hm]
        exact ⟨0, u, H, rfl, fun _ => ⟨UOk.refl hi hs (hp _ _ hm), hp⟩, (fun h => absurd rfl h)⟩
      · have ga : gi H (ya : Int) = H[ya] := gi_nat hya
        have gb : gi H (yb : Int) = H[yb] := gi_nat hyb
        rw [if_neg hm, need_pos (by omega), ga, gb]
        by_cases hva : H[ya].1 = 1
        · rw [if_pos hva, need_pos (by omega)]
          by_cases hvb : H[yb].1 = 1
          · rw [decide_eq_true hvb, if_pos rfl, need_pos (by omega), need_pos (by omega)]
            by_cases hlt : H[ya].2.1 < H[yb].2.1
            · have k := UOk.bind hi hs hl hyb fb hvb hya fa (var_noreach hi hya fa hva hne) (fun _ => hlt)
              rw [if_pos hlt, need_pos (by omega)]
              exact ⟨0, u, bdH H yb (ya : Int), by rw [Int.toNat_natCast]; unfold bdH; rw [gb], fun _ => ⟨k.iff (fun val _ => eq_comm), hp.mono k⟩, (fun h => absurd rfl h)⟩
            · have hlt2 : H[yb].2.1 < H[ya].2.1 := by
                rcases Int.lt_or_le H[yb].2.1 H[ya].2.1 with h | h
                · exact h
                · exact absurd (hvu ya hya yb hyb hva hvb (by omega)) hne
              have k := UOk.bind hi hs hl hya fa hva hyb fb (var_noreach hi hyb fb hvb (fun h => hne h.symm)) (fun _ => hlt2)
              rw [if_neg hlt, need_pos (by omega)]
              exact ⟨0, u, bdH H ya (yb : Int), by rw [Int.toNat_natCast]; unfold bdH; rw [ga], fun _ => ⟨k, hp.mono k⟩, (fun h => absurd rfl h)⟩
          · rw [decide_eq_false hvb, if_neg (by simp), need_pos (by omega), if_neg hvb, need_pos (by omega), if_pos hva]
            exact occ_bind hi hs hl hp hya fa hva hyb fb hvb
        · rw [if_neg hva, if_neg (by simp), need_pos (by omega)]
          by_cases hvb : H[yb].1 = 1
          · rw [if_pos hvb, need_pos (by omega), if_pos hvb]
            exact (occ_bind hi hs hl hp hyb fb hvb hya fa hva).symm
          · rw [if_neg hvb, need_pos (by omega), if_neg hva, need_pos (by omega), need_pos (by omega)]
            have hno : ∀ {o : Option UR}, o = some (6, u, H) → (¬ (H[ya].1 = H[yb].1 ∧ H[ya].2.1 = H[yb].2.1 ∧ H[ya].2.2.1.length = H[yb].2.2.1.length)) → UA H (ya : Int) (yb : Int) o := fun ho hc => by
              refine ⟨6, u, H, ho, (fun h => by simp at h), fun _ => .typ ⟨_, val0_sol hi⟩ (fun val hS => ?_)⟩
              rw [node_val hya fa hva hS, node_val hyb fb hvb hS]
              refine ⟨hva, hvb, fun h => hc ?_⟩
              have l1 := congrArg (fun z : Nd => z.1) h
              have l2 := congrArg (fun z : Nd => z.2.1) h
              have l3 := congrArg (fun z : Nd => z.2.2) h
              simp only [hd, List.headD_cons] at l1 l2 l3
              exact ⟨l1, l2, by omega⟩
            by_cases hk : H[ya].1 = H[yb].1
            · rw [if_neg (fun h => h hk), need_pos (by omega), need_pos (by omega)]
              by_cases hnum : H[ya].2.1 = H[yb].2.1
              · rw [if_neg (fun h => h hnum), need_pos (by omega), need_pos (by omega)]
                by_cases hlen : H[ya].2.2.1.length = H[yb].2.2.1.length
                · rw [decide_eq_false (by omega), if_neg (by simp), need_pos (by omega)]
                  have hk9 := fm_kids (hi.form ya hya)
                  dsimp only at hk9
                  have hL := uniL (self := m_terms_Unifier_Unify_S n) (N := n) (L := H.length) (y2 := ((yb : Int), H)) (a := (ya : Int)) (b := (yb : Int)) (ka := H[ya].2.2.1) (kb := H[yb].2.2.1) (by dsimp only; rw [ga]) (by omega) (by omega) (by omega) (by omega) hlen (by omega)
                    (fun H u x y hi hs hvu hL hp x0 x1 y0 y1 hf => uni_ok hl n H u x y hi hs hvu hL hp x0 x1 y0 y1 hf)
                    (fun xH x0 => need (¬ (((ya : Int), (yb : Int)).1) = -1 ∧ ¬ (((ya : Int), (yb : Int)).2) = -1) (some (0, (putL x0 ((ya : Int), (yb : Int)) true), xH)))
                    H[ya].2.2.1 H[yb].2.2.1 0 FU H u rfl rfl (by omega) (by have := FU_ge; omega) hi hs hvu rfl hp (by rw [ga]) (by rw [gb]) (hi.kids ya hya) (hi.kids yb hyb)
                    ⟨rk, hr, hrb, fun k hk => by have := (hr ya hya).2 fa k hk; omega⟩
                  rw [show ((0 : Nat) : Int) = 0 from rfl] at hL
                  rcases hL with ⟨H', u', e3, k, p⟩ | ⟨e, u', H', e3, k2, k3⟩
                  · rw [e3, need_pos (by dsimp only; omega)]
                    have k' : UOk H H' (fun val => val (ya : Int) = val (yb : Int)) := k.iff (fun val hS => by
                      rw [node_eq hi hya hyb fa fb hva hvb hS]
                      exact ⟨fun h => ⟨hk, hnum, hlen, h⟩, fun h => h.2.2.2⟩)
                    exact ⟨0, _, H', rfl, fun _ => ⟨k', p.put (fun val hS => ((k'.sol val).1 hS).2)⟩, (fun h => absurd rfl h)⟩
                  · rw [e3]
                    exact ⟨e, u', H', rfl, fun h => absurd h k2, fun _ => .node hi hya hyb fa fb hva hvb hk hnum hlen k3⟩
                · rw [decide_eq_true (by omega), if_pos rfl]
                  exact hno rfl (fun h => hlen h.2.2)
              · rw [if_pos hnum, if_pos trivial]
                exact hno rfl (fun h => hnum h.2.1)
            · rw [if_pos hk, if_pos trivial]
              exact hno rfl (fun h => hk h.1)
theorem vUni {H : List Hn} (hi : HInv H) (hs : Ls H) (hvu : VarU H) (hl : H.length ≤ 1000000) {a b : Int} (a0 : 0 ≤ a) (a1 : a < (H.length : Int)) (b0 : 0 ≤ b) (b1 : b < (H.length : Int)) : UA H a b (m_terms_Unifier_Unify [] a b H) := by
  obtain ⟨rk, hr, hrb⟩ := rank_small hi
  refine uni_ok hl FU H [] a b hi hs hvu rfl (fun x y h => by simp [lookL] at h) a0 a1 b0 b1 ⟨rk, hr, hrb, ?_⟩
  have h1 := nv_le H
  have h2 := hrb a
  have h3 : nv H * (H.length + 1) ≤ 1000000 * 1000001 := Nat.mul_le_mul (by omega) (by omega)
  have := FU_ge
  omega
end Go.Proofs.YtdfdjgolijckfaaDoor
/- Writing and measuring a term. -/
namespace Go.Proofs.YtdfdjgolijckfaaDoor
attribute [local irreducible] FU
theorem val0_root {H : List Hn} (hi : HInv H) {x : Int} {y : Nat} (h : ∀ val, Sol H val → val x = val (y : Int)) : val0 H x = val0 H (y : Int) := h _ (val0_sol hi)
theorem writeL {self : Int → List Nd → List Hn → Option (List Nd × List Hn)} {H : List Hn} {y1 : Int × List Hn} {ks : List Int} (hks : (gi y1.2 y1.1).2.2.1 = ks) (hk9 : ks.length ≤ 9) (f : Int → List Nd)
    (hself : ∀ k ∈ ks, ∀ out, out.length + (f k).length ≤ 1000000 → self k out H = some (out ++ f k, H)) (K : List Hn → List Nd → Option (List Nd × List Hn)) :
    ∀ (pa : List Int) (j n : Nat) (out : List Nd), ks.drop j = pa → j + pa.length = ks.length → pa.length < n → out.length + (pa.map f).flatten.length ≤ 1000000 → m_terms_Term_Write_L2 self y1 K n H out (j : Int) = K H (out ++ (pa.map f).flatten)
  | [], j, n, out, hd, hj, hn, _ => by
    obtain ⟨n, rfl⟩ : ∃ q, n = q + 1 := ⟨n - 1, by omega⟩
    simp only [List.length_nil] at hj
    rw [m_terms_Term_Write_L2, m_terms_Term_Write_B2, hks, if_neg (by omega)]; simp
  | x :: pa, j, n, out, hd, hj, hn, hl => by
    obtain ⟨n, rfl⟩ : ∃ q, n = q + 1 := ⟨n - 1, by omega⟩
    simp only [List.length_cons] at hj hn
    have hja : j < ks.length := by omega
    have hxa : ks[j] = x ∧ ks.drop (j + 1) = pa := by rw [List.drop_eq_getElem_cons hja] at hd; exact ⟨(List.cons.inj hd).1, (List.cons.inj hd).2⟩
    rw [List.map_cons, List.flatten_cons, List.length_append] at hl
    rw [m_terms_Term_Write_L2, m_terms_Term_Write_B2, hks, if_pos (by omega), need_pos (by omega), gi_nat hja, hxa.1, hself x (by rw [← hxa.1]; exact List.getElem_mem hja) out (by omega), bnd1_mk, i64s (by omega)]
    dsimp only
    rw [writeL hks hk9 f hself K pa (j + 1) n (out ++ f x) hxa.2 (by omega) (by omega) (by rw [List.length_append]; omega), List.map_cons, List.flatten_cons, List.append_assoc]
theorem write_ok {H : List Hn} (hi : HInv H) (hl : H.length ≤ 1000000) {rk : Int → Nat} (hr : Rk H rk) (hrb : ∀ x, rk x ≤ H.length) : ∀ (n : Nat) (x : Int) (out : List Nd), rk x < n → 0 ≤ x → x < (H.length : Int) → out.length + (val0 H x).length ≤ 1000000 → m_terms_Term_Write_S n x out H = some (out ++ val0 H x, H)
  | 0, _, _, h, _, _, _ => by omega
  | n + 1, x, out, hn, x0, x1, ho => by
    obtain ⟨y, e1, hy, fy, vy, ry⟩ := vFind hi hl hr hrb x0 x1
    rw [val0_root hi vy] at ho ⊢
    have g : gi H (y : Int) = H[y] := gi_nat hy
    have hk9 := fm_kids (hi.form y hy)
    dsimp only at hk9
    rw [val0_free hi hy fy, List.length_cons] at ho
    rw [m_terms_Term_Write_S, m_terms_Term_Write_F, e1, bnd1_mk]
    dsimp only
    rw [need_pos (by omega), need_pos (by omega), need_pos (by omega), g, need_pos (by simp only [List.length_singleton]; omega), jn_eq, need_pos (by omega), show (0 : Int) = ((0 : Nat) : Int) from rfl,
      writeL (self := m_terms_Term_Write_S n) (H := H) (y1 := ((y : Int), H)) (ks := H[y].2.2.1) (by dsimp only; rw [g]) (by omega) (val0 H) (fun k hk out ho => by
        have h1 := hi.kids y hy k hk
        have h2 := (hr y hy).2 fy k hk
        exact write_ok hi hl hr hrb n k out (by omega) h1.1 h1.2 ho) _ H[y].2.2.1 0 FU _ rfl (by omega) (by have := FU_ge; omega) (by rw [List.length_append, List.length_singleton]; omega), val0_free hi hy fy, List.append_assoc]
    rfl
theorem vWrite {H : List Hn} (hi : HInv H) (hl : H.length ≤ 1000000) {x : Int} (x0 : 0 ≤ x) (x1 : x < (H.length : Int)) (ho : (val0 H x).length ≤ 1000000) : m_terms_Term_Write x [] H = some (val0 H x, H) := by
  obtain ⟨rk, hr, hrb⟩ := rank_small hi
  unfold m_terms_Term_Write
  rw [write_ok hi hl hr hrb FU x [] (by have := hrb x; have := FU_ge; omega) x0 x1 (by simpa using ho), List.nil_append]
/-! ### Measure -/
theorem val0_dep {H : List Hn} (hi : HInv H) {rk : Int → Nat} (hr : Rk H rk) : ∀ (n : Nat) (i : Nat), rk (i : Int) < n → i < H.length → Tr (rk (i : Int) + 1) (val0 H (i : Int))
  | 0, _, h, _ => by omega
  | n + 1, i, hn, hil => by
    by_cases hb : H[i].2.2.2 = -1
    · rw [val0_free hi hil hb]
      refine ⟨H[i].1, H[i].2.1, H[i].2.2.1.map (val0 H), by rw [List.length_map], by rw [List.length_map]; exact hi.form i hil, fun x hx => ?_⟩
      obtain ⟨k, hk, rfl⟩ := List.mem_map.1 hx
      have h2 := hi.kids i hil k hk
      have h3 := (hr i hil).2 hb k hk
      obtain ⟨j, rfl⟩ : ∃ j : Nat, k = (j : Int) := ⟨k.toNat, by omega⟩
      exact (val0_dep hi hr n j (by omega) (by omega)).le (by omega)
    · rcases hi.bnd i hil with h2 | ⟨h2, h3, _⟩
      · exact absurd h2 hb
      · have h4 := (hr i hil).1 hb
        obtain ⟨j, hj⟩ : ∃ j : Nat, H[i].2.2.2 = (j : Int) := ⟨H[i].2.2.2.toNat, by omega⟩
        rw [val0_bnd hi hil hb]
        rw [hj] at h3 h4 ⊢
        exact (val0_dep hi hr n j (by omega) (by omega)).le (by omega)
theorem tr_node {e : Nat} {k m : Int} {ks : List Int} {f : Int → List Nd} (hf : fmB (k, m, (ks.length : Int)) = true) (ht : ∀ x ∈ ks, ∃ d, Tr d (f x)) : Tr (e + 1) ((k, m, (ks.length : Int)) :: (ks.map f).flatten) ↔ ∀ x ∈ ks, Tr e (f x) := by
  constructor
  · rintro ⟨k', m', ls, g1, g2, g3⟩ x hx
    obtain ⟨e1, e2⟩ := List.cons.inj g1
    have hl : ks.length = ls.length := by have := congrArg (fun z : Nd => z.2.2) e1; dsimp only at this; omega
    have hkl : ks.map f = ls := flat_inj (by rw [List.length_map]; exact hl) (fun y hy => by
      obtain ⟨z, hz, rfl⟩ := List.mem_map.1 hy
      exact ht z hz) (fun y hy => ⟨e, g3 y hy⟩) e2
    exact g3 _ (by rw [← hkl]; exact List.mem_map_of_mem hx)
  · intro h
    refine ⟨k, m, ks.map f, by rw [List.length_map], by rw [List.length_map]; exact hf, fun y hy => ?_⟩
    obtain ⟨z, hz, rfl⟩ := List.mem_map.1 hy
    exact h z hz
abbrev Kn := List (Int × (Int × Int))
/-- What is known of the size and the depth. -/
def MP (H : List Hn) (x : Int) (p : Int × Int) : Prop := p.1 = min ((val0 H x).length : Int) 513 ∧ 0 ≤ p.2 ∧ p.2 ≤ 2000000 ∧ ∀ e : Nat, Tr e (val0 H x) ↔ p.2 ≤ (e : Int)
def KnOk (H : List Hn) (kn : Kn) : Prop := ∀ y p, lookL kn y = some p → MP H y p
def MA (H : List Hn) (x : Int) (o : Option ((Int × Int) × Kn × List Hn)) : Prop := ∃ p kn', o = some (p, kn', H) ∧ MP H x p ∧ KnOk H kn'
theorem measL {self : Int → Kn → List Hn → Option ((Int × Int) × Kn × List Hn)} {H : List Hn} {y2 : Int × List Hn} {ks : List Int} (hks : (gi y2.2 y2.1).2.2.1 = ks) (hk9 : ks.length ≤ 9)
    (hself : ∀ k ∈ ks, ∀ kn, KnOk H kn → MA H k (self k kn H)) (K : List Hn → Kn → Int → Int → Option ((Int × Int) × Kn × List Hn)) :
    ∀ (pa : List Int) (j n : Nat) (kn : Kn) (s : Nat) (d : Int), ks.drop j = pa → j + pa.length = ks.length → pa.length < n → KnOk H kn → 0 ≤ d → d ≤ 2000000 →
      ∃ kn' d', m_terms_Measure_L2 self y2 K n H kn (min (s : Int) 513) d (j : Int) = K H kn' (min ((s + (pa.map (val0 H)).flatten.length : Nat) : Int) 513) d' ∧ KnOk H kn' ∧ 0 ≤ d' ∧ d' ≤ 2000000 ∧ ∀ e : Nat, d' ≤ (e : Int) ↔ d ≤ (e : Int) ∧ ∀ k ∈ pa, Tr e (val0 H k)
  | [], j, n, kn, s, d, hd, hj, hn, hkn, d0, d1 => by
    obtain ⟨n, rfl⟩ : ∃ q, n = q + 1 := ⟨n - 1, by omega⟩
    simp only [List.length_nil] at hj
    exact ⟨kn, d, by rw [m_terms_Measure_L2, m_terms_Measure_B2, hks, if_neg (by omega)]; simp, hkn, d0, d1, by simp⟩
  | x :: pa, j, n, kn, s, d, hd, hj, hn, hkn, d0, d1 => by
    obtain ⟨n, rfl⟩ : ∃ q, n = q + 1 := ⟨n - 1, by omega⟩
    simp only [List.length_cons] at hj hn
    have hja : j < ks.length := by omega
    have hxa : ks[j] = x ∧ ks.drop (j + 1) = pa := by rw [List.drop_eq_getElem_cons hja] at hd; exact ⟨(List.cons.inj hd).1, (List.cons.inj hd).2⟩
    obtain ⟨p, kn1, e1, ⟨m1, m2, m3, m4⟩, k1⟩ := hself x (by rw [← hxa.1]; exact List.getElem_mem hja) kn hkn
    obtain ⟨kn2, d2, e2, k2, d20, d21, d22⟩ := measL hks hk9 hself K pa (j + 1) n kn1 (s + (val0 H x).length) (max d p.2) hxa.2 (by omega) (by omega) k1 (by omega) (by omega)
    refine ⟨kn2, d2, ?_, k2, d20, d21, fun e => ?_⟩
    · rw [m_terms_Measure_L2, m_terms_Measure_B2, hks, if_pos (by omega), need_pos (by omega), gi_nat hja, hxa.1, e1, bnd1_mk, i64s (by omega), m1]
      dsimp only
      rw [i64_id (by omega), show min (min (s : Int) 513 + min ((val0 H x).length : Int) 513) 513 = min ((s + (val0 H x).length : Nat) : Int) 513 by omega, e2, List.map_cons, List.flatten_cons, List.length_append, Nat.add_assoc]
    · rw [d22 e]
      have := m4 e
      simp only [List.mem_cons, forall_eq_or_imp, this]
      constructor
      · rintro ⟨h1, h2⟩; exact ⟨by omega, by omega, h2⟩
      · rintro ⟨h1, h2, h3⟩; exact ⟨by omega, h3⟩
theorem meas_ok {H : List Hn} (hi : HInv H) (hl : H.length ≤ 1000000) {rk : Int → Nat} (hr : Rk H rk) (hrb : ∀ x, rk x ≤ H.length) : ∀ (n : Nat) (x : Int) (kn : Kn), rk x < n → 0 ≤ x → x < (H.length : Int) → KnOk H kn → MA H x (m_terms_Measure_S n x kn H)
  | 0, _, _, h, _, _, _ => by omega
  | n + 1, x, kn, hn, x0, x1, hkn => by
    obtain ⟨y, e1, hy, fy, vy, ry⟩ := vFind hi hl hr hrb x0 x1
    have hv := val0_root hi vy
    have g : gi H (y : Int) = H[y] := gi_nat hy
    have hk9 := fm_kids (hi.form y hy)
    dsimp only at hk9
    have hconv : ∀ p, MP H (y : Int) p → MP H x p := fun p h => by unfold MP at h ⊢; rw [hv]; exact h
    rw [m_terms_Measure_S, m_terms_Measure_F, e1, bnd1_mk]
    dsimp only
    rw [need_pos (by omega)]
    cases hx : lookL kn (y : Int) with
    | some p =>
      rw [Option.isSome_some, if_pos rfl, Option.getD_some]
      exact ⟨p, kn, rfl, hconv p (hkn _ _ hx), hkn⟩
    | none =>
      rw [Option.isSome_none, if_neg (by simp), jn_eq, need_pos (by omega)]
      obtain ⟨kn', d', e2, k2, d0, d1, d2⟩ := measL (self := m_terms_Measure_S n) (H := H) (y2 := ((y : Int), H)) (ks := H[y].2.2.1) (by dsimp only; rw [g]) (by omega) (fun k hk kn hkn => by
        have h1 := hi.kids y hy k hk
        have h2 := (hr y hy).2 fy k hk
        exact meas_ok hi hl hr hrb n k kn (by omega) h1.1 h1.2 hkn)
        (fun (xH_j6 : List Hn) (x1_j6 : Kn) (x7_0_j6 : Int) (x7_1_j6 : Int) => need (¬ (y : Int) = -1) (some (((x7_0_j6, i64 (x7_1_j6 + 1)).1, (x7_0_j6, i64 (x7_1_j6 + 1)).2), (putL x1_j6 (y : Int) (x7_0_j6, i64 (x7_1_j6 + 1))), xH_j6)))
        H[y].2.2.1 0 FU kn 1 0 rfl (by omega) (by have := FU_ge; omega) hkn (by omega) (by omega)
      rw [show min ((1 : Nat) : Int) 513 = 1 from rfl, show ((0 : Nat) : Int) = 0 from rfl] at e2
      rw [e2, need_pos (by omega), i64_id (by omega)]
      have hdep : d' ≤ (rk (y : Int) : Int) := by
        rw [d2]
        refine ⟨by omega, fun k hk => ?_⟩
        have h1 := hi.kids y hy k hk
        have h2 := (hr y hy).2 fy k hk
        obtain ⟨j, rfl⟩ : ∃ j : Nat, k = (j : Int) := ⟨k.toNat, by omega⟩
        exact (val0_dep hi hr (rk (j : Int) + 1) j (by omega) (by omega)).le (by omega)
      have hmp : MP H (y : Int) (min ((1 + (H[y].2.2.1.map (val0 H)).flatten.length : Nat) : Int) 513, d' + 1) := by
        have hrb' := hrb (y : Int)
        refine ⟨?_, by dsimp only; omega, by dsimp only; omega, fun e => ?_⟩
        · dsimp only
          rw [val0_free hi hy fy, List.length_cons, Nat.add_comm]
        · rw [val0_free hi hy fy]
          match e with
          | 0 => exact ⟨fun h => h.elim, fun h => by dsimp only at h; omega⟩
          | e + 1 =>
            rw [tr_node (hi.form y hy) (fun k hk => by
              have h1 := hi.kids y hy k hk
              obtain ⟨j, rfl⟩ : ∃ j : Nat, k = (j : Int) := ⟨k.toNat, by omega⟩
              exact ⟨_, val0_dep hi hr (rk (j : Int) + 1) j (by omega) (by omega)⟩)]
            have := d2 e
            dsimp only
            constructor
            · intro h; have := this.2 ⟨by omega, h⟩; omega
            · intro h; exact (this.1 (by omega)).2
      refine ⟨_, _, rfl, hconv _ hmp, fun z p hz => ?_⟩
      rw [look2_put] at hz
      by_cases e : (y : Int) = z
      · subst e
        rw [if_pos rfl] at hz
        rw [← Option.some.inj hz]; exact hmp
      · rw [if_neg e] at hz; exact k2 z p hz
theorem vFits {H : List Hn} (hi : HInv H) (hl : H.length ≤ 1000000) {x : Int} (x0 : 0 ≤ x) (x1 : x < (H.length : Int)) : m_terms_Fits x H = some (vdB (val0 H x), H) := by
  obtain ⟨rk, hr, hrb⟩ := rank_small hi
  obtain ⟨p, kn, e1, ⟨m1, m2, m3, m4⟩, _⟩ := meas_ok hi hl hr hrb FU x [] (by have := hrb x; have := FU_ge; omega) x0 x1 (fun y p h => by simp [lookL] at h)
  have h := @vd_tr (val0 H x)
  unfold m_terms_Fits m_terms_Measure
  rw [e1, bnd1_mk, jn_eq]
  dsimp only
  have h64 := m4 64
  rw [h64] at h
  by_cases h1 : p.1 ≤ 512
  · rw [if_pos h1]
    congr 1
    refine Prod.ext (Bool.eq_iff_iff.2 ?_) rfl
    simp only [decide_eq_true_eq]
    rw [h]
    constructor
    · intro h2; exact ⟨by omega, by omega⟩
    · rintro ⟨h2, _⟩; omega
  · rw [if_neg h1]
    congr 1
    refine Prod.ext (Bool.eq_iff_iff.2 ?_) rfl
    simp only [Bool.false_eq_true, false_iff]
    rw [h]
    rintro ⟨_, h2⟩; omega
end Go.Proofs.YtdfdjgolijckfaaDoor
/- What Unify answers: the most general unifier. -/
namespace Go.Proofs.YtdfdjgolijckfaaDoor
attribute [local irreducible] FU
/-- The replacement that a heap stands for. -/
def sg (m : List (Int × Int)) (H : List Hn) (v : Int) : List Nd := match lookL m v with | some x => val0 H x | none => [(2, 0, 0)]
theorem sg_some {m : List (Int × Int)} {H : List Hn} {v x : Int} (h : lookL m v = some x) : sg m H v = val0 H x := by unfold sg; rw [h]
theorem tr_nat {H : List Hn} (hi : HInv H) {i : Nat} (h : i < H.length) : ∃ e, Tr e (val0 H (i : Int)) := by
  obtain ⟨rk, hr, _⟩ := rank_small hi
  exact ⟨_, val0_dep hi hr (rk (i : Int) + 1) i (by omega) h⟩
theorem sg_trS {m : List (Int × Int)} {H H' : List Hn} (hm : RInv H m) (hi : HInv H') (hl : H'.length = H.length) : TrS (sg m H') := fun v => by
  unfold sg
  cases hx : lookL m v with
  | none => exact ⟨1, 2, 0, [], rfl, rfl, by simp⟩
  | some x =>
    obtain ⟨i, rfl, h2, _⟩ := hm.look v x hx
    exact tr_nat hi (by omega)
theorem RInv.varU {H : List Hn} {m : List (Int × Int)} (h : RInv H m) : VarU H := fun i hi j hj a b c => by
  have h1 := h.vars i hi a
  have h2 := h.vars j hj b
  rw [c, h2] at h1
  have := Option.some.inj h1
  omega
theorem RInv.ls {H : List Hn} {m : List (Int × Int)} (h : RInv H m) : Ls H := fun i hi j _ e _ => by
  have := h.free i hi
  omega
/-- Both terms, read one after the other. -/
structure Two (p q : List Nd) (m : List (Int × Int)) (H : List Hn) (k l : Int) : Prop where
  inv : RInv H m
  idk : 0 ≤ k ∧ k < (H.length : Int)
  idl : 0 ≤ l ∧ l < (H.length : Int)
  all : ∀ v, v ∈ vsN p ∨ v ∈ vsN q → lookL m v ≠ none
  keys : ∀ v, lookL m v ≠ none → v ∈ vsN p ∨ v ∈ vsN q
  vk : ∀ val, Sol H val → val k = sbt (fun v => val ((lookL m v).getD (-1))) p
  vl : ∀ val, Sol H val → val l = sbt (fun v => val ((lookL m v).getD (-1))) q
  len : H.length ≤ p.length + q.length
theorem two_read {p q : List Nd} {d e : Nat} (hp : Tr d p) (hq : Tr e q) (hd : d ≤ 1000) (he : e ≤ 1000) : ∃ k m1 H1 l m H, m_terms_Reader_Read [] p [] = some (k, [], m1, H1) ∧ m_terms_Reader_Read m1 q H1 = some (l, [], m, H) ∧ Two p q m H k l := by
  obtain ⟨k, m1, H1, e1, r1⟩ := vReadT d FU (by have := FU_ge; omega) p [] [] [] hp rinv_nil
  obtain ⟨l, m, H, e2, r2⟩ := vReadT e FU (by have := FU_ge; omega) q [] m1 H1 hq r1.inv
  rw [List.append_nil] at e1 e2
  obtain ⟨T, hT⟩ := r2.ext
  refine ⟨k, m1, H1, l, m, H, e1, e2, ⟨r2.inv, ?_, r2.idx, fun v hv => ?_, fun v hv => ?_, fun val hS => ?_, r2.val, ?_⟩⟩
  · have := r1.idx
    have : H.length = H1.length + T.length := by rw [hT, List.length_append]
    omega
  · rcases hv with hv | hv
    · have := r1.all v hv
      cases hz : lookL m1 v with
      | none => exact absurd hz this
      | some z => rw [r2.keep v z hz]; simp
    · exact r2.all v hv
  · rcases r2.keys v hv with h | h
    · rcases r1.keys v h with h | h
      · simp [lookL] at h
      · exact .inl h
    · exact .inr h
  · rw [r1.val val (by rw [hT] at hS; exact hS.pre), sbt_look r2.keep r1.all]
  · have := r1.len; have := r2.len; simp at *; omega
theorem Two.sgk {p q : List Nd} {m : List (Int × Int)} {H : List Hn} {k l : Int} (h : Two p q m H k l) {H' : List Hn} (hS : Sol H (val0 H')) : val0 H' k = sbt (sg m H') p ∧ val0 H' l = sbt (sg m H') q := by
  have hc : ∀ t : List Nd, (∀ v ∈ vsN t, lookL m v ≠ none) → sbt (fun v => val0 H' ((lookL m v).getD (-1))) t = sbt (sg m H') t := fun t ht => sbt_congr (fun v hv => by
    cases hx : lookL m v with
    | none => exact absurd hx (ht v hv)
    | some x => rw [sg_some hx]; rfl)
  rw [h.vk _ hS, h.vl _ hS, hc p (fun v hv => h.all v (.inl hv)), hc q (fun v hv => h.all v (.inr hv))]
  exact ⟨rfl, rfl⟩
/-- Trees for the variables: a solution. -/
theorem Two.ex {p q : List Nd} {m : List (Int × Int)} {H : List Hn} {k l : Int} (h : Two p q m H k l) {τ : Int → List Nd} (hτ : TrS τ) : ∃ val, Sol H val ∧ val k = sbt τ p ∧ val l = sbt τ q ∧ ∀ i (hi : i < H.length), H[i].1 = 1 → val (i : Int) = τ H[i].2.1 := by
  obtain ⟨val, hS, hv⟩ := sol_ex hτ H.length H rfl h.inv.free h.inv.kids
  have hc : ∀ t : List Nd, (∀ v ∈ vsN t, lookL m v ≠ none) → sbt (fun v => val ((lookL m v).getD (-1))) t = sbt τ t := fun t ht => sbt_congr (fun v hv' => by
    cases hx : lookL m v with
    | none => exact absurd hx (ht v hv')
    | some x =>
      obtain ⟨i, rfl, h2, h3⟩ := h.inv.look v x hx
      rw [Option.getD_some, hv i h2 (by rw [h3]), h3])
  exact ⟨val, hS, by rw [h.vk _ hS, hc p (fun v hv => h.all v (.inl hv))], by rw [h.vl _ hS, hc q (fun v hv => h.all v (.inr hv))], hv⟩
theorem Two.mgu {p q : List Nd} {m : List (Int × Int)} {H : List Hn} {k l : Int} (h : Two p q m H k l) {H' : List Hn} (u : UOk H H' (fun val => val k = val l)) : Mgu p q (sg m H') ∧ val0 H' k = sbt (sg m H') p := by
  have hS0 := (u.sol _).1 (val0_sol u.inv)
  obtain ⟨g1, g2⟩ := h.sgk hS0.1
  obtain ⟨rk, hr, hrb⟩ := rank_small u.inv
  have hkey : ∀ v, v ∈ vsN p ∨ v ∈ vsN q → ∃ i : Nat, lookL m v = some (i : Int) ∧ ∃ h1 : i < H'.length, H'[i].1 = 1 ∧ H'[i].2.1 = v := fun v hv => by
    cases hx : lookL m v with
    | none => exact absurd hx (h.all v hv)
    | some x =>
      obtain ⟨i, rfl, h2, h3⟩ := h.inv.look v x hx
      have h4 : i < H'.length := by rw [u.len]; exact h2
      obtain ⟨s1, s2, _⟩ := u.same i h2 h4
      exact ⟨i, rfl, h4, by rw [s1, h3], by rw [s2, h3]⟩
  refine ⟨⟨sg_trS h.inv u.inv u.len, by rw [← g1, ← g2]; exact hS0.2, fun τ hτ he v hv => ?_, fun v hv w hw => ?_, fun v w hv _ e => ?_⟩, g1⟩
  · obtain ⟨val, hS, a1, a2, a3⟩ := h.ex hτ
    have hS' := (u.sol val).2 ⟨hS, by rw [a1, a2, he]⟩
    obtain ⟨i, i1, i2, i3, i4⟩ := hkey v hv
    have h2 : i < H.length := by rw [← u.len]; exact i2
    have hg := val0_gen u.inv hr hS' (τ := τ) (fun j hj hv1 _ => by
      have h5 : j < H.length := by rw [← u.len]; exact hj
      obtain ⟨s1, s2, _⟩ := u.same j h5 hj
      rw [a3 j h5 (by rw [← s1]; exact hv1), s2]) (rk (i : Int) + 1) i (by omega) i2
    rw [sg_some i1, ← hg]
    obtain ⟨s1, s2, _⟩ := u.same i h2 i2
    rw [a3 i h2 (by rw [← s1]; exact i3), ← s2, i4]
  · obtain ⟨i, i1, i2, i3, i4⟩ := hkey v hv
    rw [sg_some i1] at hw
    obtain ⟨j, j1, j2, j3, j4⟩ := val0_vars u.inv hr (rk (i : Int) + 1) i (by omega) i2 w hw
    have h5 : j < H.length := by rw [← u.len]; exact j1
    obtain ⟨s1, s2, _⟩ := u.same j h5 j1
    have h6 := h.inv.vars j h5 (by rw [← s1]; exact j2)
    rw [← s2, j4] at h6
    refine ⟨h.keys w (by rw [h6]; simp), ?_⟩
    rw [sg_some h6, val0_var u.inv j1 j3 j2, j4]
  · obtain ⟨i, i1, i2, i3, i4⟩ := hkey v hv
    rw [sg_some i1] at e
    have := val0_least u.inv u.ls hr (rk (i : Int) + 1) i (by omega) i2 i3 w e
    omega
/-! ### The bindings -/
theorem bnd_look {l : List (Int × Int)} (hn : NdK l) (H : List Hn) (v : Int) : lookL ((l.filter (fun y => decide ((gi H y.2).2.2.2 ≠ -1))).map (fun y => (y.1, val0 H y.2))) v = (lookL l v).bind (fun x => if (gi H x).2.2.2 ≠ -1 then some (val0 H x) else none) ∧ NdK ((l.filter (fun y => decide ((gi H y.2).2.2.2 ≠ -1))).map (fun y => (y.1, val0 H y.2))) := by
  have hnd : NdK ((l.filter (fun y => decide ((gi H y.2).2.2.2 ≠ -1))).map (fun y => (y.1, val0 H y.2))) := by
    rw [NdK, List.map_map]
    exact (List.filter_sublist.map _).nodup hn
  refine ⟨?_, hnd⟩
  cases hx : lookL l v with
  | none =>
    rw [Option.bind_none, lookL_none]
    intro hm
    obtain ⟨z, hz, rfl⟩ := List.mem_map.1 hm
    obtain ⟨y, hy, rfl⟩ := List.mem_map.1 hz
    have := mem_lookL hn (v := y.1) (x := y.2) (List.mem_filter.1 hy).1
    dsimp only at hx
    rw [hx] at this; cases this
  | some x =>
    rw [Option.bind_some]
    by_cases hb : (gi H x).2.2.2 ≠ -1
    · rw [if_pos hb]
      exact mem_lookL hnd (List.mem_map.2 ⟨(v, x), List.mem_filter.2 ⟨lookL_mem hx, decide_eq_true hb⟩, rfl⟩)
    · rw [if_neg hb, lookL_none]
      intro hm
      obtain ⟨z, hz, rfl⟩ := List.mem_map.1 hm
      obtain ⟨y, hy, rfl⟩ := List.mem_map.1 hz
      have h1 := mem_lookL hn (v := y.1) (x := y.2) (List.mem_filter.1 hy).1
      dsimp only at hx
      rw [hx] at h1
      have h2 := of_decide_eq_true (List.mem_filter.1 hy).2
      rw [← Option.some.inj h1] at h2
      exact hb h2
theorem uni_fold {H : List Hn} (hi : HInv H) (hl : H.length ≤ 1000000) : ∀ (l : List (Int × Int)) (out : List Bd), (∀ y ∈ l, 0 ≤ y.2 ∧ y.2 < (H.length : Int) ∧ (val0 H y.2).length ≤ 1000000) → out.length + l.length ≤ 1000000 →
    foldB m_types_Unify_R2 l (H, out) = some (H, out ++ (l.filter (fun y => decide ((gi H y.2).2.2.2 ≠ -1))).map (fun y => (y.1, val0 H y.2)))
  | [], out, _, _ => by simp [foldB]
  | y :: l, out, h, ho => by
    have hy := h y List.mem_cons_self
    rw [List.length_cons] at ho
    rw [foldB, m_types_Unify_R2, need_pos (by omega)]
    dsimp only
    by_cases hb : (gi H y.2).2.2.2 = -1
    · rw [if_neg (fun h => h hb), Option.bind_some, uni_fold hi hl l out (fun z hz => h z (List.mem_cons_of_mem _ hz)) (by omega), List.filter_cons_of_neg (by simp [hb])]
    · rw [if_pos hb, vWrite hi hl hy.1 hy.2.1 hy.2.2, bnd1_mk, vClipN, bnd1_mk, need_pos (by simp; omega), Option.bind_some]
      dsimp only
      rw [uni_fold hi hl l _ (fun z hz => h z (List.mem_cons_of_mem _ hz)) (by simp; omega), List.filter_cons_of_pos (by simp [hb]), List.map_cons, List.append_assoc]
      rfl
/-- A variable is bound exactly if another tree stands for it. -/
theorem Two.bnd {p q : List Nd} {m : List (Int × Int)} {H : List Hn} {k l : Int} (h : Two p q m H k l) {H' : List Hn} {E : (Int → List Nd) → Prop} (u : UOk H H' E) {v x : Int} (hx : lookL m v = some x) : (gi H' x).2.2.2 ≠ -1 ↔ val0 H' x ≠ [(1, v, 0)] := by
  obtain ⟨i, rfl, g2, g3⟩ := h.inv.look _ _ hx
  have g4 : i < H'.length := by rw [u.len]; exact g2
  obtain ⟨s1, s2, _⟩ := u.same i g2 g4
  rw [gi_nat g4]
  constructor
  · intro hb e
    obtain ⟨rk, hr, hrb⟩ := rank_small u.inv
    obtain ⟨j, j1, j2, j3, j4⟩ := val0_vars u.inv hr (rk (i : Int) + 1) i (by omega) g4 v (by rw [e]; simp [vsN])
    have h5 : j < H.length := by rw [← u.len]; exact j1
    obtain ⟨t1, t2, _⟩ := u.same j h5 j1
    have h6 := h.inv.vars j h5 (by rw [← t1]; exact j2)
    rw [← t2, j4, hx] at h6
    obtain rfl : i = j := by have := Option.some.inj h6; omega
    exact hb j3
  · intro hv hb
    exact hv (by rw [val0_var u.inv g4 hb (by rw [s1, g3]), s2, g3])
/-- What Unify answers, told so that one answer alone is possible. -/
def UX (p q : List Nd) (s : List Bd) (e : Int) : Prop :=
  ∃ k m1 H1 l m H, m_terms_Reader_Read [] p [] = some (k, [], m1, H1) ∧ m_terms_Reader_Read m1 q H1 = some (l, [], m, H) ∧ Two p q m H k l ∧
    ((s = [] ∧ EC (Sol H) k l e) ∨ ∃ σ, Mgu p q σ ∧ ((vdB (sbt σ p) = false ∧ s = [] ∧ e = 10) ∨ (vdB (sbt σ p) = true ∧ e = 0 ∧ SrK s ∧ ∀ v t, lookL s v = some t ↔ (v ∈ vsN p ∨ v ∈ vsN q) ∧ σ v ≠ [(1, v, 0)] ∧ t = σ v)))
theorem vUnify {p q : List Nd} (hp : vdB p = true) (hq : vdB q = true) : ∃ s e, m_types_Unify p q = some (s, e) ∧ (e ≠ 0 → s = [] ∧ ∀ τ, TrS τ → sbt τ p = sbt τ q → vdB (sbt τ p) = false) ∧
    (e = 0 → ∃ σ, Mgu p q σ ∧ vdB (sbt σ p) = true ∧ sbB s = true ∧ s.length ≤ 1024 ∧ (∀ v, v ∈ vsN p ∨ v ∈ vsN q → (lookL s v).getD [(1, v, 0)] = σ v) ∧ ∀ v, lookL s v ≠ none → v ∈ vsN p ∨ v ∈ vsN q) ∧ UX p q s e := by
  have tp := vd_tr.1 hp
  have tq := vd_tr.1 hq
  obtain ⟨k, m1, H1, l, m, H, e1, e2, two⟩ := two_read tp.1 tq.1 (by omega) (by omega)
  have hlen : H.length ≤ 1024 := by have := two.len; omega
  have hi := two.inv.hinv
  obtain ⟨e, u', H', e3, h0, hne⟩ := vUni hi two.inv.ls two.inv.varU (by omega) two.idk.1 two.idk.2 two.idl.1 two.idl.2
  unfold m_types_Unify
  simp only [jn_eq]
  rw [vValid, hp, bnd1_mk, vValid, hq, bnd1_mk]
  simp only [Bool.not_true, Bool.false_eq_true, ↓reduceIte]
  rw [e1, bnd1_mk, e2, bnd1_mk]
  dsimp only
  rw [e3, bnd1_mk]
  by_cases he : e = 0
  · subst he
    obtain ⟨u, _⟩ := h0 rfl
    obtain ⟨M, hk⟩ := two.mgu u
    rw [if_neg (by simp), vFits u.inv (by rw [u.len]; omega) two.idk.1 (by rw [u.len]; exact two.idk.2), bnd1_mk, hk]
    dsimp only
    cases hv : vdB (sbt (sg m H') p) with
    | false =>
      rw [Bool.not_false, if_pos rfl]
      refine ⟨[], 10, rfl, fun _ => ⟨rfl, fun τ hτ ht => ?_⟩, (fun h => by simp at h), k, m1, H1, l, m, H, e1, e2, two, .inr ⟨_, M, .inl ⟨hv, rfl, rfl⟩⟩⟩
      cases hv2 : vdB (sbt τ p) with
      | false => rfl
      | true =>
        have t2 := vd_tr.1 hv2
        have hcomp : sbt τ (sbt (sg m H') p) = sbt τ p := by
          rw [sbt_sbt]
          exact sbt_congr (fun v hv => (M.gen τ hτ ht v (.inl hv)).symm)
        obtain ⟨ee, hee⟩ := tp.1.sbt M.tr
        have h3 := (tr_parts hτ hee (by rw [hcomp]; exact t2.1)).1
        have h4 := (sbt_lens hτ (sbt (sg m H') p)).1
        rw [hcomp] at h4
        rw [vd_tr.2 ⟨h3, by omega⟩] at hv
        cases hv
    | true =>
      have t2 := vd_tr.1 hv
      rw [Bool.not_true, if_neg (by simp)]
      have hpart : ∀ v, v ∈ vsN p ∨ v ∈ vsN q → Tr 64 (sg m H' v) ∧ (sg m H' v).length ≤ 512 := fun v hv => by
        rcases hv with hv | hv
        · exact ⟨(tr_parts M.tr tp.1 t2.1).2 v hv, by have := (sbt_lens M.tr p).2 v hv; omega⟩
        · have t3 := t2
          rw [M.eq] at t3
          exact ⟨(tr_parts M.tr tq.1 t3.1).2 v hv, by have := (sbt_lens M.tr q).2 v hv; omega⟩
      have hmem : ∀ y ∈ m, 0 ≤ y.2 ∧ y.2 < (H'.length : Int) ∧ (val0 H' y.2).length ≤ 1000000 ∧ (0 ≤ y.1 ∧ y.1 ≤ 1073741824) := fun y hy => by
        have h1 := mem_lookL two.inv.nd (v := y.1) (x := y.2) hy
        obtain ⟨i, g1, g2, g3⟩ := two.inv.look _ _ h1
        have h2 := (hpart y.1 (two.keys y.1 (by rw [h1]; simp))).2
        rw [sg_some h1] at h2
        have h3 := (var_kids (two.inv.form i g2) (by rw [g3])).2
        rw [g3] at h3
        exact ⟨by omega, by rw [u.len]; omega, by omega, h3⟩
      have hml : m.length ≤ 1024 := by
        have hinj : (m.map (·.2)).Nodup := by
          rw [List.nodup_iff_pairwise_ne, List.pairwise_map]
          have hnd := two.inv.nd
          rw [NdK, List.nodup_iff_pairwise_ne, List.pairwise_map] at hnd
          refine List.Pairwise.imp_of_mem (fun {a b} ha hb h e => h ?_) hnd
          have h1 := mem_lookL two.inv.nd (v := a.1) (x := a.2) ha
          have h2 := mem_lookL two.inv.nd (v := b.1) (x := b.2) hb
          obtain ⟨i, g1, g2, g3⟩ := two.inv.look _ _ h1
          obtain ⟨j, g4, g5, g6⟩ := two.inv.look _ _ h2
          have hij : i = j := by omega
          subst hij
          rw [g3] at g6
          exact congrArg (fun z : Hn => z.2.1) g6
        have hsub : (m.map (·.2)).length ≤ ((List.range H.length).map (fun n : Nat => (n : Int))).length := List.Nodup.length_le_of_subset hinj (fun x hx => by
          obtain ⟨y, hy, rfl⟩ := List.mem_map.1 hx
          have h1 := mem_lookL two.inv.nd (v := y.1) (x := y.2) hy
          obtain ⟨i, g1, g2, _⟩ := two.inv.look _ _ h1
          exact List.mem_map.2 ⟨i, List.mem_range.2 g2, g1.symm⟩)
        simp only [List.length_map, List.length_range] at hsub
        omega
      obtain ⟨hlk, hnd⟩ := bnd_look two.inv.nd H' 0
      have hkb : ∀ l' : List (Int × Int), l'.Perm m → ∀ x ∈ (l'.filter (fun y => decide ((gi H' y.2).2.2.2 ≠ -1))).map (fun y => (y.1, val0 H' y.2)), 0 ≤ x.1 ∧ x.1 ≤ 4611686018427387903 := fun l' hpm x hx => by
        obtain ⟨y, hy, rfl⟩ := List.mem_map.1 hx
        have := (hmem y (hpm.mem_iff.1 (List.mem_filter.1 hy).1)).2.2.2
        dsimp only; omega
      have hol : ∀ l' : List (Int × Int), l'.Perm m → ((l'.filter (fun y => decide ((gi H' y.2).2.2.2 ≠ -1))).map (fun y => (y.1, val0 H' y.2))).length ≤ 1024 := fun l' hpm => by
        rw [List.length_map]
        have := List.length_filter_le (fun y : Int × Int => decide ((gi H' y.2).2.2.2 ≠ -1)) l'
        have := hpm.length_eq
        omega
      obtain ⟨r, r1, r2, r3⟩ := sort_keys (c := m_types_Unify_1) (fun a b => rfl) hnd (hkb m (List.Perm.refl m)) (by have := hol m (List.Perm.refl m); omega)
      have hrl : ∀ v, lookL r v = (lookL m v).bind (fun x => if (gi H' x).2.2.2 ≠ -1 then some (val0 H' x) else none) := fun v => by
        rw [lookL_perm hnd r2, (bnd_look two.inv.nd H' v).1]
      have hvar : ∀ v, v ∈ vsN p ∨ v ∈ vsN q → (lookL r v).getD [(1, v, 0)] = sg m H' v := fun v hv => by
        cases hx : lookL m v with
        | none => exact absurd hx (two.all v hv)
        | some x =>
          rw [hrl, hx, Option.bind_some, sg_some hx]
          by_cases hb : (gi H' x).2.2.2 ≠ -1
          · rw [if_pos hb]; rfl
          · rw [if_neg hb, Option.getD_none]
            obtain ⟨i, rfl, g2, g3⟩ := two.inv.look _ _ hx
            have g4 : i < H'.length := by rw [u.len]; exact g2
            obtain ⟨s1, s2, _⟩ := u.same i g2 g4
            rw [gi_nat g4] at hb
            rw [val0_var u.inv g4 (Classical.not_not.1 hb) (by rw [s1, g3]), s2, g3]
      refine ⟨r, 0, ?_, (fun h => absurd rfl h), fun _ => ⟨sg m H', M, hv, ?_, ?_, hvar, fun v hv => ?_⟩, k, m1, H1, l, m, H, e1, e2, two, .inr ⟨_, M, .inr ⟨hv, rfl, r3, fun v t => ?_⟩⟩⟩
      · refine rngC_mk fun l' hpm => ?_
        rw [uni_fold u.inv (by rw [u.len]; omega) l' [] (fun y hy => by obtain ⟨a, b, c, _⟩ := hmem y (hpm.mem_iff.1 hy); exact ⟨a, b, c⟩) (by rw [hpm.length_eq]; simp; omega), Option.bind_some, List.nil_append]
        dsimp only
        have hn' : NdK l' := (hpm.map _).nodup_iff.2 two.inv.nd
        obtain ⟨hlk', hnd'⟩ := bnd_look hn' H' 0
        obtain ⟨r', s1, s2, s3⟩ := sort_keys (c := m_types_Unify_1) (fun a b => rfl) hnd' (hkb l' hpm) (by have := hol l' hpm; omega)
        have : r' = r := srk_ext s3 r3 (fun v => by rw [lookL_perm hnd' s2, (bnd_look hn' H' v).1, hrl, lookL_perm two.inv.nd hpm])
        subst this
        rw [s1, bnd1_mk, vClipB, bnd1_mk]
      · refine sbC_of r3 (fun x hx => ?_) (fun v h => by cases h)
        have h1 : lookL r x.1 = some x.2 := mem_lookL r3.nd hx
        have h2 := hvar x.1 (by
          have h3 := hrl x.1
          rw [h1] at h3
          cases hz : lookL m x.1 with
          | none => rw [hz] at h3; cases h3
          | some z => exact two.keys _ (by rw [hz]; simp))
        have h3 : x.1 ∈ vsN p ∨ x.1 ∈ vsN q := by
          have h3 := hrl x.1
          rw [h1] at h3
          cases hz : lookL m x.1 with
          | none => rw [hz] at h3; cases h3
          | some z => exact two.keys _ (by rw [hz]; simp)
        rw [h1, Option.getD_some] at h2
        rw [h2]
        exact vd_tr.2 (hpart _ h3)
      · rw [r2.length_eq]; exact hol m (List.Perm.refl m)
      · rw [hrl] at hv
        cases hz : lookL m v with
        | none => rw [hz] at hv; exact absurd rfl hv
        | some z => exact two.keys _ (by rw [hz]; simp)
      · rw [hrl]
        cases hz : lookL m v with
        | none =>
          rw [Option.bind_none]
          exact ⟨fun h => by simp at h, fun h => absurd hz (two.all v h.1)⟩
        | some z =>
          rw [Option.bind_some, sg_some hz]
          have hb := two.bnd u hz
          by_cases hbb : (gi H' z).2.2.2 ≠ -1
          · rw [if_pos hbb]
            exact ⟨fun h => ⟨two.keys v (by rw [hz]; simp), hb.1 hbb, (Option.some.inj h).symm⟩, fun h => by rw [h.2.2]⟩
          · rw [if_neg hbb]
            exact ⟨fun h => by simp at h, fun h => absurd (hb.2 h.2.1) hbb⟩
  · rw [if_pos he]
    refine ⟨[], e, rfl, fun _ => ⟨rfl, fun τ hτ ht => ?_⟩, (fun h => absurd h he), k, m1, H1, l, m, H, e1, e2, two, .inl ⟨rfl, hne he⟩⟩
    obtain ⟨val, hS, a1, a2, _⟩ := two.ex hτ
    exact absurd (show val k = val l by rw [a1, a2, ht]) ((hne he).no val hS)
end Go.Proofs.YtdfdjgolijckfaaDoor
/- The solver of the reference: its graph as a heap; find, contains. -/
namespace Go.Proofs.YtdfdjgolijckfaaDoor
attribute [local irreducible] FU
abbrev Sd := (Int × Int × Int) × (List Int) × Int
abbrev SV := List Sd × List (Int × Int)
def hn (s : Sd) : Hn := (s.1.1, s.1.2.1, s.2.1, s.2.2)
/-- The graph as a heap. -/
def cG (G : List Sd) : List Hn := G.map hn
/-- The nodes say how many children they have. -/
def CntOk (G : List Sd) : Prop := ∀ i (h : i < G.length), G[i].1.2.2 = (G[i].2.1.length : Int)
theorem cG_len (G : List Sd) : (cG G).length = G.length := List.length_map ..
theorem cG_get {G : List Sd} {i : Nat} (h : i < G.length) : (cG G)[i]'(by rw [cG_len]; exact h) = hn G[i] := List.getElem_map ..
theorem cG_set (G : List Sd) (i : Nat) (b : Int) (h : i < G.length) : cG (G.set i ((gi G (i : Int)).1, (gi G (i : Int)).2.1, b)) = bdH (cG G) i b := by
  unfold bdH
  have h' : i < (cG G).length := by rw [cG_len]; exact h
  rw [gi_nat h, gi_nat h', cG_get h]
  exact List.map_set ..
theorem sFindL {G : List Sd} {m : List (Int × Int)} (hi : HInv (cG G)) {rk : Int → Nat} (hr : Rk (cG G) rk) (K : Int → Option (Int × SV)) (K' : Int → Option (Int × List Hn)) : ∀ (n : Nat) (x : Int), rk x < n → 0 ≤ x → x < (G.length : Int) →
    ∃ y : Nat, m_ref6_solver_find_L2 (G, m) K n x = K (y : Int) ∧ m_terms_Term_Find_L2 (cG G) K' n x = K' (y : Int)
  | 0, _, h, _, _ => by omega
  | n + 1, x, hlt, h0, h1 => by
    obtain ⟨i, rfl⟩ : ∃ i : Nat, x = (i : Int) := ⟨x.toNat, by omega⟩
    have hil : i < G.length := by omega
    have hil' : i < (cG G).length := by rw [cG_len]; exact hil
    have e : (cG G)[i] = hn G[i] := cG_get hil
    have hb := hi.bnd i hil'
    have hrk := (hr i hil').1
    rw [e, cG_len] at hb
    rw [e] at hrk
    dsimp only [hn] at hb hrk
    rw [m_ref6_solver_find_L2, m_ref6_solver_find_B2, m_terms_Term_Find_L2, m_terms_Term_Find_B2, need_pos (by first | omega | (dsimp only; omega)), need_pos (by first | omega | (dsimp only; omega)), gi_nat hil, gi_nat hil', e]
    show ∃ y : Nat, (if 0 ≤ G[i].2.2 then _ else _) = _ ∧ (if G[i].2.2 ≠ -1 then _ else _) = _
    by_cases hbb : G[i].2.2 = -1
    · rw [if_neg (by omega), if_neg (fun h => h hbb)]
      exact ⟨i, rfl, rfl⟩
    · rcases hb with h2 | ⟨h2, h3, _⟩
      · exact absurd h2 hbb
      · rw [if_pos h2, if_pos hbb, need_pos (by first | omega | (dsimp only; omega))]
        try rw [need_pos (by first | omega | (dsimp only; omega))]
        exact sFindL hi hr K K' n _ (by have := hrk hbb; exact Nat.lt_of_lt_of_le this (by omega)) h2 h3
theorem sFind {G : List Sd} (hi : HInv (cG G)) (hl : G.length ≤ 1000000) {rk : Int → Nat} (hr : Rk (cG G) rk) (hb : ∀ x, rk x ≤ G.length) (m : List (Int × Int)) {x : Int} (h0 : 0 ≤ x) (h1 : x < (G.length : Int)) :
    ∃ y : Nat, m_ref6_solver_find (G, m) x = some ((y : Int), (G, m)) ∧ Root (cG G) x y ∧ ∃ hy : y < G.length, G[y].2.2 = -1 ∧ (∀ val, Sol (cG G) val → val x = val (y : Int)) ∧ rk (y : Int) ≤ rk x := by
  obtain ⟨y, e1, hy, e2, e3, e4⟩ := vFind hi (by rw [cG_len]; exact hl) hr (by rw [cG_len]; exact hb) h0 (by rw [cG_len]; exact h1)
  obtain ⟨z, f1, f2⟩ := sFindL (m := m) hi hr (fun z => some (z, (G, m))) (fun z => some (z, cG G)) FU x (by have := hb x; have := FU_ge; omega) h0 h1
  have e5 : Root (cG G) x y := e1
  have hz : z = y := by
    unfold m_terms_Term_Find at e1
    rw [jn_eq, f2] at e1
    have := congrArg Prod.fst (Option.some.inj e1)
    dsimp only at this; omega
  subst hz
  rw [cG_len] at hy
  refine ⟨z, ?_, e5, hy, ?_, e3, e4⟩
  · unfold m_ref6_solver_find
    rw [jn_eq]; exact f1
  · have e6 := cG_get hy
    rw [e6] at e2; exact e2
/-! ### contains -/
def Mb (s : List Bool) (y : Nat) : Prop := gi s (y : Int) = true
theorem mb_set {s : List Bool} {y z : Nat} (hy : y < s.length) (hz : z < s.length) : Mb (s.set y true) z ↔ z = y ∨ Mb s z := by
  unfold Mb
  rw [gi_nat (by rw [List.length_set]; exact hz), gi_nat hz, List.getElem_set]
  by_cases e : y = z
  · subst e; simp
  · rw [if_neg e]
    constructor
    · exact .inr
    · rintro (h | h)
      · exact absurd h.symm e
      · exact h
/-- The search has met nothing: what it has marked is closed. -/
structure Clb (H : List Hn) (v : Nat) (s s' : List Bool) : Prop where
  mono : ∀ y, y < H.length → Mb s y → Mb s' y
  clo : ∀ y, y < H.length → Mb s' y → Mb s y ∨ (y ≠ v ∧ ∀ k ∈ (gi H (y : Int)).2.2.1, ∃ z, Root H k z ∧ z < H.length ∧ Mb s' z)
theorem Clb.trans {H : List Hn} {v : Nat} {a b c : List Bool} (h : Clb H v a b) (k : Clb H v b c) : Clb H v a c :=
  ⟨fun y hl hy => k.mono y hl (h.mono y hl hy), fun y hl hy => by
    rcases k.clo y hl hy with h1 | h1
    · rcases h.clo y hl h1 with h2 | ⟨h2, h4⟩
      · exact .inl h2
      · exact .inr ⟨h2, fun x hx => by obtain ⟨z, z1, z0, z2⟩ := h4 x hx; exact ⟨z, z1, z0, k.mono z z0 z2⟩⟩
    · exact .inr h1⟩
abbrev CR := Bool × SV × List Bool
def ConA (G : List Sd) (m : List (Int × Int)) (v : Nat) (t : Int) (s : List Bool) (o : Option CR) : Prop :=
  ∃ b s', o = some (b, (G, m), s') ∧ s'.length = s.length ∧ (b = true → Reach (cG G) v t) ∧ (b = false → Clb (cG G) v s s' ∧ ∃ z, Root (cG G) t z ∧ z < G.length ∧ Mb s' z)
theorem conL {G : List Sd} {m : List (Int × Int)} {v : Nat} {self : SV → Int → Int → List Bool → Option CR} {y1 : Int × SV} (h0 : 0 ≤ y1.1) (h1 : y1.1 < (G.length : Int)) {ks : List Int} (hks : (gi G y1.1).2.1 = ks) (hk9 : ks.length ≤ 9) (K : List Sd → List (Int × Int) → List Bool → Option CR)
    (hself : ∀ k ∈ ks, ∀ s : List Bool, s.length = G.length → ConA G m v k s (self (G, m) k (v : Int) s)) : ∀ (pa : List Int) (j n : Nat) (s : List Bool), ks.drop j = pa → j + pa.length = ks.length → pa.length < n → s.length = G.length →
    (∃ s', m_ref6_solver_contains_L2 self (v : Int) y1 K n G m s (j : Int) = K G m s' ∧ s'.length = s.length ∧ Clb (cG G) v s s' ∧ ∀ k ∈ pa, ∃ z, Root (cG G) k z ∧ z < G.length ∧ Mb s' z) ∨
    (∃ s', m_ref6_solver_contains_L2 self (v : Int) y1 K n G m s (j : Int) = some (true, (G, m), s') ∧ s'.length = s.length ∧ ∃ k ∈ pa, Reach (cG G) v k)
  | [], j, n, s, hd, hj, hn, hs => by
    obtain ⟨n, rfl⟩ : ∃ q, n = q + 1 := ⟨n - 1, by omega⟩
    simp only [List.length_nil] at hj
    exact .inl ⟨s, by rw [m_ref6_solver_contains_L2, m_ref6_solver_contains_B2, need_pos (by omega), hks, if_neg (by omega)], rfl, ⟨fun _ _ h => h, fun _ _ h => .inl h⟩, by simp⟩
  | x :: pa, j, n, s, hd, hj, hn, hs => by
    obtain ⟨n, rfl⟩ : ∃ q, n = q + 1 := ⟨n - 1, by omega⟩
    simp only [List.length_cons] at hj hn
    have hja : j < ks.length := by omega
    have hxa : ks[j] = x ∧ ks.drop (j + 1) = pa := by rw [List.drop_eq_getElem_cons hja] at hd; exact ⟨(List.cons.inj hd).1, (List.cons.inj hd).2⟩
    obtain ⟨b, s1, e1, l1, p1, p2⟩ := hself x (by rw [← hxa.1]; exact List.getElem_mem hja) s hs
    rw [m_ref6_solver_contains_L2, m_ref6_solver_contains_B2, need_pos (by omega), hks, if_pos (by omega), need_pos (by omega), need_pos (by omega), gi_nat hja, hxa.1, e1, bnd1_mk, i64s (by omega)]
    dsimp only
    cases b with
    | true =>
      rw [if_pos rfl]
      exact .inr ⟨s1, rfl, l1, x, List.mem_cons_self, p1 rfl⟩
    | false =>
      rw [if_neg (by simp)]
      obtain ⟨c1, z, z1, z0, z2⟩ := p2 rfl
      rcases conL h0 h1 hks hk9 K hself pa (j + 1) n s1 hxa.2 (by omega) (by omega) (by omega) with ⟨s2, e2, l2, c2, ha⟩ | ⟨s2, e2, l2, k, k1, k2⟩
      · refine .inl ⟨s2, e2, by omega, c1.trans c2, fun k hk => ?_⟩
        rcases List.mem_cons.1 hk with rfl | hk
        · exact ⟨z, z1, z0, c2.mono z (by rw [cG_len]; exact z0) z2⟩
        · exact ha k hk
      · exact .inr ⟨s2, e2, by omega, k, List.mem_cons_of_mem _ k1, k2⟩
theorem con_ok {G : List Sd} (hi : HInv (cG G)) (hl : G.length ≤ 1000000) {rk : Int → Nat} (hr : Rk (cG G) rk) (hb : ∀ x, rk x ≤ G.length) (m : List (Int × Int)) {v : Nat} : ∀ (n : Nat) (t : Int) (s : List Bool), rk t < n → 0 ≤ t → t < (G.length : Int) → s.length = G.length → ConA G m v t s (m_ref6_solver_contains_S n (G, m) t (v : Int) s)
  | 0, _, _, h, _, _, _ => by omega
  | n + 1, t, s, hlt, h0, h1, hs => by
    obtain ⟨y, e1, e5, hy, e2, e3, e4⟩ := sFind hi hl hr hb m h0 h1
    rw [m_ref6_solver_contains_S, m_ref6_solver_contains_F, e1, bnd1_mk]
    simp only [jn_eq]
    by_cases hv : (y : Int) = (v : Int)
    · rw [if_pos hv, if_pos trivial]
      obtain rfl : y = v := by omega
      exact ⟨true, s, by rw [decide_eq_true rfl], rfl, fun _ => .here e5, (fun h => by cases h)⟩
    · rw [if_neg hv, need_pos (by omega)]
      by_cases hm : gi s (y : Int) = true
      · rw [if_pos hm]
        exact ⟨false, s, by rw [decide_eq_false hv], rfl, (fun h => by cases h), fun _ => ⟨⟨fun _ _ h => h, fun _ _ h => .inl h⟩, y, e5, hy, hm⟩⟩
      · rw [if_neg hm, need_pos (by omega), Int.toNat_natCast]
        have hy' : y < (cG G).length := by rw [cG_len]; exact hy
        have hkl := fm_kids (hi.form y hy')
        have hkk := hi.kids y hy'
        have hkr := (hr y hy').2
        have e6 := cG_get hy
        rw [e6] at hkl hkk hkr
        dsimp only [hn] at hkl hkk hkr
        rw [cG_len] at hkk
        have hys : y < s.length := by omega
        rcases conL (G := G) (m := m) (v := v) (self := m_ref6_solver_contains_S n) (y1 := ((y : Int), (G, m))) (by dsimp only; omega) (by dsimp only; omega) (ks := G[y].2.1) (by dsimp only; rw [gi_nat hy]) (by omega) (fun a b c => some (false, (a, b), c))
          (fun k hk s hs => con_ok hi hl hr hb m n k s (by have := hkr e2 k hk; omega) (hkk k hk).1 (hkk k hk).2 hs) G[y].2.1 0 FU (s.set y true) rfl (by omega) (by have := FU_ge; omega) (by rw [List.length_set]; exact hs) with ⟨s', f1, f2, c, ha⟩ | ⟨s', f1, f2, k, k1, k2⟩
        · refine ⟨false, s', f1, by rw [f2, List.length_set], (fun h => by cases h), fun _ => ⟨⟨fun z hz hm => c.mono z hz ((mb_set hys (by rw [cG_len] at hz; omega)).2 (.inr hm)), fun z hz hm => ?_⟩, y, e5, hy, c.mono y hy' ((mb_set hys hys).2 (.inl rfl))⟩⟩
          rcases c.clo z hz hm with h7 | h7
          · rcases (mb_set hys (by rw [cG_len] at hz; omega)).1 h7 with rfl | h8
            · refine .inr ⟨by omega, fun k hk => ?_⟩
              rw [gi_nat hy', e6] at hk
              obtain ⟨w, w1, w2, w3⟩ := ha k hk
              exact ⟨w, w1, by rw [cG_len]; exact w2, w3⟩
            · exact .inl h8
          · exact .inr h7
        · refine ⟨true, s', f1, by rw [f2, List.length_set], fun _ => .step e5 hy' (by rw [gi_nat hy', e6]; exact k1) k2, (fun h => by cases h)⟩
theorem clb_noreach {H : List Hn} {v : Nat} {s : List Bool} (h : ∀ y, y < H.length → Mb s y → y ≠ v ∧ ∀ k ∈ (gi H (y : Int)).2.2.1, ∃ z, Root H k z ∧ z < H.length ∧ Mb s z) {t : Int} (hr : Reach H v t) : ∀ z, Root H t z → z < H.length → ¬ Mb s z := by
  induction hr with
  | here h1 =>
    intro z hz hl hm
    exact (h z hl hm).1 (Root.det hz h1)
  | step h1 hy hk _ ih =>
    intro z hz hl hm
    have := Root.det hz h1
    subst this
    obtain ⟨w, w1, w0, w2⟩ := (h _ hl hm).2 _ hk
    exact ih w w1 w0 w2
theorem con_top {G : List Sd} (hi : HInv (cG G)) (hl : G.length ≤ 1000000) {rk : Int → Nat} (hr : Rk (cG G) rk) (hb : ∀ x, rk x ≤ G.length) (m : List (Int × Int)) {v : Nat} {t : Int} (h0 : 0 ≤ t) (h1 : t < (G.length : Int)) :
    ∃ b s', m_ref6_solver_contains (G, m) t (v : Int) (List.replicate (Int.toNat (G.length : Int)) (false : Bool)) = some (b, (G, m), s') ∧ (b = true ↔ Reach (cG G) v t) := by
  obtain ⟨b, s', e, _, h2, h3⟩ := con_ok hi hl hr hb m (v := v) FU t (List.replicate (Int.toNat (G.length : Int)) (false : Bool)) (by have := hb t; have := FU_ge; omega) h0 h1 (by simp)
  refine ⟨b, s', e, h2, fun hR => ?_⟩
  cases hbb : b with
  | true => rfl
  | false =>
    obtain ⟨c, z, z1, z0, z2⟩ := h3 hbb
    refine absurd z2 (clb_noreach (fun y hy hm => (c.clo y hy hm).resolve_left (fun h => ?_)) hR z z1 (by rw [cG_len]; exact z0))
    rw [cG_len] at hy
    unfold Mb at h
    rw [gi_nat (by simpa using hy)] at h
    simp at h
end Go.Proofs.YtdfdjgolijckfaaDoor
/- The solver of the reference: same. -/
namespace Go.Proofs.YtdfdjgolijckfaaDoor
attribute [local irreducible] FU
theorem Same.val {H : List Hn} (hi : HInv H) (hl : H.length ≤ 1000000) {x y : Int} (x0 : 0 ≤ x) (x1 : x < (H.length : Int)) (y0 : 0 ≤ y) (y1 : y < (H.length : Int)) (h : Same H x y) {val : Int → List Nd} (hS : Sol H val) : val x = val y := by
  obtain ⟨rk, hr, hb⟩ := rank_small hi
  obtain ⟨z, h1, h2⟩ := h
  obtain ⟨p, e1, _, _, e3, _⟩ := vFind hi hl hr hb x0 x1
  obtain ⟨q, f1, _, _, f3, _⟩ := vFind hi hl hr hb y0 y1
  obtain rfl := Root.det h1 e1
  obtain rfl := Root.det h2 f1
  rw [e3 val hS, f3 val hS]
theorem Same.symm {H : List Hn} {x y : Int} (h : Same H x y) : Same H y x := by
  obtain ⟨z, h1, h2⟩ := h; exact ⟨z, h2, h1⟩
theorem Same.trans {H : List Hn} {x y z : Int} (h : Same H x y) (k : Same H y z) : Same H x z := by
  obtain ⟨p, h1, h2⟩ := h
  obtain ⟨q, k1, k2⟩ := k
  obtain rfl := Root.det h2 k1
  exact ⟨p, h1, k2⟩
theorem bd_same {H : List Hn} (hl : H.length ≤ 1000000) {a b : Nat} (ha : a < H.length) (hb : b < H.length) (hbf : H[b].2.2.2 = -1) (hab : a ≠ b) (hi' : HInv (bdH H a (b : Int))) : Same (bdH H a (b : Int)) (a : Int) (b : Int) := by
  have hl' : (bdH H a (b : Int)).length ≤ 1000000 := by rw [bnd_len]; exact hl
  have hr : Root (bdH H a (b : Int)) (b : Int) b := root_self (by rw [bnd_len]; exact hb) (by rw [bnd_get hb, if_neg (fun e => hab e.symm)]; exact hbf)
  have hg : (bdH H a (b : Int))[a]'(by rw [bnd_len]; exact ha) = (H[a].1, H[a].2.1, H[a].2.2.1, (b : Int)) := by rw [bnd_get ha, if_pos rfl]
  refine ⟨b, root_bound hi' hl' (by rw [bnd_len]; exact ha) (by rw [hg]; dsimp only; omega) ?_, hr⟩
  rw [hg]; exact hr
/-- Two nodes whose children are the same become one. -/
theorem UOk.merge {H : List Hn} (hi : HInv H) (hs : Ls H) (hl : H.length ≤ 1000000) {a b : Nat} (hab : a ≠ b) (ha : a < H.length) (hf : H[a].2.2.2 = -1) (hv : ¬ H[a].1 = 1) (hb : b < H.length) (hbf : H[b].2.2.2 = -1) (hbv : ¬ H[b].1 = 1)
    (h1 : H[a].1 = H[b].1) (h2 : H[a].2.1 = H[b].2.1) (h3 : H[a].2.2.1.length = H[b].2.2.1.length) (hk : ∀ p (h : p < H[a].2.2.1.length) (h' : p < H[b].2.2.1.length), Same H H[a].2.2.1[p] H[b].2.2.1[p]) : UOk H (bdH H a (b : Int)) (fun val => val (a : Int) = val (b : Int)) := by
  have hkv : ∀ {H1 : List Hn}, HInv H1 → H1.length = H.length → (∀ p (h : p < H[a].2.2.1.length) (h' : p < H[b].2.2.1.length), Same H1 H[a].2.2.1[p] H[b].2.2.1[p]) → ∀ val, Sol H1 val → H[a].2.2.1.map val = H[b].2.2.1.map val := fun {H1} hi1 hl1 hk1 val hS => by
    refine List.ext_getElem (by rw [List.length_map, List.length_map, h3]) (fun p p1 p2 => ?_)
    rw [List.length_map] at p1 p2
    rw [List.getElem_map, List.getElem_map]
    have k1 := hi.kids a ha _ (List.getElem_mem p1)
    have k2 := hi.kids b hb _ (List.getElem_mem p2)
    exact (hk1 p p1 p2).val hi1 (by omega) k1.1 (by omega) k2.1 (by omega) hS
  have hE : ∀ val, Sol H val → val (a : Int) = val (b : Int) := fun val hS => (node_eq hi ha hb hf hbf hv hbv hS).2 ⟨h1, h2, h3, hkv hi rfl hk val hS⟩
  obtain ⟨rk, hr, hrb⟩ := rank_small hi
  have hn : ¬ Reach H a (b : Int) := fun h => by
    have h5 := (reach_len hi hl hr hrb (val0_sol hi) h (by omega) (by omega)).2 (fun h => hab (Root.det h (root_self hb hbf)))
    rw [hE _ (val0_sol hi)] at h5
    omega
  have hi' := bnd_inv hi hl ha hf (.inr (by rw [gi_nat hb]; exact hbv)) hb hbf hn
  refine ⟨hi', fun i hil j hjl e hj => ?_, bnd_len H a b, fun i g1 g2 => ?_, fun val => ?_, .inr (nv_bd ha hf (by omega)), fun x y x0 x1 y0 y1 h => bnd_same hi hl ha hf hb hbf hab hi' x0 x1 y0 y1 h⟩
  · rw [bnd_len] at hil hjl
    rw [bnd_get hil] at e ⊢
    rw [bnd_get hjl] at hj ⊢
    have hj1 : H[j].1 = 1 := by
      by_cases h : j = a
      · subst h; rw [if_pos rfl] at hj; exact hj
      · rw [if_neg h] at hj; exact hj
    have hjn : (if j = a then (H[j].1, H[j].2.1, H[j].2.2.1, (b : Int)) else H[j]).2.1 = H[j].2.1 := by split <;> rfl
    rw [hjn]
    by_cases h : i = a
    · subst h
      rw [if_pos rfl] at e ⊢
      dsimp only at e
      obtain rfl : b = j := by omega
      exact absurd hj1 hbv
    · rw [if_neg h] at e ⊢
      exact hs i hil j hjl e hj1
  · rw [bnd_get g1]; split <;> exact ⟨rfl, rfl, rfl⟩
  · constructor
    · intro h
      have hab' : val (a : Int) = val (b : Int) := by
        have := h a (by rw [bnd_len]; exact ha)
        rw [bnd_get ha, if_pos rfl] at this
        dsimp only at this
        rw [if_pos (by omega)] at this
        exact this
      refine ⟨fun i hil => ?_, hab'⟩
      have g := h i (by rw [bnd_len]; exact hil)
      rw [bnd_get hil] at g
      by_cases e : i = a
      · subst e
        have gb := h b (by rw [bnd_len]; exact hb)
        rw [bnd_get hb, if_neg (show ¬ b = i from fun e => hab e.symm), hbf, if_neg (by simp), if_neg hbv] at gb
        have hkk := hkv hi' (bnd_len _ _ _) (fun p p1 p2 => by
          have k1 := hi.kids i ha _ (List.getElem_mem p1)
          have k2 := hi.kids b hb _ (List.getElem_mem p2)
          exact bnd_same hi hl ha hf hb hbf hab hi' k1.1 k1.2 k2.1 k2.2 (hk p p1 p2)) val h
        rw [hf, if_neg (by simp), if_neg hv, hab', gb, h1, h2, h3, hkk]
      · rw [if_neg e] at g; exact g
    · rintro ⟨h, _⟩ i hil
      rw [bnd_len] at hil
      rw [bnd_get hil]
      by_cases e : i = a
      · subst e
        rw [if_pos rfl]
        dsimp only
        rw [if_pos (by omega)]; exact hE val h
      · rw [if_neg e]; exact h i hil
/-- What stays of the graph. -/
def GSt (G G' : List Sd) : Prop := G'.length = G.length ∧ ∀ i (_ : i < G.length) (_ : i < G'.length), G'[i].1 = G[i].1 ∧ G'[i].2.1 = G[i].2.1
theorem GSt.refl (G : List Sd) : GSt G G := ⟨rfl, fun _ _ _ => ⟨rfl, rfl⟩⟩
theorem GSt.trans {G H K : List Sd} (h : GSt G H) (k : GSt H K) : GSt G K := ⟨k.1.trans h.1, fun i h1 h2 => by
  have h3 : i < H.length := by rw [h.1]; exact h1
  obtain ⟨a, b⟩ := h.2 i h1 h3
  obtain ⟨c, d⟩ := k.2 i h3 h2
  exact ⟨c.trans a, d.trans b⟩⟩
theorem GSt.set {G : List Sd} {i : Nat} (h : i < G.length) (b : Int) : GSt G (G.set i ((gi G (i : Int)).1, (gi G (i : Int)).2.1, b)) := ⟨List.length_set, fun j h1 h2 => by
  rw [List.getElem_set]
  by_cases e : i = j
  · subst e; rw [if_pos rfl, gi_nat h]; exact ⟨rfl, rfl⟩
  · rw [if_neg e]; exact ⟨rfl, rfl⟩⟩
theorem GSt.cnt {G G' : List Sd} (h : GSt G G') (hc : CntOk G) : CntOk G' := fun i h1 => by
  have h2 : i < G.length := by rw [← h.1]; exact h1
  obtain ⟨a, b⟩ := h.2 i h2 h1
  rw [a, b]; exact hc i h2
theorem GSt.kids {G G' : List Sd} (h : GSt G G') {a : Nat} (ha : a < G.length) : (gi G' (a : Int)).2.1 = (gi G (a : Int)).2.1 := by
  have h2 : a < G'.length := by rw [h.1]; exact ha
  rw [gi_nat h2, gi_nat ha]; exact (h.2 a ha h2).2
/-- Nodes that have been bound are no longer than x. -/
def Bdd (G G' : List Sd) (P : (Int → List Nd) → Nat → Prop) : Prop := ∀ i (_ : i < G.length) (_ : i < G'.length), G[i].2.2 = -1 → G'[i].2.2 ≠ -1 → ∀ val, Sol (cG G') val → P val (val (i : Int)).length
structure RK (G G' : List Sd) (a b : Int) : Prop where
  ok : UOk (cG G) (cG G') (fun val => val a = val b)
  sm : Same (cG G') a b
  bdd : Bdd G G' (fun val n => n ≤ (val a).length)
  gs : GSt G G'
def RA (G : List Sd) (m : List (Int × Int)) (a b : Int) (o : Option (Int × SV)) : Prop :=
  ∃ e G', o = some (e, (G', m)) ∧ (e = 0 → RK G G' a b) ∧ (e ≠ 0 → EC (Sol (cG G)) a b e)
theorem RK.symm {G G' : List Sd} {a b : Int} (h : RK G G' a b) : RK G G' b a :=
  ⟨h.ok.iff (fun _ _ => eq_comm), h.sm.symm, fun i h1 h2 h3 h4 val hS => by dsimp only; rw [← ((h.ok.sol val).1 hS).2]; exact h.bdd i h1 h2 h3 h4 val hS, h.gs⟩
theorem RA.symm {G : List Sd} {m : List (Int × Int)} {a b : Int} {o : Option (Int × SV)} (h : RA G m a b o) : RA G m b a o := by
  obtain ⟨e, G', h1, h2, h3⟩ := h
  exact ⟨e, G', h1, fun he => (h2 he).symm, fun he => (h3 he).symm⟩
theorem RA.root {G : List Sd} {m : List (Int × Int)} (hi : HInv (cG G)) (hl : G.length ≤ 1000000) {a b : Int} {ra rb : Nat} {o : Option (Int × SV)} (h : RA G m (ra : Int) (rb : Int) o) (a0 : 0 ≤ a) (a1 : a < (G.length : Int)) (b0 : 0 ≤ b) (b1 : b < (G.length : Int)) (har : ra < G.length) (hbr : rb < G.length) (haf : G[ra].2.2 = -1) (hbf : G[rb].2.2 = -1) (ha : Root (cG G) a ra) (hb : Root (cG G) b rb) : RA G m a b o := by
  obtain ⟨e, G', h1, h2, h3⟩ := h
  have hl' : (cG G).length ≤ 1000000 := by rw [cG_len]; exact hl
  have har' : ra < (cG G).length := by rw [cG_len]; exact har
  have hbr' : rb < (cG G).length := by rw [cG_len]; exact hbr
  have sa : Same (cG G) a (ra : Int) := ⟨ra, ha, root_self har' (by rw [cG_get har]; exact haf)⟩
  have sb : Same (cG G) b (rb : Int) := ⟨rb, hb, root_self hbr' (by rw [cG_get hbr]; exact hbf)⟩
  have va : ∀ val, Sol (cG G) val → val (ra : Int) = val a := fun val hS => (sa.val hi hl' a0 (by rw [cG_len]; exact a1) (by omega) (by omega) hS).symm
  have vb : ∀ val, Sol (cG G) val → val (rb : Int) = val b := fun val hS => (sb.val hi hl' b0 (by rw [cG_len]; exact b1) (by omega) (by omega) hS).symm
  refine ⟨e, G', h1, fun he => ?_, fun he => (h3 he).cong (fun val hS => ⟨va val hS, vb val hS⟩)⟩
  have k := h2 he
  refine ⟨k.ok.iff (fun val hS => by rw [va val hS, vb val hS]), ?_, fun i h1 h2 h3 h4 val hS => by dsimp only; rw [← va val ((k.ok.sol val).1 hS).1]; exact k.bdd i h1 h2 h3 h4 val hS, k.gs⟩
  exact ((k.ok.keepS _ _ a0 (by rw [cG_len]; exact a1) (by omega) (by omega) sa).trans k.sm).trans (k.ok.keepS _ _ b0 (by rw [cG_len]; exact b1) (by omega) (by omega) sb).symm
/-- A binding. -/
theorem RK.bind {G : List Sd} (hl : G.length ≤ 1000000) {a b : Nat} (ha : a < G.length) (hb : b < G.length) (hbf : G[b].2.2 = -1) (hab : a ≠ b) (k : UOk (cG G) (bdH (cG G) a (b : Int)) (fun val => val (a : Int) = val (b : Int))) : RK G (G.set a ((gi G (a : Int)).1, (gi G (a : Int)).2.1, (b : Int))) (a : Int) (b : Int) := by
  have e := cG_set G a (b : Int) ha
  refine ⟨by rw [e]; exact k, ?_, fun i h1 h2 h3 h4 val hS => ?_, GSt.set ha _⟩
  · rw [e]
    exact bd_same (by rw [cG_len]; exact hl) (by rw [cG_len]; exact ha) (by rw [cG_len]; exact hb) (by rw [cG_get hb]; exact hbf) hab k.inv
  · rw [List.getElem_set] at h4
    by_cases e2 : a = i
    · subst e2; exact Nat.le_refl _
    · rw [if_neg e2] at h4; exact absurd h3 h4
theorem sameL {self : SV → Int → Int → Option (Int × SV)} {m : List (Int × Int)} {N L : Nat} {y1 y3 : Int × SV} {a b : Nat} (hy1 : y1.1 = (a : Int)) (hy3 : y3.1 = (b : Int)) {ka kb : List Int} (ha1 : a < L) (hb1 : b < L) (hlen : ka.length = kb.length) (hk9 : ka.length ≤ 9)
    (hself : ∀ (G : List Sd) (x y : Int), HInv (cG G) → Ls (cG G) → VarU (cG G) → CntOk G → G.length = L → 0 ≤ x → x < (L : Int) → 0 ≤ y → y < (L : Int) → (∃ rk, Rk (cG G) rk ∧ (∀ z, rk z ≤ L) ∧ nv (cG G) * (L + 1) + rk x < N) → RA G m x y (self (G, m) x y))
    (K : List Sd → List (Int × Int) → Option (Int × SV)) :
    ∀ (pa pb : List Int) (j n : Nat) (G : List Sd), ka.drop j = pa → kb.drop j = pb → j + pa.length = ka.length → pa.length < n → HInv (cG G) → Ls (cG G) → VarU (cG G) → CntOk G → G.length = L → (gi G (a : Int)).2.1 = ka → (gi G (b : Int)).2.1 = kb →
      (∀ k ∈ pa, 0 ≤ k ∧ k < (L : Int)) → (∀ k ∈ pb, 0 ≤ k ∧ k < (L : Int)) → (∃ rk, Rk (cG G) rk ∧ (∀ z, rk z ≤ L) ∧ ∀ k ∈ pa, nv (cG G) * (L + 1) + rk k < N) →
      (∃ G', m_ref6_solver_same_L2 self y1 y3 K n G m (j : Int) = K G' m ∧ UOk (cG G) (cG G') (fun val => pa.map val = pb.map val) ∧ GSt G G' ∧ Bdd G G' (fun val n => ∃ k ∈ pa, n ≤ (val k).length) ∧ ∀ p (h : p < pa.length) (h' : p < pb.length), Same (cG G') pa[p] pb[p]) ∨
      (∃ e G', m_ref6_solver_same_L2 self y1 y3 K n G m (j : Int) = some (e, (G', m)) ∧ ¬ e = 0 ∧ ECs (Sol (cG G)) pa pb e)
  | [], pb, j, n, G, hda, hdb, hj, hn, hi, hs, hvu, hc, hL, hga, hgb, _, _, _ => by
    obtain ⟨n, rfl⟩ : ∃ q, n = q + 1 := ⟨n - 1, by omega⟩
    have hlb := congrArg List.length hdb
    simp only [List.length_drop, List.length_nil] at hlb hj
    obtain rfl := List.eq_nil_of_length_eq_zero (show pb.length = 0 by omega)
    exact .inl ⟨G, by rw [m_ref6_solver_same_L2, m_ref6_solver_same_B2, hy1, need_pos (by omega), hga, if_neg (by omega)], UOk.refl hi hs (fun _ _ => rfl), GSt.refl G, fun i h1 h2 h3 h4 => absurd h3 h4, fun p h => by simp at h⟩
  | x :: pa, [], j, n, G, hda, hdb, hj, hn, hi, hs, hvu, hc, hL, hga, hgb, _, _, _ => by
    have hlb := congrArg List.length hdb
    simp only [List.length_drop, List.length_nil, List.length_cons] at hlb hj
    omega
  | x :: pa, y :: pb, j, n, G, hda, hdb, hj, hn, hi, hs, hvu, hc, hL, hga, hgb, hra, hrb, ⟨rk, hr, hrl, hN⟩ => by
    obtain ⟨n, rfl⟩ : ∃ q, n = q + 1 := ⟨n - 1, by omega⟩
    simp only [List.length_cons] at hj hn
    have hja : j < ka.length := by omega
    have hjb : j < kb.length := by omega
    have hxa : ka[j] = x ∧ ka.drop (j + 1) = pa := by rw [List.drop_eq_getElem_cons hja] at hda; exact ⟨(List.cons.inj hda).1, (List.cons.inj hda).2⟩
    have hyb : kb[j] = y ∧ kb.drop (j + 1) = pb := by rw [List.drop_eq_getElem_cons hjb] at hdb; exact ⟨(List.cons.inj hdb).1, (List.cons.inj hdb).2⟩
    have hx := hra x List.mem_cons_self
    have hy := hrb y List.mem_cons_self
    have hNx := hN x List.mem_cons_self
    obtain ⟨e, G1, e1, h0, hne⟩ := hself G x y hi hs hvu hc hL hx.1 hx.2 hy.1 hy.2 ⟨rk, hr, hrl, hNx⟩
    rw [m_ref6_solver_same_L2, m_ref6_solver_same_B2, hy1, hy3, need_pos (by omega), hga, if_pos (by omega), need_pos (by omega), need_pos (by omega), need_pos (by omega), hgb, need_pos (by omega), gi_nat hja, gi_nat hjb, hxa.1, hyb.1, e1, bnd1_mk]
    dsimp only
    by_cases he : e = 0
    · subst he
      rw [if_neg (by simp), i64s (by omega)]
      have k1 := h0 rfl
      have hL1 : G1.length = L := by rw [k1.gs.1, hL]
      have hf1 : ∃ rk, Rk (cG G1) rk ∧ (∀ z, rk z ≤ L) ∧ ∀ k ∈ pa, nv (cG G1) * (L + 1) + rk k < N := by
        rcases k1.ok.prog with h | h
        · rw [h]; exact ⟨rk, hr, hrl, fun k hk => hN k (List.mem_cons_of_mem _ hk)⟩
        · obtain ⟨rk1, r1, r2⟩ := rank_small k1.ok.inv
          rw [cG_len, hL1] at r2
          refine ⟨rk1, r1, r2, fun k _ => ?_⟩
          have h3 := r2 k
          have h4 : (nv (cG G1) + 1) * (L + 1) ≤ nv (cG G) * (L + 1) := Nat.mul_le_mul_right _ h
          rw [Nat.add_mul, Nat.one_mul] at h4
          omega
      have ih := sameL hy1 hy3 ha1 hb1 hlen hk9 hself K pa pb (j + 1) n G1 hxa.2 hyb.2 (by omega) (by omega) k1.ok.inv k1.ok.ls (k1.ok.varU hvu) (k1.gs.cnt hc) hL1 (by rw [k1.gs.kids (by omega), hga]) (by rw [k1.gs.kids (by omega), hgb]) (fun k hk => hra k (List.mem_cons_of_mem _ hk)) (fun k hk => hrb k (List.mem_cons_of_mem _ hk)) hf1
      rcases ih with ⟨G2, e2, k2, s2, d2, sm⟩ | ⟨e, G2, e2, k2, k3⟩
      · refine .inl ⟨G2, e2, k1.ok.trans k2 (fun val _ => ?_), k1.gs.trans s2, fun i h1 h2 h3 h4 val hS => ?_, fun p h h' => ?_⟩
        · rw [List.map_cons, List.map_cons, List.cons.injEq]
        · have hi1 : i < G1.length := by rw [hL1, ← hL]; exact h1
          by_cases hb1 : G1[i].2.2 = -1
          · obtain ⟨k, q1, q2⟩ := d2 i hi1 h2 hb1 h4 val hS
            exact ⟨k, List.mem_cons_of_mem _ q1, q2⟩
          · exact ⟨x, List.mem_cons_self, k1.bdd i h1 hi1 h3 hb1 val ((k2.sol val).1 hS).1⟩
        · cases p with
          | zero =>
            exact k2.keepS _ _ hx.1 (by rw [cG_len, hL1]; exact hx.2) hy.1 (by rw [cG_len, hL1]; exact hy.2) k1.sm
          | succ p => exact sm p (by simpa using h) (by simpa using h')
      · exact .inr ⟨e, G2, e2, k2, k3.tail k1.ok.sol⟩
    · rw [if_pos he]
      exact .inr ⟨e, G1, rfl, he, .head (hne he)⟩
end Go.Proofs.YtdfdjgolijckfaaDoor
/- The solver of the reference: what same answers. -/
namespace Go.Proofs.YtdfdjgolijckfaaDoor
attribute [local irreducible] FU
theorem con_bind {G : List Sd} {m : List (Int × Int)} (hi : HInv (cG G)) (hs : Ls (cG G)) (hl : G.length ≤ 1000000) {v t : Nat} (hvl : v < G.length) (hvf : G[v].2.2 = -1) (hv : G[v].1.1 = 1) (htl : t < G.length) (htf : G[t].2.2 = -1) (ht : ¬ G[t].1.1 = 1) :
    RA G m (v : Int) (t : Int) (need ((0 : Int) ≤ (List.length G : Int) ∧ ((List.length G : Int) : Int) ≤ 137438953472) (bnd1 (m_ref6_solver_contains (G, m) (t : Int) (v : Int) (List.replicate (Int.toNat (List.length G : Int)) (false : Bool))) (fun y27 => if y27.1 then (some (8, (y27.2.1.1, y27.2.1.2))) else (need ((0 : Int) ≤ (v : Int) ∧ (v : Int) < (List.length y27.2.1.1 : Int)) (some (0, ((List.set y27.2.1.1 (Int.toNat (v : Int)) ((gi y27.2.1.1 (v : Int)).1, (gi y27.2.1.1 (v : Int)).2.1, (t : Int))), y27.2.1.2))))))) := by
  obtain ⟨rk, hr, hb⟩ := rank_small hi
  obtain ⟨b, s', e, h1⟩ := con_top hi hl hr (by rw [cG_len] at hb; exact hb) m (v := v) (t := (t : Int)) (by omega) (by omega)
  have hvt : v ≠ t := fun e => by subst e; exact ht hv
  have hvl' : v < (cG G).length := by rw [cG_len]; exact hvl
  have htl' : t < (cG G).length := by rw [cG_len]; exact htl
  have hvf' : (cG G)[v].2.2.2 = -1 := by rw [cG_get hvl]; exact hvf
  have htf' : (cG G)[t].2.2.2 = -1 := by rw [cG_get htl]; exact htf
  have hv' : (cG G)[v].1 = 1 := by rw [cG_get hvl]; exact hv
  have ht' : ¬ (cG G)[t].1 = 1 := by rw [cG_get htl]; exact ht
  rw [need_pos (by omega), e, bnd1_mk]
  dsimp only
  cases hbb : b with
  | true =>
    refine ⟨8, G, by rw [if_pos rfl], (fun h => by simp at h), fun _ => .inf ⟨val0 (cG G), val0_sol hi, .inl (by rw [val0_var hi hvl' hvf' hv']; rfl)⟩ (fun val hS hE => ?_)⟩
    have := (reach_len hi (by rw [cG_len]; exact hl) hr hb hS (h1.1 hbb) (by omega) (by omega)).2 (fun h => hvt (Root.det h (root_self htl' htf')))
    rw [hE] at this
    omega
  | false =>
    have hn : ¬ Reach (cG G) v (t : Int) := fun h => by rw [h1.2 h] at hbb; cases hbb
    have k := UOk.bind hi hs (by rw [cG_len]; exact hl) hvl' hvf' hv' htl' htf' hn (fun h => absurd h ht')
    exact ⟨0, _, by rw [if_neg (by simp), need_pos (by omega), Int.toNat_natCast], fun _ => .bind hl hvl htl htf hvt k, (fun h => absurd rfl h)⟩
theorem same_ok {L : Nat} (hl : L ≤ 1000000) (m : List (Int × Int)) : ∀ (n : Nat) (G : List Sd) (a b : Int), HInv (cG G) → Ls (cG G) → VarU (cG G) → CntOk G → G.length = L → 0 ≤ a → a < (L : Int) → 0 ≤ b → b < (L : Int) → (∃ rk, Rk (cG G) rk ∧ (∀ z, rk z ≤ L) ∧ nv (cG G) * (L + 1) + rk a < n) → RA G m a b (m_ref6_solver_same_S n (G, m) a b)
  | 0, _, _, _, _, _, _, _, _, _, _, _, _, ⟨_, _, _, h⟩ => by omega
  | n + 1, G, a, b, hi, hs, hvu, hc, hL, a0, a1, b0, b1, ⟨rk, hr, hrb, hnn⟩ => by
    subst hL
    have hl' : (cG G).length ≤ 1000000 := by rw [cG_len]; exact hl
    obtain ⟨ya, e1, ra1, hya, fa, va, ra⟩ := sFind hi hl hr hrb m a0 a1
    obtain ⟨yb, e2, rb1, hyb, fb, vb, _⟩ := sFind hi hl hr hrb m b0 b1
    refine RA.root hi hl (ra := ya) (rb := yb) ?_ a0 a1 b0 b1 hya hyb fa fb ra1 rb1
    have ga : gi G (ya : Int) = G[ya] := gi_nat hya
    have gb : gi G (yb : Int) = G[yb] := gi_nat hyb
    have hya' : ya < (cG G).length := by rw [cG_len]; exact hya
    have hyb' : yb < (cG G).length := by rw [cG_len]; exact hyb
    have ca := cG_get hya
    have cb := cG_get hyb
    have fa' : (cG G)[ya].2.2.2 = -1 := by rw [ca]; exact fa
    have fb' : (cG G)[yb].2.2.2 = -1 := by rw [cb]; exact fb
    rw [m_ref6_solver_same_S, m_ref6_solver_same_F, e1, bnd1_mk]
    dsimp only
    rw [e2, bnd1_mk]
    dsimp only
    rw [need_pos (by omega), need_pos (by omega)]
    by_cases hab : (ya : Int) = (yb : Int)
    · rw [if_pos hab]
      obtain rfl : ya = yb := by omega
      exact ⟨0, G, rfl, fun _ => ⟨UOk.refl hi hs (fun _ _ => rfl), ⟨ya, root_self hya' fa', root_self hya' fa'⟩, fun i h1 h2 h3 h4 => absurd h3 h4, GSt.refl G⟩, (fun h => absurd rfl h)⟩
    · have hne : ya ≠ yb := fun h => hab (by rw [h])
      rw [if_neg hab]
      simp only [jn_eq, ga, gb]
      by_cases hva : G[ya].1.1 = 1
      · have hva' : (cG G)[ya].1 = 1 := by rw [ca]; exact hva
        rw [if_pos hva]
        by_cases hvb : G[yb].1.1 = 1
        · have hvb' : (cG G)[yb].1 = 1 := by rw [cb]; exact hvb
          rw [decide_eq_true hvb, if_pos rfl]
          by_cases hlt : G[yb].1.2.1 < G[ya].1.2.1
          · have k := UOk.bind hi hs hl' hya' fa' hva' hyb' fb' (var_noreach hi hyb' fb' hvb' (fun h => hne h.symm)) (fun _ => by rw [ca, cb]; exact hlt)
            rw [if_pos hlt, need_pos (by omega), Int.toNat_natCast]
            exact ⟨0, _, rfl, fun _ => by have := RK.bind hl hya hyb fb hne k; rw [ga] at this; exact this, (fun h => absurd rfl h)⟩
          · have hlt2 : G[ya].1.2.1 < G[yb].1.2.1 := by
              rcases Int.lt_or_le G[ya].1.2.1 G[yb].1.2.1 with h | h
              · exact h
              · exact absurd (hvu ya hya' yb hyb' hva' hvb' (by rw [ca, cb]; show G[ya].1.2.1 = G[yb].1.2.1; omega)) hne
            have k := UOk.bind hi hs hl' hyb' fb' hvb' hya' fa' (var_noreach hi hya' fa' hva' hne) (fun _ => by rw [ca, cb]; exact hlt2)
            rw [if_neg hlt, need_pos (by omega), Int.toNat_natCast]
            exact ⟨0, _, rfl, fun _ => by have := (RK.bind hl hyb hya fa (fun e => hne e.symm) k).symm; rw [gb] at this; exact this, (fun h => absurd rfl h)⟩
        · rw [decide_eq_false hvb, if_neg (by simp), if_pos hva, if_pos trivial, if_neg hvb]
          exact con_bind hi hs hl hya fa hva hyb fb hvb
      · have hva' : ¬ (cG G)[ya].1 = 1 := by rw [ca]; exact hva
        rw [if_neg hva, if_neg (by simp)]
        by_cases hvb : G[yb].1.1 = 1
        · rw [if_neg hva, decide_eq_true hvb, if_pos rfl, if_pos hvb]
          exact (con_bind hi hs hl hyb fb hvb hya fa hva).symm
        · have hvb' : ¬ (cG G)[yb].1 = 1 := by rw [cb]; exact hvb
          rw [if_neg hva, decide_eq_false hvb, if_neg (by simp)]
          by_cases hx : (G[ya].1.1, G[ya].1.2.1, G[ya].1.2.2) = (G[yb].1.1, G[yb].1.2.1, G[yb].1.2.2)
          · rw [if_neg (fun h => h hx)]
            have x1 : G[ya].1.1 = G[yb].1.1 := congrArg (fun z : Nd => z.1) hx
            have x2 : G[ya].1.2.1 = G[yb].1.2.1 := congrArg (fun z : Nd => z.2.1) hx
            have x3 : G[ya].2.1.length = G[yb].2.1.length := by
              have := congrArg (fun z : Nd => z.2.2) hx
              have h1 := hc ya hya
              have h2 := hc yb hyb
              dsimp only at this; omega
            have hk9 := fm_kids (hi.form ya hya')
            have hka := hi.kids ya hya'
            have hkb := hi.kids yb hyb'
            have hrk := (hr ya hya').2 fa'
            rw [ca] at hk9 hka hrk
            rw [cb] at hkb
            dsimp only [hn] at hk9 hka hkb hrk
            rw [cG_len] at hka hkb
            have hL := sameL (self := m_ref6_solver_same_S n) (m := m) (N := n) (L := G.length) (y1 := ((ya : Int), (G, m))) (y3 := ((yb : Int), (G, m))) (a := ya) (b := yb) rfl rfl (ka := G[ya].2.1) (kb := G[yb].2.1) hya hyb x3 (by omega)
              (fun G x y hi hs hvu hc hL x0 x1 y0 y1 hf => same_ok hl m n G x y hi hs hvu hc hL x0 x1 y0 y1 hf)
              (fun x0_0_j30 x0_1_j30 => bnd1 (m_ref6_solver_find (x0_0_j30, x0_1_j30) (ya : Int)) (fun y80 => bnd1 (m_ref6_solver_find (y80.2.1, y80.2.2) (yb : Int)) (fun y82 => if ¬ y80.1 = y82.1 then (need ((0 : Int) ≤ y80.1 ∧ y80.1 < (List.length y82.2.1 : Int)) (some ((0 : Int), ((List.set y82.2.1 (Int.toNat y80.1) ((gi y82.2.1 y80.1).1, (gi y82.2.1 y80.1).2.1, y82.1)), y82.2.2)))) else (some (0, (y82.2.1, y82.2.2))))))
              G[ya].2.1 G[yb].2.1 0 FU G rfl rfl (by omega) (by have := FU_ge; omega) hi hs hvu hc rfl (by rw [ga]) (by rw [gb]) hka hkb
              ⟨rk, hr, hrb, fun k hk => by have := hrk k hk; omega⟩
            rw [show ((0 : Nat) : Int) = 0 from rfl] at hL
            rcases hL with ⟨G1, e3, k, gs, bd, sm⟩ | ⟨e, G1, e3, k2, k3⟩
            · have hE : ∀ val, Sol (cG G1) val → val (ya : Int) = val (yb : Int) ∧ ∀ q ∈ G[ya].2.1, (val q).length < (val (ya : Int)).length := fun val hS => by
                have hS0 := (k.sol val).1 hS
                have n1 := node_val hya' fa' hva' hS0.1
                have n2 := node_val hyb' fb' hvb' hS0.1
                rw [ca] at n1
                rw [cb] at n2
                dsimp only [hn] at n1 n2
                refine ⟨by rw [n1, n2, x1, x2, x3, hS0.2], fun q hq => ?_⟩
                rw [n1, List.length_cons]
                have := flat_mem_len (val := val) hq
                omega
              have hg1 : G1.length = G.length := gs.1
              have hya1 : ya < G1.length := by omega
              have hyb1 : yb < G1.length := by omega
              have fa1 : G1[ya].2.2 = -1 := by
                rcases Classical.em (G1[ya].2.2 = -1) with h | h
                · exact h
                · obtain ⟨q, q1, q2⟩ := bd ya hya hya1 fa h _ (val0_sol k.inv)
                  have := (hE _ (val0_sol k.inv)).2 q q1
                  omega
              have fb1 : G1[yb].2.2 = -1 := by
                rcases Classical.em (G1[yb].2.2 = -1) with h | h
                · exact h
                · obtain ⟨q, q1, q2⟩ := bd yb hyb hyb1 fb h _ (val0_sol k.inv)
                  have := (hE _ (val0_sol k.inv)).2 q q1
                  have := congrArg List.length (hE _ (val0_sol k.inv)).1
                  omega
              have hya2 : ya < (cG G1).length := by rw [cG_len]; exact hya1
              have hyb2 : yb < (cG G1).length := by rw [cG_len]; exact hyb1
              obtain ⟨sa1, sa2⟩ := gs.2 ya hya hya1
              obtain ⟨sb1, sb2⟩ := gs.2 yb hyb hyb1
              have ca1 := cG_get hya1
              have cb1 := cG_get hyb1
              obtain ⟨rk1, hr1, hrb1⟩ := rank_small k.inv
              rw [cG_len] at hrb1
              obtain ⟨za, z1, z2, _⟩ := sFind k.inv (by omega) hr1 hrb1 m (x := (ya : Int)) (by omega) (by omega)
              obtain ⟨zb, w1, w2, _⟩ := sFind k.inv (by omega) hr1 hrb1 m (x := (yb : Int)) (by omega) (by omega)
              have hroa : Root (cG G1) (ya : Int) ya := root_self hya2 (by rw [ca1]; exact fa1)
              have hrob : Root (cG G1) (yb : Int) yb := root_self hyb2 (by rw [cb1]; exact fb1)
              obtain rfl := Root.det z2 hroa
              obtain rfl := Root.det w2 hrob
              have km := UOk.merge k.inv k.ls (by rw [cG_len]; omega) hne hya2 (by rw [ca1]; exact fa1) (by rw [ca1]; show ¬ G1[za].1.1 = 1; rw [sa1]; exact hva) hyb2 (by rw [cb1]; exact fb1) (by rw [cb1]; show ¬ G1[zb].1.1 = 1; rw [sb1]; exact hvb)
                (by rw [ca1, cb1]; show G1[za].1.1 = G1[zb].1.1; rw [sa1, sb1]; exact x1) (by rw [ca1, cb1]; show G1[za].1.2.1 = G1[zb].1.2.1; rw [sa1, sb1]; exact x2) (by rw [ca1, cb1]; show G1[za].2.1.length = G1[zb].2.1.length; rw [sa2, sb2]; exact x3)
                (by simp only [ca1, cb1, hn, sa2, sb2]; exact sm)
              have kb := RK.bind (by omega) hya1 hyb1 fb1 hne km
              rw [e3, z1, bnd1_mk]
              dsimp only
              rw [w1, bnd1_mk]
              dsimp only
              rw [if_pos hab, need_pos (by omega), Int.toNat_natCast]
              refine ⟨0, _, rfl, fun _ => ⟨k.trans kb.ok (fun val hS => ?_), kb.sm, fun i h1 h2 h3 h4 val hS => ?_, gs.trans kb.gs⟩, (fun h => absurd rfl h)⟩
              · rw [node_eq hi hya' hyb' fa' fb' hva' hvb' hS]
                simp only [ca, cb, hn]
                exact ⟨fun h => ⟨h.2.2.2, h⟩, fun h => h.2⟩
              · have hi1 : i < G1.length := by omega
                by_cases hb1 : G1[i].2.2 = -1
                · exact kb.bdd i hi1 h2 hb1 h4 val hS
                · have hS1 := ((kb.ok.sol val).1 hS).1
                  obtain ⟨q, q1, q2⟩ := bd i h1 hi1 h3 hb1 val hS1
                  have := (hE val hS1).2 q q1
                  dsimp only; omega
            · rw [e3]
              refine ⟨e, G1, rfl, fun h => absurd h k2, fun _ => EC.node hi hya' hyb' fa' fb' hva' hvb' ?_ ?_ ?_ ?_⟩
              · rw [ca, cb]; exact x1
              · rw [ca, cb]; exact x2
              · rw [ca, cb]; exact x3
              · rw [ca, cb]; exact k3
          · rw [if_pos hx]
            refine ⟨6, G, rfl, (fun h => by simp at h), fun _ => .typ ⟨_, val0_sol hi⟩ (fun val hS => ?_)⟩
            rw [node_val hya' fa' hva' hS, node_val hyb' fb' hvb' hS]
            refine ⟨hva', hvb', fun h => hx ?_⟩
            have h1 := hc ya hya
            have h2 := hc yb hyb
            rw [h1, h2]
            rw [ca, cb] at h
            exact h
theorem vSame2 {G : List Sd} {m : List (Int × Int)} (hi : HInv (cG G)) (hs : Ls (cG G)) (hvu : VarU (cG G)) (hc : CntOk G) (hl : G.length ≤ 1000000) {a b : Int} (a0 : 0 ≤ a) (a1 : a < (G.length : Int)) (b0 : 0 ≤ b) (b1 : b < (G.length : Int)) : RA G m a b (m_ref6_solver_same (G, m) a b) := by
  obtain ⟨rk, hr, hrb⟩ := rank_small hi
  rw [cG_len] at hrb
  refine same_ok hl m FU G a b hi hs hvu hc rfl a0 a1 b0 b1 ⟨rk, hr, hrb, ?_⟩
  have h1 := nv_le (cG G)
  rw [cG_len] at h1
  have h2 := hrb a
  have h3 : nv (cG G) * (G.length + 1) ≤ 1000000 * 1000001 := Nat.mul_le_mul (by omega) (by omega)
  have := FU_ge
  omega
end Go.Proofs.YtdfdjgolijckfaaDoor
/- The solver of the reference: add. -/
namespace Go.Proofs.YtdfdjgolijckfaaDoor
attribute [local irreducible] FU
theorem CntOk.snoc {G : List Sd} (h : CntOk G) {x : Nd} {ks : List Int} {t : Int} (hx : x.2.2 = (ks.length : Int)) : CntOk (G ++ [(x, ks, t)]) := fun i hi => by
  rw [List.length_append, List.length_singleton] at hi
  rcases Nat.lt_or_ge i G.length with h1 | h1
  · rw [List.getElem_append_left h1]; exact h i h1
  · obtain rfl : i = G.length := by omega
    rw [List.getElem_append_right (Nat.le_refl _)]
    simp only [Nat.sub_self, List.getElem_cons_zero]; exact hx
theorem cG_snoc (G : List Sd) (x : Nd) (ks : List Int) (t : Int) : cG (G ++ [(x, ks, t)]) = cG G ++ [(x.1, x.2.1, ks, t)] := by unfold cG; rw [List.map_append]; rfl
/-- What stands for the result of add: the same heap as Read makes. -/
def AddA (A : List Nd) (m : List (Int × Int)) (G : List Sd) (o : Option (Int × SV)) (r : List Nd → Option RR) : Prop :=
  ∃ k m' G', o = some (k, (G', m')) ∧ CntOk G' ∧ (∀ ra, r ra = some (k, ra, m', cG G')) ∧ RInv (cG G') m' ∧ G'.length ≤ G.length + A.length
theorem mem_flat_len {As : List (List Nd)} {A : List Nd} (h : A ∈ As) : A.length ≤ As.flatten.length := (List.sublist_flatten_of_mem h).length_le
theorem AddA.mk {d n : Nat} (hd : d < n) {A : List Nd} {m : List (Int × Int)} {G : List Sd} {o : Option (Int × SV)} (hT : Tr d A) (hm : RInv (cG G) m) (k : Int) (m' : List (Int × Int)) (G' : List Sd) (e : o = some (k, (G', m'))) (c : CntOk G') (r : ∀ ra, m_terms_Reader_Read_S n m (A ++ ra) (cG G) = some (k, ra, m', cG G')) : AddA A m G o (fun ra => m_terms_Reader_Read_S n m (A ++ ra) (cG G)) := by
  obtain ⟨k0, m0, H0, hread, ok⟩ := vReadT d n hd A [] m (cG G) hT hm
  have h := r []
  rw [hread] at h
  have h1 := Option.some.inj h
  have h2 : m0 = m' := congrArg (fun z : RR => z.2.2.1) h1
  have h3 : H0 = cG G' := congrArg (fun z : RR => z.2.2.2) h1
  subst h2; subst h3
  have h4 := ok.len
  rw [cG_len, cG_len] at h4
  exact ⟨k, m0, G', e, c, r, ok.inv, h4⟩
theorem addL {self : SV → List Nd → Option (Int × SV)} {rself : List (Int × Int) → List Nd → List Hn → Option RR} {As : List (List Nd)} (hc9 : As.length ≤ 9)
    (hself : ∀ (A : List Nd) (m : List (Int × Int)) (G : List Sd), A ∈ As → RInv (cG G) m → CntOk G → G.length + A.length ≤ 1000000 → AddA A m G (self (G, m) A) (fun ra => rself m (A ++ ra) (cG G))) :
    ∀ (Bs : List (List Nd)) (j : Nat) (m : List (Int × Int)) (G : List Sd) (acc : List Int), As.drop j = Bs → j + Bs.length = As.length → acc.length ≤ j → RInv (cG G) m → CntOk G → G.length + Bs.flatten.length ≤ 1000000 →
      ∃ ks m' G', (∀ K n, Bs.length < n → m_ref6_solver_add_L2 self As K n G m acc (j : Int) = K G' m' (acc ++ ks)) ∧ ks.length = Bs.length ∧ CntOk G' ∧ RInv (cG G') m' ∧ G'.length ≤ G.length + Bs.flatten.length ∧
        ∀ a1 K' n ra, (gi a1 0).2.2 = (As.length : Int) → Bs.length < n → m_terms_Reader_Read_L2 rself a1 K' n (cG G) m (Bs.flatten ++ ra) acc (j : Int) = K' (cG G') m' ra (acc ++ ks)
  | [], j, m, G, acc, hd, hj, ha, hm, hct, hl => by
    simp only [List.length_nil] at hj
    refine ⟨[], m, G, fun K n hn => ?_, rfl, hct, hm, by simp, fun a1 K' n ra hc hn => ?_⟩
    · obtain ⟨n, rfl⟩ : ∃ q, n = q + 1 := ⟨n - 1, by omega⟩
      rw [m_ref6_solver_add_L2, m_ref6_solver_add_B2, if_neg (by omega), List.append_nil]
    · obtain ⟨n, rfl⟩ : ∃ q, n = q + 1 := ⟨n - 1, by omega⟩
      rw [m_terms_Reader_Read_L2, m_terms_Reader_Read_B2, hc, if_neg (by omega)]; simp
  | A :: Bs, j, m, G, acc, hd, hj, ha, hm, hct, hl => by
    simp only [List.length_cons] at hj
    rw [List.flatten_cons, List.length_append] at hl
    have hja : j < As.length := by omega
    have hxa : As[j] = A ∧ As.drop (j + 1) = Bs := by rw [List.drop_eq_getElem_cons hja] at hd; exact ⟨(List.cons.inj hd).1, (List.cons.inj hd).2⟩
    obtain ⟨k, m1, G1, e1, c1, r1, i1, l1⟩ := hself A m G (by rw [← hxa.1]; exact List.getElem_mem hja) hm hct (by omega)
    obtain ⟨ks, m2, G2, e2, q2, c2, i2, l2, r2⟩ := addL hc9 hself Bs (j + 1) m1 G1 (acc ++ [k]) hxa.2 (by omega) (by first | (simp; done) | (simp; omega)) i1 c1 (by omega)
    refine ⟨k :: ks, m2, G2, fun K n hn => ?_, by simp [q2], c2, i2, by rw [List.flatten_cons, List.length_append]; omega, fun a1 K' n ra hc hn => ?_⟩
    · simp only [List.length_cons] at hn
      obtain ⟨n, rfl⟩ : ∃ q, n = q + 1 := ⟨n - 1, by omega⟩
      rw [m_ref6_solver_add_L2, m_ref6_solver_add_B2, if_pos (by omega), need_pos (by omega), gi_nat hja, hxa.1, e1, bnd1_mk, need_pos (by first | (simp; done) | (simp; omega)), i64s (by omega)]
      dsimp only
      rw [e2 _ _ (by omega), List.append_assoc]; rfl
    · simp only [List.length_cons] at hn
      obtain ⟨n, rfl⟩ : ∃ q, n = q + 1 := ⟨n - 1, by omega⟩
      have r3 := r1 (Bs.flatten ++ ra)
      dsimp only at r3
      rw [List.flatten_cons, List.append_assoc, m_terms_Reader_Read_L2, m_terms_Reader_Read_B2, hc, if_pos (by omega), r3, bnd1_mk, need_pos (by first | (simp; done) | (simp; omega)), i64s (by omega)]
      dsimp only
      rw [r2 _ _ _ _ hc (by omega), List.append_assoc]; rfl
theorem sAdd : ∀ (d n : Nat), d < n → ∀ (A : List Nd) (m : List (Int × Int)) (G : List Sd), Tr d A → A.length ≤ 512 → RInv (cG G) m → CntOk G → G.length + A.length ≤ 1000000 → AddA A m G (m_ref6_solver_add_S n (G, m) A) (fun ra => m_terms_Reader_Read_S n m (A ++ ra) (cG G))
  | _, 0, h, _, _, _, _, _, _, _, _ => by omega
  | 0, n + 1, _, _, _, _, h, _, _, _, _ => h.elim
  | d + 1, n + 1, hn, A, m, G, hT, hA5, hm, hct, hl => by
    obtain ⟨k, mm, As, hA, hf, hAs⟩ := id hT
    subst hA
    have g0 : gi ((k, mm, (As.length : Int)) :: As.flatten) 0 = (k, mm, (As.length : Int)) := rfl
    have g1 : ∀ ra, gi ((k, mm, (As.length : Int)) :: As.flatten ++ ra) 0 = (k, mm, (As.length : Int)) := fun ra => rfl
    have hd1 : ∀ ra, List.drop (Int.toNat 1) ((k, mm, (As.length : Int)) :: As.flatten ++ ra) = As.flatten ++ ra := fun ra => rfl
    have hk9 := fm_kids hf
    dsimp only at hk9
    have hparts := wParts hAs hf hA5
    rw [List.length_cons] at hA5 hl
    by_cases hk : k = 1
    · subst hk
      have hl0 := (var_kids hf rfl).1
      dsimp only at hl0
      obtain rfl := List.eq_nil_of_length_eq_zero (show As.length = 0 by omega)
      obtain ⟨q, hq⟩ := fuk 1 (by omega)
      have hi64 : i64 ((((G ++ [(((1 : Int), mm, (((([] : List (List Nd)).length) : Nat) : Int)), ([] : List Int), (-1 : Int))]).length : Nat) : Int) - 1) = (G.length : Int) := by
        rw [List.length_append, List.length_singleton, i64_id (by omega)]; omega
      cases hx : lookL m mm with
      | none =>
        refine .mk hn hT hm (G.length : Int) (putL m mm (G.length : Int)) (G ++ [((1, mm, 0), [], -1)]) ?_ (hct.snoc rfl) (fun ra => ?_)
        · rw [m_ref6_solver_add_S, m_ref6_solver_add_F]
          simp only [jn_eq]
          rw [need_pos (by simp), g0]
          dsimp only
          rw [if_pos rfl, need_pos (by simp), hx, Option.isSome_none, if_neg (by simp), hparts, bnd1_mk, hq, m_ref6_solver_add_L2, m_ref6_solver_add_B2, if_neg (by simp)]
          rw [need_pos (by simp), need_pos (by first | (simp; done) | (simp; omega)), need_pos (by simp), if_pos rfl, hi64, nilc_eq (fun e => by rw [e]), need_pos (by simp)]
          rfl
        · rw [m_terms_Reader_Read_S, m_terms_Reader_Read_F, need_pos (by first | (simp; done) | (simp; omega)), need_pos (by first | (simp; done) | (simp; omega)), g1, hd1]
          dsimp only
          rw [if_pos rfl, jn_eq, hx, Option.getD_none, if_pos rfl]
          dsimp only
          rw [lookL_put, if_pos rfl, cG_len, cG_snoc]
          rfl
      | some x =>
        obtain ⟨i, h1, h2, h3⟩ := hm.look mm x hx
        refine .mk hn hT hm x m G ?_ hct (fun ra => ?_)
        · rw [m_ref6_solver_add_S, m_ref6_solver_add_F]
          simp only [jn_eq]
          rw [need_pos (by simp), g0]
          dsimp only
          rw [if_pos rfl, need_pos (by simp), hx, Option.isSome_some, if_pos rfl]
          rfl
        · rw [m_terms_Reader_Read_S, m_terms_Reader_Read_F, need_pos (by first | (simp; done) | (simp; omega)), need_pos (by first | (simp; done) | (simp; omega)), g1, hd1]
          dsimp only
          rw [if_pos rfl, jn_eq, hx, Option.getD_some, if_neg (by omega)]
          dsimp only
          rw [hx]
          rfl
    · obtain ⟨ks, m2, G2, e2, q2, c2, i2, l2, r2⟩ := addL (self := m_ref6_solver_add_S n) (rself := m_terms_Reader_Read_S n) (As := As) (by omega)
        (fun A m G hA hm hct hl => sAdd d n (by omega) A m G (hAs A hA) (by have := mem_flat_len hA; omega) hm hct hl)
        As 0 m G [] rfl (by omega) (by simp) hm hct (by omega)
      rw [show ((0 : Nat) : Int) = 0 from rfl, List.nil_append] at e2
      have hi64 : i64 ((((G2 ++ [((k, mm, (As.length : Int)), ks, (-1 : Int))]).length : Nat) : Int) - 1) = (G2.length : Int) := by
        rw [List.length_append, List.length_singleton, i64_id (by omega)]; omega
      refine .mk hn hT hm (G2.length : Int) m2 (G2 ++ [((k, mm, (As.length : Int)), ks, -1)]) ?_ (c2.snoc (by dsimp only; omega)) (fun ra => ?_)
      · rw [m_ref6_solver_add_S, m_ref6_solver_add_F]
        simp only [jn_eq]
        rw [need_pos (by first | (simp; done) | (simp; omega)), g0]
        dsimp only
        rw [if_neg hk, hparts, bnd1_mk, e2 _ FU (by have := FU_ge; omega)]
        rw [need_pos (by first | (simp; done) | (simp; omega)), need_pos (by first | (simp; done) | (simp; omega)), need_pos (by first | (simp; done) | (simp; omega)), if_neg hk, hi64]
      · rw [m_terms_Reader_Read_S, m_terms_Reader_Read_F, need_pos (by first | (simp; done) | (simp; omega)), need_pos (by first | (simp; done) | (simp; omega)), hd1, g1]
        dsimp only
        rw [if_neg hk, jn_eq]
        have r3 := r2 ((k, mm, (As.length : Int)) :: As.flatten ++ ra) (fun xH x0 x1 x7 => some ((List.length xH : Int), x1, x0, (xH ++ [(k, mm, x7, -1)]))) FU ra rfl (by have := FU_ge; omega)
        rw [show ((0 : Nat) : Int) = 0 from rfl, List.nil_append] at r3
        refine Eq.trans ?_ (r3.trans ?_)
        · rfl
        · rw [cG_len, cG_snoc]
end Go.Proofs.YtdfdjgolijckfaaDoor
/- The solver of the reference: add to a solved graph, fits, typ. -/
namespace Go.Proofs.YtdfdjgolijckfaaDoor
attribute [local irreducible] FU
theorem hinv_snoc {H : List Hn} (hi : HInv H) {k mm : Int} {ks : List Int} (hf : fmB (k, mm, (ks.length : Int)) = true) (hks : ∀ x ∈ ks, 0 ≤ x ∧ x < (H.length : Int)) : HInv (H ++ [(k, mm, ks, -1)]) := by
  have hg : ∀ i (hi : i < (H ++ [((k, mm, ks, -1) : Hn)]).length), (∃ h' : i < H.length, (H ++ [((k, mm, ks, -1) : Hn)])[i] = H[i]) ∨ (i = H.length ∧ (H ++ [((k, mm, ks, -1) : Hn)])[i] = (k, mm, ks, -1)) := fun i hi => by
    rw [List.length_append, List.length_singleton] at hi
    rcases Nat.lt_or_ge i H.length with h1 | h1
    · exact .inl ⟨h1, List.getElem_append_left h1⟩
    · have : i = H.length := by omega
      subst this
      exact .inr ⟨rfl, by rw [List.getElem_append_right (Nat.le_refl _)]; simp⟩
  have hlen : ((H ++ [((k, mm, ks, -1) : Hn)]).length : Int) = (H.length : Int) + 1 := by rw [List.length_append, List.length_singleton]; omega
  refine ⟨fun i h => ?_, fun i h => ?_, fun i h => ?_, ?_⟩
  · rcases hg i h with ⟨h1, e⟩ | ⟨_, e⟩ <;> rw [e]
    · rcases hi.bnd i h1 with h2 | ⟨h2, h3, h4⟩
      · exact .inl h2
      · refine .inr ⟨h2, by omega, h4.imp id (fun h5 => ?_)⟩
        obtain ⟨j, hj⟩ : ∃ j : Nat, H[i].2.2.2 = (j : Int) := ⟨H[i].2.2.2.toNat, by omega⟩
        rw [hj] at h3 h5 ⊢
        rw [gi_nat (by omega)] at h5
        rw [gi_nat (by omega), List.getElem_append_left (by omega)]; exact h5
    · exact .inl rfl
  · rcases hg i h with ⟨h1, e⟩ | ⟨_, e⟩ <;> rw [e]
    · intro x hx; have := hi.kids i h1 x hx; omega
    · intro x hx; have := hks x hx; omega
  · rcases hg i h with ⟨h1, e⟩ | ⟨_, e⟩ <;> rw [e]
    · exact hi.form i h1
    · exact hf
  · obtain ⟨rk, hr, hrb⟩ := rank_small hi
    refine ⟨fun x => if x = (H.length : Int) then H.length + 1 else rk x, fun i h => ?_⟩
    rcases hg i h with ⟨h1, e⟩ | ⟨h1, e⟩ <;> rw [e]
    · dsimp only
      rw [if_neg (by omega : ¬ (i : Int) = (H.length : Int))]
      refine ⟨fun hb => ?_, fun hb x hx => ?_⟩
      · rcases hi.bnd i h1 with h2 | ⟨h2, h3, _⟩
        · exact absurd h2 hb
        · rw [if_neg (by omega)]; exact (hr i h1).1 hb
      · have := hi.kids i h1 x hx
        rw [if_neg (by omega)]; exact (hr i h1).2 hb x hx
    · refine ⟨fun hb => absurd rfl hb, fun _ x hx => ?_⟩
      have := hks x hx
      have := hrb x
      dsimp only
      rw [if_neg (by omega), if_pos (by omega)]; omega
theorem wr_app {H T : List Hn} (hi : HInv H) {rk : Int → Nat} (hr : Rk H rk) : ∀ (n : Nat) (x : Int), rk x < n → 0 ≤ x → x < (H.length : Int) → wrF (H ++ T) n x = wrF H n x
  | 0, _, h, _, _ => by omega
  | n + 1, x, h, h0, h1 => by
    obtain ⟨i, rfl⟩ : ∃ i : Nat, x = (i : Int) := ⟨x.toNat, by omega⟩
    have hil : i < H.length := by omega
    rw [wrF, wrF, gi_nat hil, gi_nat (by rw [List.length_append]; omega), List.getElem_append_left hil]
    by_cases hb : H[i].2.2.2 = -1
    · rw [if_neg (fun h => h hb), if_neg (fun h => h hb)]
      congr 2
      refine List.map_congr_left (fun k hk => ?_)
      have h2 := hi.kids i hil k hk
      have h3 := (hr i hil).2 hb k hk
      exact wr_app hi hr n k (by omega) h2.1 h2.2
    · rw [if_pos hb, if_pos hb]
      rcases hi.bnd i hil with h2 | ⟨h2, h3, _⟩
      · exact absurd h2 hb
      · have h4 := (hr i hil).1 hb
        exact wr_app hi hr n _ (by omega) h2 h3
theorem Rk.pre {H T : List Hn} {rk : Int → Nat} (h : Rk (H ++ T) rk) : Rk H rk := fun i hi => by
  have := h i (by rw [List.length_append]; omega)
  rw [List.getElem_append_left hi] at this
  exact this
theorem val0_app {H T : List Hn} (hi : HInv H) (hi' : HInv (H ++ T)) {x : Int} (h0 : 0 ≤ x) (h1 : x < (H.length : Int)) : val0 (H ++ T) x = val0 H x := by
  obtain ⟨rk, hr⟩ := hi'.acyc
  have e1 := wr_val0 hi' hr (n := rk x + 1) (by omega) h0 (by rw [List.length_append]; omega)
  have e2 := wr_val0 hi hr.pre (n := rk x + 1) (by omega) h0 h1
  rw [← e1, ← e2]
  exact wr_app hi hr.pre _ x (by omega) h0 h1
/-- What add makes of a graph that has all the variables. -/
structure AOk (A : List Nd) (m : List (Int × Int)) (G G' : List Sd) (k : Int) : Prop where
  inv : HInv (cG G')
  cnt : CntOk G'
  ext : ∃ T, G' = G ++ T
  idx : 0 ≤ k ∧ k < (G'.length : Int)
  val : ∀ val, Sol (cG G') val → val k = sbt (fun v => val ((lookL m v).getD (-1))) A
  len : G'.length ≤ G.length + A.length
def VarsIn (A : List Nd) (m : List (Int × Int)) (L : Nat) : Prop := ∀ v ∈ vsN A, ∃ i : Nat, lookL m v = some (i : Int) ∧ i < L
theorem cG_app (G T : List Sd) : cG (G ++ T) = cG G ++ cG T := List.map_append
theorem addVL {self : SV → List Nd → Option (Int × SV)} {As : List (List Nd)} {m : List (Int × Int)} (hc9 : As.length ≤ 9)
    (hself : ∀ (A : List Nd) (G : List Sd), A ∈ As → HInv (cG G) → CntOk G → VarsIn A m G.length → G.length + A.length ≤ 1000000 → ∃ k G', self (G, m) A = some (k, (G', m)) ∧ AOk A m G G' k) :
    ∀ (Bs : List (List Nd)) (j : Nat) (G : List Sd) (acc : List Int), As.drop j = Bs → j + Bs.length = As.length → acc.length ≤ j → HInv (cG G) → CntOk G → VarsIn Bs.flatten m G.length → G.length + Bs.flatten.length ≤ 1000000 →
      ∃ ks G', (∀ K n, Bs.length < n → m_ref6_solver_add_L2 self As K n G m acc (j : Int) = K G' m (acc ++ ks)) ∧ ks.length = Bs.length ∧ HInv (cG G') ∧ CntOk G' ∧ (∃ T, G' = G ++ T) ∧ (∀ k ∈ ks, 0 ≤ k ∧ k < (G'.length : Int)) ∧ (∀ val, Sol (cG G') val → (ks.map val).flatten = sbt (fun v => val ((lookL m v).getD (-1))) Bs.flatten) ∧ G'.length ≤ G.length + Bs.flatten.length
  | [], j, G, acc, hd, hj, ha, hm, hct, hv, hl => by
    simp only [List.length_nil] at hj
    refine ⟨[], G, fun K n hn => ?_, rfl, hm, hct, ⟨[], by simp⟩, by simp, fun _ _ => rfl, by simp⟩
    obtain ⟨n, rfl⟩ : ∃ q, n = q + 1 := ⟨n - 1, by omega⟩
    rw [m_ref6_solver_add_L2, m_ref6_solver_add_B2, if_neg (by omega), List.append_nil]
  | A :: Bs, j, G, acc, hd, hj, ha, hm, hct, hv, hl => by
    simp only [List.length_cons] at hj
    rw [List.flatten_cons, List.length_append] at hl
    have hja : j < As.length := by omega
    have hxa : As[j] = A ∧ As.drop (j + 1) = Bs := by rw [List.drop_eq_getElem_cons hja] at hd; exact ⟨(List.cons.inj hd).1, (List.cons.inj hd).2⟩
    obtain ⟨k, G1, e1, a1⟩ := hself A G (by rw [← hxa.1]; exact List.getElem_mem hja) hm hct (fun v h => hv v (by rw [List.flatten_cons, vsN_app, List.mem_append]; exact .inl h)) (by omega)
    obtain ⟨T1, t1⟩ := a1.ext
    have hl1 : G1.length = G.length + T1.length := by rw [t1, List.length_append]
    have hlen := a1.len
    obtain ⟨ks, G2, e2, q2, i2, c2, ⟨T2, t2⟩, x2, v2, l2⟩ := addVL hc9 hself Bs (j + 1) G1 (acc ++ [k]) hxa.2 (by omega) (by simp; omega) a1.inv a1.cnt (fun v h => by
      obtain ⟨i, h1, h2⟩ := hv v (by rw [List.flatten_cons, vsN_app, List.mem_append]; exact .inr h)
      exact ⟨i, h1, by omega⟩) (by omega)
    refine ⟨k :: ks, G2, fun K n hn => ?_, by simp [q2], i2, c2, ⟨T1 ++ T2, by rw [t2, t1, List.append_assoc]⟩, fun x hx => ?_, fun val hS => ?_, by rw [List.flatten_cons, List.length_append]; omega⟩
    · simp only [List.length_cons] at hn
      obtain ⟨n, rfl⟩ : ∃ q, n = q + 1 := ⟨n - 1, by omega⟩
      rw [m_ref6_solver_add_L2, m_ref6_solver_add_B2, if_pos (by omega), need_pos (by omega), gi_nat hja, hxa.1, e1, bnd1_mk, need_pos (by simp; omega), i64s (by omega)]
      dsimp only
      rw [e2 _ _ (by omega), List.append_assoc]; rfl
    · have h2 : G2.length = G1.length + T2.length := by rw [t2, List.length_append]
      rcases List.mem_cons.1 hx with rfl | hx
      · have := a1.idx; omega
      · exact x2 x hx
    · have hS1 : Sol (cG G1) val := by rw [t2, cG_app] at hS; exact hS.pre
      rw [List.map_cons, List.flatten_cons, v2 val hS, a1.val val hS1, List.flatten_cons]
      exact List.flatMap_append.symm
theorem sAddV {m : List (Int × Int)} : ∀ (d n : Nat), d < n → ∀ (A : List Nd) (G : List Sd), Tr d A → A.length ≤ 512 → HInv (cG G) → CntOk G → VarsIn A m G.length → G.length + A.length ≤ 1000000 → ∃ k G', m_ref6_solver_add_S n (G, m) A = some (k, (G', m)) ∧ AOk A m G G' k
  | _, 0, h, _, _, _, _, _, _, _, _ => by omega
  | 0, n + 1, _, _, _, h, _, _, _, _, _ => h.elim
  | d + 1, n + 1, hn, A, G, hT, hA5, hm, hct, hv, hl => by
    obtain ⟨k, mm, As, hA, hf, hAs⟩ := id hT
    subst hA
    have g0 : gi ((k, mm, (As.length : Int)) :: As.flatten) 0 = (k, mm, (As.length : Int)) := rfl
    have hk9 := fm_kids hf
    dsimp only at hk9
    have hparts := wParts hAs hf hA5
    rw [List.length_cons] at hA5 hl
    by_cases hk : k = 1
    · subst hk
      have hl0 := (var_kids hf rfl).1
      dsimp only at hl0
      obtain rfl := List.eq_nil_of_length_eq_zero (show As.length = 0 by omega)
      obtain ⟨i, h1, h2⟩ := hv mm (by simp [vsN])
      refine ⟨(i : Int), G, ?_, hm, hct, ⟨[], by simp⟩, ⟨by omega, by omega⟩, fun val _ => ?_, by omega⟩
      · rw [m_ref6_solver_add_S, m_ref6_solver_add_F]
        simp only [jn_eq]
        rw [need_pos (by simp), g0]
        dsimp only
        rw [if_pos rfl, need_pos (by simp), h1, Option.isSome_some, if_pos rfl]
        rfl
      · rw [show (((1 : Int), mm, ((([] : List (List Nd)).length : Nat) : Int)) :: ([] : List (List Nd)).flatten) = [(1, mm, 0)] from rfl, sbt_var, h1]; rfl
    · have hvs : vsN ((k, mm, (As.length : Int)) :: As.flatten) = vsN As.flatten := by rw [vsN, if_neg hk]
      unfold VarsIn at hv
      rw [hvs] at hv
      obtain ⟨ks, G2, e2, q2, i2, c2, ⟨T, t2⟩, x2, v2, l2⟩ := addVL (self := m_ref6_solver_add_S n) (As := As) (m := m) (by omega)
        (fun A G hA hm hct hv hl => sAddV d n (by omega) A G (hAs A hA) (by have := mem_flat_len hA; omega) hm hct hv hl)
        As 0 G [] rfl (by omega) (by simp) hm hct hv (by omega)
      rw [show ((0 : Nat) : Int) = 0 from rfl, List.nil_append] at e2
      have hi64 : i64 ((((G2 ++ [((k, mm, (As.length : Int)), ks, (-1 : Int))]).length : Nat) : Int) - 1) = (G2.length : Int) := by
        rw [List.length_append, List.length_singleton, i64_id (by omega)]; omega
      have hcl : (cG G2).length = G2.length := cG_len G2
      refine ⟨(G2.length : Int), G2 ++ [((k, mm, (As.length : Int)), ks, -1)], ?_, ?_, c2.snoc (by dsimp only; omega), ⟨T ++ [((k, mm, (As.length : Int)), ks, -1)], by rw [t2, List.append_assoc]⟩, ⟨by omega, by simp; omega⟩, fun val hS => ?_, ?_⟩
      · rw [m_ref6_solver_add_S, m_ref6_solver_add_F]
        simp only [jn_eq]
        rw [need_pos (by first | (simp; done) | (simp; omega)), g0]
        dsimp only
        rw [if_neg hk, hparts, bnd1_mk, e2 _ FU (by have := FU_ge; omega)]
        rw [need_pos (by first | (simp; done) | (simp; omega)), need_pos (by first | (simp; done) | (simp; omega)), need_pos (by first | (simp; done) | (simp; omega)), if_neg hk, hi64]
      · rw [cG_snoc]
        exact hinv_snoc i2 (by rw [q2]; exact hf) (by rw [hcl]; exact x2)
      · rw [cG_snoc] at hS
        have h5 := hS (cG G2).length (by simp)
        rw [List.getElem_append_right (Nat.le_refl _)] at h5
        simp only [Nat.sub_self, List.getElem_cons_zero, ne_eq, not_true_eq_false, ↓reduceIte, if_neg hk] at h5
        rw [hcl] at h5
        rw [h5, v2 val hS.pre, q2, sbt_cons, asg_not _ hk]; rfl
      · simp only [List.length_append, List.length_cons, List.length_nil]; omega
/-! ### fits -/
def MPr (H : List Hn) (x : Int) (p : Int × Int) : Prop := p.1 = min ((val0 H x).length : Int) 1048576 ∧ 1 ≤ p.2 ∧ p.2 ≤ 2000000 ∧ ∀ e : Nat, Tr e (val0 H x) ↔ p.2 ≤ (e : Int)
structure ArOk (H : List Hn) (sz dp : List Int) : Prop where
  ls : sz.length = H.length
  ld : dp.length = H.length
  ok : ∀ y : Nat, y < H.length → 0 < gi sz (y : Int) → MPr H (y : Int) (gi sz (y : Int), gi dp (y : Int))
abbrev MRs := Int × Int × SV × List Int × List Int
def MAr (G : List Sd) (m : List (Int × Int)) (x : Int) (o : Option MRs) : Prop := ∃ p sz dp, o = some (p.1, p.2, (G, m), sz, dp) ∧ MPr (cG G) x p ∧ ArOk (cG G) sz dp
theorem measrL {self : SV → Int → List Int → List Int → Option MRs} {G : List Sd} {m : List (Int × Int)} {y1 : Int × SV} (h0 : 0 ≤ y1.1) (h1 : y1.1 < (G.length : Int)) {ks : List Int} (hks : (gi G y1.1).2.1 = ks) (hk9 : ks.length ≤ 9)
    (hself : ∀ k ∈ ks, ∀ sz dp, ArOk (cG G) sz dp → MAr G m k (self (G, m) k sz dp)) (K : List Sd → List (Int × Int) → List Int → List Int → Int → Int → Option MRs) :
    ∀ (pa : List Int) (j n : Nat) (sz dp : List Int) (s : Nat) (d : Int), ks.drop j = pa → j + pa.length = ks.length → pa.length < n → ArOk (cG G) sz dp → 1 ≤ d → d ≤ 2000001 →
      ∃ sz' dp' d', m_ref6_solver_measure_L2 self y1 K n G m sz dp (min (s : Int) 1048576) d (j : Int) = K G m sz' dp' (min ((s + (pa.map (val0 (cG G))).flatten.length : Nat) : Int) 1048576) d' ∧ ArOk (cG G) sz' dp' ∧ 1 ≤ d' ∧ d' ≤ 2000001 ∧ ∀ e : Nat, d' ≤ (e : Int) + 1 ↔ d ≤ (e : Int) + 1 ∧ ∀ k ∈ pa, Tr e (val0 (cG G) k)
  | [], j, n, sz, dp, s, d, hd, hj, hn, hkn, d0, d1 => by
    obtain ⟨n, rfl⟩ : ∃ q, n = q + 1 := ⟨n - 1, by omega⟩
    simp only [List.length_nil] at hj
    exact ⟨sz, dp, d, by rw [m_ref6_solver_measure_L2, m_ref6_solver_measure_B2, need_pos (by omega), hks, if_neg (by omega)]; simp, hkn, d0, d1, by simp⟩
  | x :: pa, j, n, sz, dp, s, d, hd, hj, hn, hkn, d0, d1 => by
    obtain ⟨n, rfl⟩ : ∃ q, n = q + 1 := ⟨n - 1, by omega⟩
    simp only [List.length_cons] at hj hn
    have hja : j < ks.length := by omega
    have hxa : ks[j] = x ∧ ks.drop (j + 1) = pa := by rw [List.drop_eq_getElem_cons hja] at hd; exact ⟨(List.cons.inj hd).1, (List.cons.inj hd).2⟩
    obtain ⟨p, sz1, dp1, e1, ⟨m1, m2, m3, m4⟩, k1⟩ := hself x (by rw [← hxa.1]; exact List.getElem_mem hja) sz dp hkn
    obtain ⟨sz2, dp2, d2, e2, k2, d20, d21, d22⟩ := measrL h0 h1 hks hk9 hself K pa (j + 1) n sz1 dp1 (s + (val0 (cG G) x).length) (max d (p.2 + 1)) hxa.2 (by omega) (by omega) k1 (by omega) (by omega)
    refine ⟨sz2, dp2, d2, ?_, k2, d20, d21, fun e => ?_⟩
    · rw [m_ref6_solver_measure_L2, m_ref6_solver_measure_B2, need_pos (by omega), hks, if_pos (by omega), need_pos (by omega), need_pos (by omega), gi_nat hja, hxa.1, e1, bnd1_mk, i64s (by omega)]
      dsimp only
      rw [m1, i64_id (by omega), i64_id (by omega), show min (min (s : Int) 1048576 + min ((val0 (cG G) x).length : Int) 1048576) 1048576 = min ((s + (val0 (cG G) x).length : Nat) : Int) 1048576 by omega, e2, List.map_cons, List.flatten_cons, List.length_append, Nat.add_assoc]
    · rw [d22 e]
      have := m4 e
      simp only [List.mem_cons, forall_eq_or_imp, this]
      constructor
      · rintro ⟨h1, h2⟩; exact ⟨by omega, by omega, h2⟩
      · rintro ⟨h1, h2, h3⟩; exact ⟨by omega, h3⟩
theorem measr_ok {G : List Sd} (hi : HInv (cG G)) (hl : G.length ≤ 1000000) {rk : Int → Nat} (hr : Rk (cG G) rk) (hrb : ∀ x, rk x ≤ G.length) (m : List (Int × Int)) : ∀ (n : Nat) (x : Int) (sz dp : List Int), rk x < n → 0 ≤ x → x < (G.length : Int) → ArOk (cG G) sz dp → MAr G m x (m_ref6_solver_measure_S n (G, m) x sz dp)
  | 0, _, _, _, h, _, _, _ => by omega
  | n + 1, x, sz, dp, hnn, x0, x1, hkn => by
    obtain ⟨y, e1, _, hy, fy, vy, ry⟩ := sFind hi hl hr hrb m x0 x1
    have hv := val0_root hi vy
    have g : gi G (y : Int) = G[y] := gi_nat hy
    have hy' : y < (cG G).length := by rw [cG_len]; exact hy
    have ca := cG_get hy
    have hform := hi.form y hy'
    have hkids := hi.kids y hy'
    have hrky := (hr y hy').2
    have hfree := val0_free hi hy' (by rw [ca]; exact fy)
    rw [ca] at hform hkids hrky hfree
    dsimp only [hn] at hform hkids hrky hfree
    rw [cG_len] at hkids
    have hk9 := fm_kids hform
    dsimp only at hk9
    have hls := hkn.ls
    have hld := hkn.ld
    rw [cG_len] at hls hld
    have hconv : ∀ p, MPr (cG G) (y : Int) p → MPr (cG G) x p := fun p h => by unfold MPr at h ⊢; rw [hv]; exact h
    rw [m_ref6_solver_measure_S, m_ref6_solver_measure_F, e1, bnd1_mk]
    dsimp only
    rw [need_pos (by omega)]
    by_cases hpos : 0 < gi sz (y : Int)
    · rw [if_pos hpos, need_pos (by omega), need_pos (by omega)]
      exact ⟨(gi sz (y : Int), gi dp (y : Int)), sz, dp, rfl, hconv _ (hkn.ok y hy' hpos), hkn⟩
    · rw [if_neg hpos, jn_eq]
      obtain ⟨sz', dp', d', e2, k2, d0, d1, d2⟩ := measrL (self := m_ref6_solver_measure_S n) (G := G) (m := m) (y1 := ((y : Int), (G, m))) (by dsimp only; omega) (by dsimp only; omega) (ks := G[y].2.1) (by dsimp only; rw [g]) (by omega) (fun k hk sz dp hkn => by
        have h1 := hkids k hk
        have h2 := hrky fy k hk
        exact measr_ok hi hl hr hrb m n k sz dp (by omega) h1.1 h1.2 hkn)
        (fun (x0_0_j6 : List Sd) (x0_1_j6 : List (Int × Int)) (x2_j6 : List Int) (x3_j6 : List Int) (x10_j6 : Int) (x11_j6 : Int) => need ((0 : Int) ≤ (y : Int) ∧ (y : Int) < (List.length x2_j6 : Int)) (need ((0 : Int) ≤ (y : Int) ∧ (y : Int) < (List.length x3_j6 : Int)) (some (x10_j6, x11_j6, (x0_0_j6, x0_1_j6), (List.set x2_j6 (Int.toNat (y : Int)) x10_j6), (List.set x3_j6 (Int.toNat (y : Int)) x11_j6)))))
        G[y].2.1 0 FU sz dp 1 1 rfl (by omega) (by have := FU_ge; omega) hkn (by omega) (by omega)
      rw [show min ((1 : Nat) : Int) 1048576 = 1 from rfl, show ((0 : Nat) : Int) = 0 from rfl] at e2
      have hls2 := k2.ls
      have hld2 := k2.ld
      rw [cG_len] at hls2 hld2
      rw [e2, need_pos (by omega), need_pos (by omega), Int.toNat_natCast]
      have hdk : ∀ k ∈ G[y].2.1, ∃ d, Tr d (val0 (cG G) k) := fun k hk => by
        have h1 := hkids k hk
        obtain ⟨j, rfl⟩ : ∃ j : Nat, k = (j : Int) := ⟨k.toNat, by omega⟩
        exact ⟨_, val0_dep hi hr (rk (j : Int) + 1) j (by omega) (by rw [cG_len]; omega)⟩
      have hdep : d' ≤ (rk (y : Int) : Int) + 1 := by
        rw [d2]
        refine ⟨by omega, fun k hk => ?_⟩
        have h1 := hkids k hk
        have h2 := hrky fy k hk
        obtain ⟨j, rfl⟩ : ∃ j : Nat, k = (j : Int) := ⟨k.toNat, by omega⟩
        exact (val0_dep hi hr (rk (j : Int) + 1) j (by omega) (by rw [cG_len]; omega)).le (by omega)
      have hmp : MPr (cG G) (y : Int) (min ((1 + (G[y].2.1.map (val0 (cG G))).flatten.length : Nat) : Int) 1048576, d') := by
        have hrb' := hrb (y : Int)
        refine ⟨?_, by dsimp only; omega, by dsimp only; omega, fun e => ?_⟩
        · dsimp only
          rw [hfree, List.length_cons, Nat.add_comm]
        · rw [hfree]
          match e with
          | 0 => exact ⟨fun h => h.elim, fun h => by dsimp only at h; omega⟩
          | e + 1 =>
            rw [tr_node hform hdk]
            have := d2 e
            dsimp only
            constructor
            · intro h; have := this.2 ⟨by omega, h⟩; omega
            · intro h; exact (this.1 (by omega)).2
      refine ⟨(_, d'), _, _, rfl, hconv _ hmp, ⟨by rw [List.length_set]; exact k2.ls, by rw [List.length_set]; exact k2.ld, fun z hz hp => ?_⟩⟩
      rw [cG_len] at hz
      rw [gi_nat (by rw [List.length_set]; omega), List.getElem_set] at hp ⊢
      rw [gi_nat (by rw [List.length_set]; omega), List.getElem_set]
      by_cases e : y = z
      · subst e
        rw [if_pos rfl, if_pos rfl]; exact hmp
      · rw [if_neg e] at hp ⊢
        rw [if_neg e]
        have := k2.ok z (by rw [cG_len]; exact hz)
        rw [gi_nat (by omega), gi_nat (by omega)] at this
        exact this hp
end Go.Proofs.YtdfdjgolijckfaaDoor
